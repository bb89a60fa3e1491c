/- A part of the proof: HD HE OC T0 TL TM TN TP TQ TR HF HG HI W1 W2 W3 W4 HW W5 LT0 LT1 LT2 LT3 R12 HV NJ W6 W7 W8 TX1 TX2 GI: each text has a comment of its own. -/
import Derived.Test.YtilmobdncapnbaaGreatPm4
import Derived.Test.YtilmobdncapnbaaGreatPm5
import Derived.Test.YtilmobdncapnbaaGreatPm6
import Derived.Test.YtilmobdncapnbaaGreatPm7
import Derived.Lib.Bytealg
set_option linter.unusedVariables false
set_option linter.unusedSimpArgs false
set_option linter.constructorNameAsVariable false
set_option maxRecDepth 100000
namespace Go.Dd
theorem jU : ∀ p q : Pos, lB p q = true → p = q
 | .h, .h, _ => rfl
 | .h, .o q, h => by cases h
 | .h, .i q, h => by cases h
 | .o p, .h, h => by cases h
 | .o p, .o q, h => by rw [jU p q h]
 | .o p, .i q, h => by cases h
 | .i p, .h, h => by cases h
 | .i p, .o q, h => by cases h
 | .i p, .i q, h => by rw [jU p q h]
theorem mU (x y : Int) (h : gI x y = true) : x = y := by
 cases x <;> cases y <;> simp only [gI] at h
 ·rw [Nat.eq_of_beq_eq_true h]
 ·cases h
 ·cases h
 ·rw [Nat.eq_of_beq_eq_true h]
theorem aHp : ∀ t u : WT, wtE t u = true → t = u
 | .e, .e, _ => rfl
 | .e, .n _ _ _, h => by cases h
 | .n _ _ _, .e, h => by cases h
 | .n l v r, .n l' v' r', h => by
  have h' : (gI v v' && (wtE l l' && wtE r r')) = true := h
  simp only [Bool.and_eq_true] at h'
  rw [mU _ _ h'.1, aHp _ _ h'.2.1, aHp _ _ h'.2.2]
theorem aBx (x y : DV) (h : dvE x y = true) : x = y := by
 unfold dvE at h
 split at h <;> (try (cases h; done)) <;> (try rfl)
 ·rw [mU _ _ h]
 ·rw [(pI _ _).1 h]
 ·simp only [Bool.and_eq_true] at h
  rw [jU _ _ h.1, Nat.eq_of_beq_eq_true h.2]
 ·simp only [Bool.and_eq_true] at h
  rw [jU _ _ h.1, Nat.eq_of_beq_eq_true h.2.1, Nat.eq_of_beq_eq_true h.2.2.1, Nat.eq_of_beq_eq_true h.2.2.2]
 ·rw [jU _ _ h]
 ·simp at h; rw [h]
theorem aGs : ∀ l m : List DV, cPa l m = true → l = m
 | [], [], _ => rfl
 | [], _ :: _, h => by cases h
 | _ :: _, [], h => by cases h
 | x :: l, y :: m, h => by
  have h' : (dvE x y && cPa l m) = true := h
  simp only [Bool.and_eq_true] at h'
  rw [aBx _ _ h'.1, aGs _ _ h'.2]
theorem bAr : ∀ l m : List (DV × DV), cYv l m = true → l = m
 | [], [], _ => rfl
 | [], _ :: _, h => by cases h
 | _ :: _, [], h => by cases h
 | x :: l, y :: m, h => by
  have h' : (dvE x.1 y.1 && (dvE x.2 y.2 && cYv l m)) = true := h
  simp only [Bool.and_eq_true] at h'
  rw [bAr _ _ h'.2.2]
  congr 1
  exact Prod.ext (aBx _ _ h'.1) (aBx _ _ h'.2.1)
theorem cWy (o p : Ob) (h : obE o p = true) : o = p := by
 unfold obE at h
 split at h <;> (try (cases h; done))
 ·rw [aGs _ _ h]
 ·rw [bAr _ _ h]
 ·simp only [Bool.and_eq_true] at h
  rw [Nat.eq_of_beq_eq_true h.1, aHp _ _ h.2]
 ·rw [aHp _ _ h]
theorem vB (t : Tr Ob) : ∀ l : List (Pos × Ob), aXz t l = true → ∀ x ∈ l, t.get x.1 = some x.2
 | [], _, x, hx => by cases hx
 | y :: l, h, x, hx => by
  have h' : ((match t.get y.1 with
   | some o => obE o y.2
   | none => false) && aXz t l) = true := h
  simp only [Bool.and_eq_true] at h'
  rcases List.mem_cons.1 hx with rfl | hx
  ·have h1 := h'.1
   split at h1
   ·rename_i o ho
    rw [ho, cWy _ _ h1]
   ·cases h1
  ·exact vB t l h'.2 x hx
theorem yU : ∀ (l : List (Pos × Ob)) (b : Pos) (o : Ob), (cTz l).get b = some o → (b, o) ∈ l
 | [], b, o, h => by cases b <;> cases h
 | y :: l, b, o, h => by
  have h' : (Tr.set y.2 y.1 (cTz l)).get b = some o := h
  by_cases e : b = y.1
  ·subst e
   rw [dUm] at h'
   simp only [bG] at h'
   rw [← h']
   exact List.mem_cons_self
  ·rw [dUl _ _ _ _ e] at h'
   exact List.mem_cons_of_mem _ (yU l b o h')
theorem jJ (o : Ob) : tB true o o := by cases o <;> simp [tB]
theorem Sim.refl (h : Hp) : Sim true h h := ⟨rfl, fun b o hb => ⟨o, hb, jJ o⟩⟩
theorem jV {o o' : Ob} (h : tB true o o') : o' = o := by cases o <;> simpa [tB] using h
theorem Sim.trans {a b c : Hp} (h : Sim true a b) (k : Sim true b c) : Sim true a c := ⟨k.next.trans h.next, fun p o hp => by
 obtain ⟨o', h1, h2⟩ := h.get p o hp
 rw [jV h2] at h1
 exact k.get p o h1⟩
theorem aTh {r : aI} {vs : List DV} {nx : Nat} {l : List (Pos × Ob)} (h : lJ r vs nx l = true) : ∃ g, r = some (.t vs, g) ∧ Sim true (gX nx l) g := by
 unfold lJ at h
 split at h <;> (try (cases h; done))
 rename_i us g
 simp only [Bool.and_eq_true] at h
 refine ⟨g, by rw [aGs _ _ h.1], ?_, fun b o hb => ⟨o, ?_, jJ o⟩⟩
 ·exact jU _ _ h.2.1
 ·exact vB _ _ h.2.2 (b, o) (yU _ _ _ hb)
end Go.Dd

namespace Go.Dd
open Go.Proofs
noncomputable section
def pN0 : Code := cf Tryz.f40
def pN1 : Code := cR pN0
def pN2 : Code := cR pN1
def pN3 : Code := cR pN2
def pN4 : Code := cR pN3
def pN5 : Code := cR pN4
def pN6 : Code := cR pN5
def cNu : Code := .seq (cL pN0) (.seq (cL pN1) (.seq (cL pN2) (.seq (cL pN3) (.seq (cL pN4) (.seq (cL pN5) (cL (cL pN6)))))))
def bWn : Code := cR (cL pN6)
def dOf : Code := cR pN6
def hS : Hp := ⟨aU 1, .e⟩
def dLt : K := fun e h => some (.t [e 5, e 155, e 156, e 157], h)
def dEq (n : Nat) : aI := aM CF (cQ 899) 179 899 cNu (fun _ _ _ => none) (fun _ _ => none) dLt (aG [.i .i64 (.ofNat n)]) hS
end
theorem he0 : lJ (dEq 30000) (kJ 0) 432 (mR 30000 553 84 18 [1076, 1096, 6, 24, 42, 60, 78, 96, 114, 132, 150, 168, 186, 204, 222, 240, 258, 276] [(10, 0), (19, 0), (46, 0), (55, 0), (64, 0), (91, 0), (100, 0), (109, 0), (118, 0), (127, 0), (145, 0)] 0) = true := by kernel_rfl
end Go.Dd

namespace Go.Dd
inductive Out where
 | n (e : aW) (h : Hp)
 | x (i : Nat) (e : aW) (h : Hp)
 | r (e : aW) (h : Hp)
def dVm (o : Option Out) (X : Nat → K) (kr k : K) : aI :=
 match o with
 | none => none
 | some (.n e h) => k e h
 | some (.x i e h) => X i e h
 | some (.r e h) => kr e h
section
variable {C : Cfg} {rec : FuncId → List DV → Hp → aI} {nt : Nat}
theorem aWg (all : Array Oper) : ∀ l : List Oper, ∃ O : aW → Hp → Option (aW × Hp), ∀ k env h, iT C rec nt all l k env h = match O env h with
  | none => none
  | some (e, h) => k e h
 | [] => ⟨fun e h => some (e, h), fun k env h => rfl⟩
 | o :: l => by
  obtain ⟨O, hO⟩ := aWg all l
  refine ⟨fun env h => bif cZ nt o.dst then (match bM C rec all o env h with
   | some (v, h') => O (bN env o.dst v) h'
   | none => none) else none, fun k env h => ?_⟩
  change cnd (cZ nt o.dst) (bnd (bM C rec all o env h) fun v h' => iT C rec nt all l k (bN env o.dst v) h') = _
  cases cZ nt o.dst with
  | false => rfl
  | true =>
   simp only [cond_true]
   cases hs : bM C rec all o env h with
   | none => rfl
   | some p => exact hO k _ _
theorem aJy (all : Array Oper) (m : Array Nat) (p0 : Pos) : ∀ (l : List Oper) (i c : Nat) (dirty : Bool) (rd : List Seen) (hs : List (Option Nat × Hp)), ∃ O : aW → Hp → Option (aW × Hp),
  ∀ k env h, eJ C rec nt all m p0 l k i c dirty rd hs env h = match O env h with
   | none => none
   | some (e, h) => k e h
 | [], i, c, dirty, rd, hs => ⟨fun e h => some (e, h), fun k env h => rfl⟩
 | o :: l, i, c, dirty, rd, hs => by
  have ih := aJy all m p0 l
  cases hc : bU C.P o.op with
  | pure =>
   obtain ⟨O, hO⟩ := ih (i + 1) c dirty rd hs
   refine ⟨fun env h => bif cZ nt o.dst then (match bM C rec all o env h with
    | some (v, h') => O (bN env o.dst v) h'
    | none => none) else none, fun k env h => ?_⟩
   have e : eJ C rec nt all m p0 (o :: l) k i c dirty rd hs env h = cnd (cZ nt o.dst) (bnd (bM C rec all o env h) fun v h' => eJ C rec nt all m p0 l k (i + 1) c dirty rd hs (bN env o.dst v) h') := by
    change cnd (cZ nt o.dst) (match bU C.P o.op with | .pure => _ | .reads => _ | .makes => _ | .acts => _) = _
    rw [hc]
    rfl
   rw [e]
   cases cZ nt o.dst with
   | false => rfl
   | true =>
    simp only [cond_true]
    cases hs : bM C rec all o env h with
    | none => rfl
    | some p => exact hO k _ _
  | reads =>
   have hex : ∀ (env : aW) (v : DV), ∃ O : aW → Hp → Option (aW × Hp), ∀ k e h, eJ C rec nt all m p0 l k (i + 1) c dirty (⟨i, bM C rec all o env, v⟩ :: rd) hs e h = match O e h with
    | none => none
    | some (e, h) => k e h := fun env v => ih (i + 1) c dirty (⟨i, bM C rec all o env, v⟩ :: rd) hs
   refine ⟨fun env h => bif cZ nt o.dst then (match bM C rec all o env h with
    | some (v, h') => bif eL m i v (bM C rec all o env) dirty hs then (hex env v).choose (bN env o.dst v) h' else none
    | none => none) else none, fun k env h => ?_⟩
   have e : eJ C rec nt all m p0 (o :: l) k i c dirty rd hs env h = cnd (cZ nt o.dst) (bnd (bM C rec all o env h) fun v h' =>
     cnd (eL m i v (bM C rec all o env) dirty hs) (eJ C rec nt all m p0 l k (i + 1) c dirty (⟨i, bM C rec all o env, v⟩ :: rd) hs (bN env o.dst v) h')) := by
    change cnd (cZ nt o.dst) (match bU C.P o.op with | .pure => _ | .reads => _ | .makes => _ | .acts => _) = _
    rw [hc]
    rfl
   rw [e]
   cases cZ nt o.dst with
   | false => rfl
   | true =>
    simp only [cond_true]
    cases hs2 : bM C rec all o env h with
    | none => rfl
    | some p =>
     obtain ⟨v, h'⟩ := p
     show cnd (eL m i v (bM C rec all o env) dirty hs) _ = _
     cases hcc : eL m i v (bM C rec all o env) dirty hs with
     | false => simp only [hcc, cond_false]
     | true => simp only [hcc, cond_true]; exact (hex env v).choose_spec k _ _
  | makes =>
   obtain ⟨O, hO⟩ := ih (i + 1) (c + 1) true rd hs
   refine ⟨fun env h => bif cZ nt o.dst then (match dU C o (bW c p0) env h with
    | some (v, h') => O (bN env o.dst v) h'
    | none => none) else none, fun k env h => ?_⟩
   have e : eJ C rec nt all m p0 (o :: l) k i c dirty rd hs env h = cnd (cZ nt o.dst) (bnd (dU C o (bW c p0) env h) fun v h' => eJ C rec nt all m p0 l k (i + 1) (c + 1) true rd hs (bN env o.dst v) h') := by
    change cnd (cZ nt o.dst) (match bU C.P o.op with | .pure => _ | .reads => _ | .makes => _ | .acts => _) = _
    rw [hc]
    rfl
   rw [e]
   cases cZ nt o.dst with
   | false => rfl
   | true =>
    simp only [cond_true]
    cases hs : dU C o (bW c p0) env h with
    | none => rfl
    | some p => exact hO k _ _
  | acts =>
   have hex : ∀ h' : Hp, ∃ O : aW → Hp → Option (aW × Hp), ∀ k e h, eJ C rec nt all m p0 l k (i + 1) c false rd ((some i, h') :: hs) e h = match O e h with
    | none => none
    | some (e, h) => k e h := fun h' => ih (i + 1) c false rd ((some i, h') :: hs)
   refine ⟨fun env h => bif cZ nt o.dst then (match bM C rec all o env h with
    | some (v, h') => bif rd.all (fun q => gB m q.at_ i || bJ (q.look h') q.v) then (hex h').choose (bN env o.dst v) h' else none
    | none => none) else none, fun k env h => ?_⟩
   have e : eJ C rec nt all m p0 (o :: l) k i c dirty rd hs env h = cnd (cZ nt o.dst) (bnd (bM C rec all o env h) fun v h' =>
     cnd (rd.all (fun q => gB m q.at_ i || bJ (q.look h') q.v)) (eJ C rec nt all m p0 l k (i + 1) c false rd ((some i, h') :: hs) (bN env o.dst v) h')) := by
    change cnd (cZ nt o.dst) (match bU C.P o.op with | .pure => _ | .reads => _ | .makes => _ | .acts => _) = _
    rw [hc]
    rfl
   rw [e]
   cases cZ nt o.dst with
   | false => rfl
   | true =>
    simp only [cond_true]
    cases hs2 : bM C rec all o env h with
    | none => rfl
    | some p =>
     obtain ⟨v, h'⟩ := p
     show cnd (rd.all (fun q => gB m q.at_ i || bJ (q.look h') q.v)) _ = _
     cases hcc : rd.all (fun q => gB m q.at_ i || bJ (q.look h') q.v) with
     | false => simp only [hcc, cond_false]
     | true => simp only [hcc, cond_true]; exact (hex h').choose_spec k _ _
theorem aLj (n : Nat) : ∀ c : Code, ∃ O : aW → Hp → Option Out, ∀ X kr k env h, aM C rec nt n c X kr k env h = dVm (O env h) X kr k := by
 have hfail : ∃ O : aW → Hp → Option Out, ∀ (X : Nat → K) (kr k : K) (env : aW) (h : Hp), dL env h = dVm (O env h) X kr k := ⟨fun _ _ => none, fun X kr k env h => rfl⟩
 intro c
 induction c with
 | skip => exact ⟨fun e h => some (.n e h), fun X kr k env h => rfl⟩
 | region id ops dr =>
  cases dr with
  | false =>
   obtain ⟨O, hO⟩ := aWg (C := C) (rec := rec) (nt := nt) ops ops.toList
   refine ⟨fun env h => (O env h).map fun p => .n p.1 p.2, fun X kr k env h => ?_⟩
   show iT C rec nt ops ops.toList k env h = _
   rw [hO]
   dsimp only
   cases hh : O env h <;> rfl
  | true =>
   cases hd : fE C.P ops with
   | false =>
    refine ⟨fun _ _ => none, fun X kr k env h => ?_⟩
    show (Bool.rec (motive := fun _ => K) dL (iH C rec nt ops k) (fE C.P ops)) env h = _
    rw [hd]; rfl
   | true =>
    have hex : ∀ h : Hp, _ := fun h => aJy (C := C) (rec := rec) (nt := nt) ops (Region.before ops) h.next ops.toList 0 0 false [] [(none, resv (cD C.P ops.toList) h)]
    refine ⟨fun env h => ((hex h).choose env (resv (cD C.P ops.toList) h)).map fun p => .n p.1 p.2, fun X kr k env h => ?_⟩
    have e : aM C rec nt n (.region id ops true) X kr k env h = iH C rec nt ops k env h := by
     show (Bool.rec (motive := fun _ => K) dL (iH C rec nt ops k) (fE C.P ops)) env h = _
     rw [hd]
    rw [e]
    unfold iH
    rw [(hex h).choose_spec k env _]
    dsimp only
    cases hh : (hex h).choose env (resv (cD C.P ops.toList) h) <;> rfl
 | seq x y ihx ihy =>
  obtain ⟨O1, h1⟩ := ihx
  obtain ⟨O2, h2⟩ := ihy
  refine ⟨fun env h => match O1 env h with
   | some (.n e h) => O2 e h
   | o => o, fun X kr k env h => ?_⟩
  show aM C rec nt n x X kr (aM C rec nt n y X kr k) env h = _
  rw [h1]
  dsimp only
  cases ho : O1 env h with
  | none => rfl
  | some o =>
   cases o with
   | n e h' => exact h2 X kr k e h'
   | x i e h' => rfl
   | r e h' => rfl
 | cond c x y ihx ihy =>
  obtain ⟨O1, h1⟩ := ihx
  obtain ⟨O2, h2⟩ := ihy
  refine ⟨fun env h => match opr env c with
   | .b true => O1 env h
   | .b false => O2 env h
   | _ => none, fun X kr k env h => ?_⟩
  show aT (opr env c) (aM C rec nt n x X kr k env h) (aM C rec nt n y X kr k env h) = _
  rw [h1, h2]
  unfold aT
  dsimp only
  cases opr env c <;> try rfl
  rename_i b
  cases b <;> rfl
 | block id x ih =>
  obtain ⟨O1, h1⟩ := ih
  refine ⟨fun env h => match O1 env h with
   | some (.x i e h') => bif Nat.beq i id then some (.n e h') else some (.x i e h')
   | o => o, fun X kr k env h => ?_⟩
  show aM C rec nt n x (fun j => bif Nat.beq j id then k else X j) kr k env h = _
  rw [h1]
  dsimp only
  cases ho : O1 env h with
  | none => rfl
  | some o =>
   cases o with
   | n e h' => rfl
   | r e h' => rfl
   | x i e h' =>
    simp only [dVm]
    cases hb : Nat.beq i id with
    | true => rfl
    | false => rfl
 | loop x ih =>
  obtain ⟨O1, h1⟩ := ih
  have key : ∀ m : Nat, ∃ O : aW → Hp → Option Out, ∀ (X : Nat → K) (kr k : K) env h, aR (fun kk => aM C rec nt n x X kr kk) m env h = dVm (O env h) X kr k := by
   intro m
   induction m with
   | zero => exact ⟨fun _ _ => none, fun X kr k env h => rfl⟩
   | succ m ihm =>
    obtain ⟨O2, h2⟩ := ihm
    refine ⟨fun env h => match O1 env h with
     | some (.n e h) => O2 e h
     | o => o, fun X kr k env h => ?_⟩
    show aM C rec nt n x X kr (aR (fun kk => aM C rec nt n x X kr kk) m) env h = _
    rw [h1]
    dsimp only
    cases ho : O1 env h with
    | none => rfl
    | some o =>
     cases o with
     | n e h' => exact h2 X kr k e h'
     | x i e h' => rfl
     | r e h' => rfl
  exact key n
 | rangeFunc f ps x y ihx ihy => exact hfail
 | exit id => exact ⟨fun e h => some (.x id e h), fun X kr k env h => rfl⟩
 | scope x ih => exact ih
 | label l => exact ⟨fun e h => some (.n e h), fun X kr k env h => rfl⟩
 | goto l => exact hfail
 | ret => exact ⟨fun e h => some (.r e h), fun X kr k env h => rfl⟩
 | refuse why => exact hfail
end
end Go.Dd

namespace Go.Dd
open Go.Proofs
noncomputable def t20 (rec : FuncId → List DV → Hp → aI) (n : Nat) (x0 x1 : DV) (h0 : Hp) : aI :=
 bnd (aD .eql x1 (.i .i64 (Int.ofNat 0)) h0) fun v1 h1 =>
 bnd (gD v1 false (some (x1, h1)) h1) fun v2 h2 =>
 bnd (gD v1 false (aD .eql v2 (.i .i64 (Int.ofNat 2)) h2) h2) fun v3 h3 =>
 bnd (aQ v1 (.b true) v3 h3) fun v4 h4 =>
 bnd (gD v4 false (some (x1, h4)) h4) fun v5 h5 =>
 bnd (gD v4 false (aD .eql v5 (.i .i64 (Int.ofNat 4)) h5) h5) fun v6 h6 =>
 bnd (aQ v4 (.b true) v6 h6) fun v7 h7 =>
 bnd (gD v7 false (some (x1, h7)) h7) fun v8 h8 =>
 bnd (gD v7 false (rec 48 [v8] h8) h8) fun v9 h9 =>
 bnd (aQ v7 (.b true) v9 h9) fun v10 h10 =>
 bnd (gD v10 false (some (x0, h10)) h10) fun v11 h11 =>
 bnd (gD v10 false (some (x1, h11)) h11) fun v12 h12 =>
 bnd (gD v10 false (rec 31 [v11, v12] h12) h12) fun v13 h13 =>
 bnd (aQ v10 (.b true) v13 h13) fun v14 h14 =>
 some (v14, h14)
noncomputable def E20 (rec : FuncId → List DV → Hp → aI) (n : Nat) (c : Code) (X : Nat → K) (k : K) : K := aM CF1 rec 24 n c X (aP CF1 Tryz.f24) k
theorem dTg (rec : FuncId → List DV → Hp → aI) (n : Nat) : E20 rec n (cf Tryz.f24) x0 (aP CF1 Tryz.f24) = (fun (env : aW) (h : Hp) => t20 rec n (env 0) (env 1) h) :=
 (by kernel_rfl)
theorem dGy (rec : FuncId → List DV → Hp → aI) (n : Nat) (args : List DV) (h : Hp) : aE CF1 rec n 24 args h = t20 rec n (args.getD 0 aV) (args.getD 1 aV) h :=
 (by kernel_rfl : aE CF1 rec n 24 args h = E20 rec n (cf Tryz.f24) x0 (aP CF1 Tryz.f24) (aG args) h).trans ((congrFun (congrFun (dTg rec n) (aG args)) h).trans (by kernel_rfl))
noncomputable def t21 (rec : FuncId → List DV → Hp → aI) (n : Nat) (x0 x1 : DV) (h0 : Hp) : aI :=
 bnd (rec 65 [x1] h0) fun v1 h1 =>
 bnd (gD v1 true (some (x0, h1)) h1) fun v2 h2 =>
 bnd (gD v1 true (aO v2 h2) h2) fun v3 h3 =>
 bnd (gD v1 true (aC 3 v3 h3) h3) fun v4 h4 =>
 bnd (gD v1 true (aA v4 h4) h4) fun v5 h5 =>
 bnd (gD v1 true (some (x1, h5)) h5) fun v6 h6 =>
 bnd (gD v1 true (rec 66 [v6] h6) h6) fun v7 h7 =>
 cnd (bJ (gD v1 true (aA v4 h7) h7) v5 && true) (
 bnd (gD v1 true (dM (.int .i64) (.b false) false v5 v7 h7) h7) fun v8 h8 =>
 bnd (aQ v1 v8 (.b false) h8) fun v9 h9 =>
 some (v9, h9))
noncomputable def E21 (rec : FuncId → List DV → Hp → aI) (n : Nat) (c : Code) (X : Nat → K) (k : K) : K := aM CF1 rec 16 n c X (aP CF1 Tryz.f31) k
theorem dSz (rec : FuncId → List DV → Hp → aI) (n : Nat) : E21 rec n (cf Tryz.f31) x0 (aP CF1 Tryz.f31) = (fun (env : aW) (h : Hp) => t21 rec n (env 0) (env 1) h) :=
 (by kernel_rfl)
theorem dKx (rec : FuncId → List DV → Hp → aI) (n : Nat) (args : List DV) (h : Hp) : aE CF1 rec n 31 args h = t21 rec n (args.getD 0 aV) (args.getD 1 aV) h :=
 (by kernel_rfl : aE CF1 rec n 31 args h = E21 rec n (cf Tryz.f31) x0 (aP CF1 Tryz.f31) (aG args) h).trans ((congrFun (congrFun (dSz rec n) (aG args)) h).trans (by kernel_rfl))
noncomputable def t22 (rec : FuncId → List DV → Hp → aI) (n : Nat) (x0 : DV) (h0 : Hp) : aI :=
 bnd (aO x0 h0) fun v1 h1 =>
 bnd (aC 0 v1 h1) fun v2 h2 =>
 bnd (aA v2 h2) fun v3 h3 =>
 bnd (cJ v3 h3) fun v4 h4 =>
 some (v4, h4)
noncomputable def E22 (rec : FuncId → List DV → Hp → aI) (n : Nat) (c : Code) (X : Nat → K) (k : K) : K := aM CF1 rec 8 n c X (aP CF1 Tryz.f102) k
theorem dTa (rec : FuncId → List DV → Hp → aI) (n : Nat) : E22 rec n (cf Tryz.f102) x0 (aP CF1 Tryz.f102) = (fun (env : aW) (h : Hp) => t22 rec n (env 0) h) :=
 (by kernel_rfl)
theorem dFo (rec : FuncId → List DV → Hp → aI) (n : Nat) (args : List DV) (h : Hp) : aE CF1 rec n 102 args h = t22 rec n (args.getD 0 aV) h :=
 (by kernel_rfl : aE CF1 rec n 102 args h = E22 rec n (cf Tryz.f102) x0 (aP CF1 Tryz.f102) (aG args) h).trans ((congrFun (congrFun (dTa rec n) (aG args)) h).trans (by kernel_rfl))
noncomputable def t29 (rec : FuncId → List DV → Hp → aI) (n : Nat) (x0 : DV) (h0 : Hp) : aI :=
 bnd (aO x0 h0) fun v1 h1 =>
 bnd (aC 0 v1 h1) fun v2 h2 =>
 bnd (aA v2 h2) fun v3 h3 =>
 bnd (cJ v3 h3) fun v4 h4 =>
 bnd (aO x0 h4) fun v5 h5 =>
 bnd (aC 1 v5 h5) fun v6 h6 =>
 bnd (aA v6 h6) fun v7 h7 =>
 bnd (aD .sub v4 v7 h7) fun v8 h8 =>
 some (v8, h8)
noncomputable def E29 (rec : FuncId → List DV → Hp → aI) (n : Nat) (c : Code) (X : Nat → K) (k : K) : K := aM CF1 rec 13 n c X (aP CF1 Tryz.f86) k
theorem dSw (rec : FuncId → List DV → Hp → aI) (n : Nat) : E29 rec n (cf Tryz.f86) x0 (aP CF1 Tryz.f86) = (fun (env : aW) (h : Hp) => t29 rec n (env 0) h) :=
 (by kernel_rfl)
theorem dFz (rec : FuncId → List DV → Hp → aI) (n : Nat) (args : List DV) (h : Hp) : aE CF1 rec n 86 args h = t29 rec n (args.getD 0 aV) h :=
 (by kernel_rfl : aE CF1 rec n 86 args h = E29 rec n (cf Tryz.f86) x0 (aP CF1 Tryz.f86) (aG args) h).trans ((congrFun (congrFun (dSw rec n) (aG args)) h).trans (by kernel_rfl))
noncomputable def t30 (rec : FuncId → List DV → Hp → aI) (n : Nat) (x0 x1 x2 x3 : DV) (h0 : Hp) : aI :=
 bnd (rec 85 [x0, x1] h0) fun v1 h1 =>
 bnd (dR .not v1 h1) fun v2 h2 =>
 bnd (gD v2 false (some (x2, h2)) h2) fun v3 h3 =>
 bnd (gD v2 false (aD .lss v3 (.i .i64 (Int.ofNat 0)) h3) h3) fun v4 h4 =>
 bnd (aQ v2 (.b true) v4 h4) fun v5 h5 =>
 bnd (gD v5 false (some (x2, h5)) h5) fun v6 h6 =>
 bnd (gD v5 false (aD .gtr v6 (.i .i64 (Int.ofNat 2)) h6) h6) fun v7 h7 =>
 bnd (aQ v5 (.b true) v7 h7) fun v8 h8 =>
 bnd (gD v8 false (some (x3, h8)) h8) fun v9 h9 =>
 bnd (gD v8 false (aD .lss v9 (.i .i64 (Int.ofNat 0)) h9) h9) fun v10 h10 =>
 bnd (aQ v8 (.b true) v10 h10) fun v11 h11 =>
 bnd (gD v11 false (some (x3, h11)) h11) fun v12 h12 =>
 bnd (gD v11 false (aD .gtr v12 (.i .i64 (Int.ofNat 256)) h12) h12) fun v13 h13 =>
 bnd (aQ v11 (.b true) v13 h13) fun v14 h14 =>
 aT v14 (
  some (.t [(.i .i64 (Int.ofNat 0)), (.i .i64 (Int.ofNat 1))], h14)) (
  bnd (rec 86 [x0] h14) fun v15 h15 =>
  bnd (aD .add x3 (.i .i64 (Int.ofNat 3)) h15) fun v16 h16 =>
  bnd (aD .lss v15 v16 h16) fun v17 h17 =>
  bnd (gD v17 false (some (x0, h17)) h17) fun v18 h18 =>
  bnd (gD v17 false (aO v18 h18) h18) fun v19 h19 =>
  bnd (gD v17 false (aC 2 v19 h19) h19) fun v20 h20 =>
  bnd (gD v17 false (aA v20 h20) h20) fun v21 h21 =>
  bnd (gD v17 false (aD .geq v21 (.i .i64 (Int.ofNat 1099511627776)) h21) h21) fun v22 h22 =>
  bnd (aQ v17 (.b true) v22 h22) fun v23 h23 =>
  aT v23 (
   some (.t [(.i .i64 (Int.ofNat 0)), (.i .i64 (Int.ofNat 4))], h23)) (
   bnd (aO x0 h23) fun v24 h24 =>
   bnd (aC 1 v24 h24) fun v25 h25 =>
   bnd (aA v25 h25) fun v26 h26 =>
   bnd (aO x0 h26) fun v27 h27 =>
   bnd (aC 2 v27 h27) fun v28 h28 =>
   bnd (aA v28 h28) fun v29 h29 =>
   bnd (aD .add v29 (.i .i64 (Int.ofNat 1)) h29) fun v30 h30 =>
   bnd (aO x0 h30) fun v31 h31 =>
   bnd (aC 2 v31 h31) fun v32 h32 =>
   bnd (aH 1 v32 v30 h32) fun _ h33 =>
   bnd (aO x0 h33) fun v34 h34 =>
   bnd (aC 0 v34 h34) fun v35 h35 =>
   bnd (aA v35 h35) fun v36 h36 =>
   bnd (aO x0 h36) fun v37 h37 =>
   bnd (aC 0 v37 h37) fun v38 h38 =>
   bnd (aA v38 h38) fun v39 h39 =>
   bnd (aD .add v26 (.i .i64 (Int.ofNat 1)) h39) fun v40 h40 =>
   bnd (aO x0 h40) fun v41 h41 =>
   bnd (aC 0 v41 h41) fun v42 h42 =>
   bnd (aA v42 h42) fun v43 h43 =>
   bnd (aD .add v26 (.i .i64 (Int.ofNat 2)) h43) fun v44 h44 =>
   bnd (cS .shl x3 (.i .u64 (Int.ofNat 2)) h44) fun v45 h45 =>
   bnd (aD .or v45 x2 h45) fun v46 h46 =>
   bnd (aO x0 h46) fun v47 h47 =>
   bnd (aC 2 v47 h47) fun v48 h48 =>
   bnd (aA v48 h48) fun v49 h49 =>
   bnd (aJ 1 v36 v26 h49) fun v50 h50 =>
   bnd (aH 1 v50 v46 h50) fun v51 h51 =>
   bnd (aJ 1 v39 v40 h51) fun v52 h52 =>
   bnd (aH 1 v52 x1 h52) fun v53 h53 =>
   bnd (aJ 1 v43 v44 h53) fun v54 h54 =>
   bnd (aH 1 v54 v49 h54) fun v55 h55 =>
   bnd (aO x0 h55) fun v56 h56 =>
   bnd (aC 0 v56 h56) fun v57 h57 =>
   bnd (aA v57 h57) fun v58 h58 =>
   bnd (aD .add v26 (.i .i64 (Int.ofNat 3)) h58) fun v59 h59 =>
   bnd (aD .add v26 (.i .i64 (Int.ofNat 3)) h59) fun v60 h60 =>
   bnd (aD .add v60 x3 h60) fun v61 h61 =>
   bnd (cV 1 v58 (some v59) (some v61) h61) fun v62 h62 =>
   bnd (jG [(.i .i64 (Int.ofNat 0))] v62 h62) fun _ h63 =>
   bnd (aO x0 h63) fun v64 h64 =>
   bnd (aC 1 v64 h64) fun v65 h65 =>
   bnd (aA v65 h65) fun v66 h66 =>
   bnd (aD .add x3 (.i .i64 (Int.ofNat 3)) h66) fun v67 h67 =>
   bnd (aD .add v66 v67 h67) fun v68 h68 =>
   bnd (aO x0 h68) fun v69 h69 =>
   bnd (aC 1 v69 h69) fun v70 h70 =>
   bnd (aH 1 v70 v68 h70) fun _ h71 =>
   bnd (aO x0 h71) fun v72 h72 =>
   bnd (aC 3 v72 h72) fun v73 h73 =>
   bnd (aA v73 h73) fun v74 h74 =>
   bnd (fY (.int .i64) v74 v26 (.b true) h74) fun _ h75 =>
   bnd (rec 87 [v26] h75) fun v76 h76 =>
   bnd (aB 0 v76 h76) fun v77 h77 =>
   bnd (aB 1 v76 h77) fun v78 h78 =>
   some (.t [v77, (.i .i64 (Int.ofNat 0))], h78)))
noncomputable def E30 (rec : FuncId → List DV → Hp → aI) (n : Nat) (c : Code) (X : Nat → K) (k : K) : K := aM CF1 rec 118 n c X (aP CF1 Tryz.f47) k
theorem dPm (rec : FuncId → List DV → Hp → aI) (n : Nat) : E30 rec n (cf Tryz.f47) x0 (aP CF1 Tryz.f47) = (fun (env : aW) (h : Hp) => t30 rec n (env 0) (env 1) (env 2) (env 3) h) :=
 (by kernel_rfl)
theorem dMw (rec : FuncId → List DV → Hp → aI) (n : Nat) (args : List DV) (h : Hp) : aE CF1 rec n 47 args h = t30 rec n (args.getD 0 aV) (args.getD 1 aV) (args.getD 2 aV) (args.getD 3 aV) h :=
 (by kernel_rfl : aE CF1 rec n 47 args h = E30 rec n (cf Tryz.f47) x0 (aP CF1 Tryz.f47) (aG args) h).trans ((congrFun (congrFun (dPm rec n) (aG args)) h).trans (by kernel_rfl))
noncomputable def t41 (rec : FuncId → List DV → Hp → aI) (n : Nat) (x0 : DV) (h0 : Hp) : aI :=
 bnd (aD .lss x0 (.i .i64 (Int.ofNat 16)) h0) fun v1 h1 =>
 bnd (gD v1 false (some (x0, h1)) h1) fun v2 h2 =>
 bnd (gD v1 false (aD .gtr v2 (.i .i64 (Int.ofNat 131072)) h2) h2) fun v3 h3 =>
 bnd (aQ v1 (.b true) v3 h3) fun v4 h4 =>
 aT v4 (
  some (.p0, h4)) (
  bnd (cK 1 8 [(.i .i64 (Int.ofNat 0))] x0 x0 h4) fun v5 h5 =>
  bnd (dY h5) fun v6 h6 =>
  bnd (bD [.l0, (.i .i64 (Int.ofNat 0)), (.i .i64 (Int.ofNat 0)), .m0] [(0, 1, v5), (1, 1, (.i .i64 (Int.ofNat 3))), (3, 1, v6)] h6) fun v7 h7 =>
  bnd (bX v7 h7) fun v8 h8 =>
  some (v8, h8))
noncomputable def E41 (rec : FuncId → List DV → Hp → aI) (n : Nat) (c : Code) (X : Nat → K) (k : K) : K := aM CF1 rec 14 n c X (aP CF1 Tryz.f68) k
theorem dRx (rec : FuncId → List DV → Hp → aI) (n : Nat) : E41 rec n (cf Tryz.f68) x0 (aP CF1 Tryz.f68) = (fun (env : aW) (h : Hp) => t41 rec n (env 0) h) :=
 (by kernel_rfl)
theorem cRt (rec : FuncId → List DV → Hp → aI) (n : Nat) (args : List DV) (h : Hp) : aE CF1 rec n 68 args h = t41 rec n (args.getD 0 aV) h :=
 (by kernel_rfl : aE CF1 rec n 68 args h = E41 rec n (cf Tryz.f68) x0 (aP CF1 Tryz.f68) (aG args) h).trans ((congrFun (congrFun (dRx rec n) (aG args)) h).trans (by kernel_rfl))
noncomputable def t44 (rec : FuncId → List DV → Hp → aI) (n : Nat) (x0 x1 x2 : DV) (h0 : Hp) : aI :=
 bnd (rec 63 [x0, x1] h0) fun v1 h1 =>
 bnd (aD .eql v1 (.i .i64 (Int.ofNat 0)) h1) fun v2 h2 =>
 bnd (gD v2 false (some (x0, h2)) h2) fun v3 h3 =>
 bnd (gD v2 false (some (x2, h3)) h3) fun v4 h4 =>
 bnd (gD v2 false (rec 85 [v3, v4] h4) h4) fun v5 h5 =>
 bnd (gD v2 false (dR .not v5 h5) h5) fun v6 h6 =>
 bnd (aQ v2 (.b true) v6 h6) fun v7 h7 =>
 aT v7 (
  some ((.i .i64 (Int.ofNat 1)), h7)) (
  bnd (aO x0 h7) fun v8 h8 =>
  bnd (aC 0 v8 h8) fun v9 h9 =>
  bnd (aA v9 h9) fun v10 h10 =>
  bnd (aD .add v1 (.i .i64 (Int.ofNat 1)) h10) fun v11 h11 =>
  bnd (aJ 1 v10 v11 h11) fun v12 h12 =>
  bnd (aH 1 v12 x2 h12) fun _ h13 =>
  some ((.i .i64 (Int.ofNat 0)), h13))
noncomputable def E44 (rec : FuncId → List DV → Hp → aI) (n : Nat) (c : Code) (X : Nat → K) (k : K) : K := aM CF1 rec 27 n c X (aP CF1 Tryz.f70) k
theorem dSv (rec : FuncId → List DV → Hp → aI) (n : Nat) : E44 rec n (cf Tryz.f70) x0 (aP CF1 Tryz.f70) = (fun (env : aW) (h : Hp) => t44 rec n (env 0) (env 1) (env 2) h) :=
 (by kernel_rfl)
theorem dNh (rec : FuncId → List DV → Hp → aI) (n : Nat) (args : List DV) (h : Hp) : aE CF1 rec n 70 args h = t44 rec n (args.getD 0 aV) (args.getD 1 aV) (args.getD 2 aV) h :=
 (by kernel_rfl : aE CF1 rec n 70 args h = E44 rec n (cf Tryz.f70) x0 (aP CF1 Tryz.f70) (aG args) h).trans ((congrFun (congrFun (dSv rec n) (aG args)) h).trans (by kernel_rfl))
noncomputable def sB (rec : FuncId → List DV → Hp → aI) (n : Nat) (x0 x3 x9 : DV) (h0 : Hp) : aI :=
 bnd (aO x0 h0) fun v1 h1 =>
 bnd (aC 0 v1 h1) fun v2 h2 =>
 bnd (aA v2 h2) fun v3 h3 =>
 bnd (aJ 1 v3 x9 h3) fun v4 h4 =>
 bnd (aH 1 v4 x3 h4) fun _ h5 =>
 some ((.i .i64 (Int.ofNat 0)), h5)
noncomputable def aZl (rec : FuncId → List DV → Hp → aI) (n : Nat) (x0 x1 x3 x9 : DV) (h0 : Hp) : aI :=
 bnd (rec 38 [x0, x1] h0) fun v11 h11 =>
 bnd (aD .eql v11 (.i .i64 (Int.ofNat 0)) h11) fun v12 h12 =>
 aT v12 (
  bnd (rec 24 [x0, x3] h12) fun v13 h13 =>
  bnd (dR .not v13 h13) fun v14 h14 =>
  aT v14 (
   some ((.i .i64 (Int.ofNat 6)), h14)) (
   sB rec n x0 x3 x9 h14)) (
  bnd (aD .eql v11 (.i .i64 (Int.ofNat 2)) h12) fun v15 h15 =>
  aT v15 (
   bnd (aD .lss x3 (.i .i64 (Int.ofNat 0)) h15) fun v16 h16 =>
   bnd (gD v16 false (some (x3, h16)) h16) fun v17 h17 =>
   bnd (gD v16 false (aD .gtr v17 (.i .i64 (Int.ofNat 255)) h17) h17) fun v18 h18 =>
   bnd (aQ v16 (.b true) v18 h18) fun v19 h19 =>
   aT v19 (
    some ((.i .i64 (Int.ofNat 6)), h19)) (
    sB rec n x0 x3 x9 h19)) (
   sB rec n x0 x3 x9 h15))
noncomputable def aKp (rec : FuncId → List DV → Hp → aI) (n : Nat) (x0 x1 x3 x9 x10 : DV) (h0 : Hp) : aI :=
 bnd (aD .neq x10 (.i .i64 (Int.ofNat 0)) h0) fun v29 h29 =>
 aT v29 (
  some (x10, h29)) (
  aZl rec n x0 x1 x3 x9 h29)
noncomputable def bBz (rec : FuncId → List DV → Hp → aI) (n : Nat) (x0 x1 x2 x3 : DV) (h0 : Hp) : aI :=
 bnd (rec 64 [x0, x1, x2] h0) fun v31 h31 =>
 bnd (aB 0 v31 h31) fun v32 h32 =>
 bnd (aB 1 v31 h32) fun v33 h33 =>
 aKp rec n x0 x1 x3 v32 v33 h33
noncomputable def t47 (rec : FuncId → List DV → Hp → aI) (n : Nat) (x0 x1 x2 x3 : DV) (h0 : Hp) : aI :=
 bBz rec n x0 x1 x2 x3 h0
noncomputable def E47 (rec : FuncId → List DV → Hp → aI) (n : Nat) (c : Code) (X : Nat → K) (k : K) : K := aM CF1 rec 45 n c X (aP CF1 Tryz.f72) k
theorem cVj (rec : FuncId → List DV → Hp → aI) (n : Nat) : E47 rec n (cR (cR (cR (cR (cf Tryz.f72))))) x0 (aP CF1 Tryz.f72) = (fun (env : aW) (h : Hp) => sB rec n (env 0) (env 3) (env 9) h) :=
 (by kernel_rfl)
theorem cFx (rec : FuncId → List DV → Hp → aI) (n : Nat) : E47 rec n (cR (cR (cR (cf Tryz.f72)))) x0 (aP CF1 Tryz.f72) = E47 rec n (cL (cR (cR (cR (cf Tryz.f72))))) x0 (fun (env : aW) (h : Hp) => sB rec n (env 0) (env 3) (env 9) h) :=
 congrArg (fun k => E47 rec n (cL (cR (cR (cR (cf Tryz.f72))))) x0 k) (cVj rec n)
theorem dFj (rec : FuncId → List DV → Hp → aI) (n : Nat) : E47 rec n (cR (cR (cR (cf Tryz.f72)))) x0 (aP CF1 Tryz.f72) = (fun (env : aW) (h : Hp) => aZl rec n (env 0) (env 1) (env 3) (env 9) h) :=
 (cFx rec n).trans
 ((by kernel_rfl))
theorem cJw (rec : FuncId → List DV → Hp → aI) (n : Nat) : E47 rec n (cR (cR (cf Tryz.f72))) x0 (aP CF1 Tryz.f72) = E47 rec n (cL (cR (cR (cf Tryz.f72)))) x0 (fun (env : aW) (h : Hp) => aZl rec n (env 0) (env 1) (env 3) (env 9) h) :=
 congrArg (fun k => E47 rec n (cL (cR (cR (cf Tryz.f72)))) x0 k) (dFj rec n)
theorem cWv (rec : FuncId → List DV → Hp → aI) (n : Nat) : E47 rec n (cR (cR (cf Tryz.f72))) x0 (aP CF1 Tryz.f72) = (fun (env : aW) (h : Hp) => aKp rec n (env 0) (env 1) (env 3) (env 9) (env 10) h) :=
 (cJw rec n).trans
 ((by kernel_rfl))
theorem cMi (rec : FuncId → List DV → Hp → aI) (n : Nat) : E47 rec n (cR (cf Tryz.f72)) x0 (aP CF1 Tryz.f72) = E47 rec n (cL (cR (cf Tryz.f72))) x0 (fun (env : aW) (h : Hp) => aKp rec n (env 0) (env 1) (env 3) (env 9) (env 10) h) :=
 congrArg (fun k => E47 rec n (cL (cR (cf Tryz.f72))) x0 k) (cWv rec n)
theorem dDv (rec : FuncId → List DV → Hp → aI) (n : Nat) : E47 rec n (cR (cf Tryz.f72)) x0 (aP CF1 Tryz.f72) = (fun (env : aW) (h : Hp) => bBz rec n (env 0) (env 1) (env 2) (env 3) h) :=
 (cMi rec n).trans
 ((by kernel_rfl))
theorem dIl (rec : FuncId → List DV → Hp → aI) (n : Nat) : E47 rec n (cf Tryz.f72) x0 (aP CF1 Tryz.f72) = E47 rec n (cL (cf Tryz.f72)) x0 (fun (env : aW) (h : Hp) => bBz rec n (env 0) (env 1) (env 2) (env 3) h) :=
 congrArg (fun k => E47 rec n (cL (cf Tryz.f72)) x0 k) (dDv rec n)
theorem dQl (rec : FuncId → List DV → Hp → aI) (n : Nat) : E47 rec n (cf Tryz.f72) x0 (aP CF1 Tryz.f72) = (fun (env : aW) (h : Hp) => t47 rec n (env 0) (env 1) (env 2) (env 3) h) :=
 (dIl rec n).trans
 ((by kernel_rfl))
theorem dMx (rec : FuncId → List DV → Hp → aI) (n : Nat) (args : List DV) (h : Hp) : aE CF1 rec n 72 args h = t47 rec n (args.getD 0 aV) (args.getD 1 aV) (args.getD 2 aV) (args.getD 3 aV) h :=
 (by kernel_rfl : aE CF1 rec n 72 args h = E47 rec n (cf Tryz.f72) x0 (aP CF1 Tryz.f72) (aG args) h).trans ((congrFun (congrFun (dQl rec n) (aG args)) h).trans (by kernel_rfl))
noncomputable def t50 (rec : FuncId → List DV → Hp → aI) (n : Nat) (x0 x1 : DV) (h0 : Hp) : aI :=
 bnd (aO x0 h0) fun v1 h1 =>
 bnd (aC 0 v1 h1) fun v2 h2 =>
 bnd (aA v2 h2) fun v3 h3 =>
 bnd (rec 63 [x0, x1] h3) fun v4 h4 =>
 cnd (bJ (aA v2 h4) v3 && true) (
 bnd (aD .add v4 (.i .i64 (Int.ofNat 1)) h4) fun v5 h5 =>
 bnd (aJ 1 v3 v5 h5) fun v6 h6 =>
 bnd (aA v6 h6) fun v7 h7 =>
 some (v7, h7))
noncomputable def E50 (rec : FuncId → List DV → Hp → aI) (n : Nat) (c : Code) (X : Nat → K) (k : K) : K := aM CF1 rec 15 n c X (aP CF1 Tryz.f50) k
theorem dQb (rec : FuncId → List DV → Hp → aI) (n : Nat) : E50 rec n (cf Tryz.f50) x0 (aP CF1 Tryz.f50) = (fun (env : aW) (h : Hp) => t50 rec n (env 0) (env 1) h) :=
 (by kernel_rfl)
theorem dMt (rec : FuncId → List DV → Hp → aI) (n : Nat) (args : List DV) (h : Hp) : aE CF1 rec n 50 args h = t50 rec n (args.getD 0 aV) (args.getD 1 aV) h :=
 (by kernel_rfl : aE CF1 rec n 50 args h = E50 rec n (cf Tryz.f50) x0 (aP CF1 Tryz.f50) (aG args) h).trans ((congrFun (congrFun (dQb rec n) (aG args)) h).trans (by kernel_rfl))
noncomputable def t51 (rec : FuncId → List DV → Hp → aI) (n : Nat) (x0 x1 : DV) (h0 : Hp) : aI :=
 bnd (aO x0 h0) fun v1 h1 =>
 bnd (aC 0 v1 h1) fun v2 h2 =>
 bnd (aA v2 h2) fun v3 h3 =>
 bnd (rec 63 [x0, x1] h3) fun v4 h4 =>
 cnd (bJ (aA v2 h4) v3 && true) (
 bnd (aJ 1 v3 v4 h4) fun v5 h5 =>
 bnd (aA v5 h5) fun v6 h6 =>
 bnd (aD .and v6 (.i .i64 (Int.ofNat 3)) h6) fun v7 h7 =>
 some (v7, h7))
noncomputable def E51 (rec : FuncId → List DV → Hp → aI) (n : Nat) (c : Code) (X : Nat → K) (k : K) : K := aM CF1 rec 15 n c X (aP CF1 Tryz.f38) k
theorem dQr (rec : FuncId → List DV → Hp → aI) (n : Nat) : E51 rec n (cf Tryz.f38) x0 (aP CF1 Tryz.f38) = (fun (env : aW) (h : Hp) => t51 rec n (env 0) (env 1) h) :=
 (by kernel_rfl)
theorem dGx (rec : FuncId → List DV → Hp → aI) (n : Nat) (args : List DV) (h : Hp) : aE CF1 rec n 38 args h = t51 rec n (args.getD 0 aV) (args.getD 1 aV) h :=
 (by kernel_rfl : aE CF1 rec n 38 args h = E51 rec n (cf Tryz.f38) x0 (aP CF1 Tryz.f38) (aG args) h).trans ((congrFun (congrFun (dQr rec n) (aG args)) h).trans (by kernel_rfl))
noncomputable def t52 (rec : FuncId → List DV → Hp → aI) (n : Nat) (x0 x1 : DV) (h0 : Hp) : aI :=
 bnd (aO x0 h0) fun v1 h1 =>
 bnd (aC 0 v1 h1) fun v2 h2 =>
 bnd (aA v2 h2) fun v3 h3 =>
 bnd (rec 63 [x0, x1] h3) fun v4 h4 =>
 cnd (bJ (aA v2 h4) v3 && true) (
 bnd (aJ 1 v3 v4 h4) fun v5 h5 =>
 bnd (aA v5 h5) fun v6 h6 =>
 bnd (cS .shr v6 (.i .u64 (Int.ofNat 2)) h6) fun v7 h7 =>
 some (v7, h7))
noncomputable def E52 (rec : FuncId → List DV → Hp → aI) (n : Nat) (c : Code) (X : Nat → K) (k : K) : K := aM CF1 rec 15 n c X (aP CF1 Tryz.f27) k
theorem dRs (rec : FuncId → List DV → Hp → aI) (n : Nat) : E52 rec n (cf Tryz.f27) x0 (aP CF1 Tryz.f27) = (fun (env : aW) (h : Hp) => t52 rec n (env 0) (env 1) h) :=
 (by kernel_rfl)
theorem dJe (rec : FuncId → List DV → Hp → aI) (n : Nat) (args : List DV) (h : Hp) : aE CF1 rec n 27 args h = t52 rec n (args.getD 0 aV) (args.getD 1 aV) h :=
 (by kernel_rfl : aE CF1 rec n 27 args h = E52 rec n (cf Tryz.f27) x0 (aP CF1 Tryz.f27) (aG args) h).trans ((congrFun (congrFun (dRs rec n) (aG args)) h).trans (by kernel_rfl))
noncomputable def t54 (rec : FuncId → List DV → Hp → aI) (n : Nat) (x0 : DV) (h0 : Hp) : aI :=
 bnd (aD .and x0 (.i .i64 (Int.ofNat 1)) h0) fun v1 h1 =>
 bnd (aD .eql v1 (.i .i64 (Int.ofNat 1)) h1) fun v2 h2 =>
 bnd (gD v2 true (some (x0, h2)) h2) fun v3 h3 =>
 bnd (gD v2 true (cS .shr v3 (.i .u64 (Int.ofNat 1)) h3) h3) fun v4 h4 =>
 bnd (gD v2 true (rec 88 [v4, (.i .i64 (Int.negSucc 1073741823)), (.i .i64 (Int.ofNat 1073741823))] h4) h4) fun v5 h5 =>
 bnd (aQ v2 v5 (.b false) h5) fun v6 h6 =>
 some (v6, h6)
noncomputable def E54 (rec : FuncId → List DV → Hp → aI) (n : Nat) (c : Code) (X : Nat → K) (k : K) : K := aM CF1 rec 11 n c X (aP CF1 Tryz.f48) k
theorem dTm (rec : FuncId → List DV → Hp → aI) (n : Nat) : E54 rec n (cf Tryz.f48) x0 (aP CF1 Tryz.f48) = (fun (env : aW) (h : Hp) => t54 rec n (env 0) h) :=
 (by kernel_rfl)
theorem dJv (rec : FuncId → List DV → Hp → aI) (n : Nat) (args : List DV) (h : Hp) : aE CF1 rec n 48 args h = t54 rec n (args.getD 0 aV) h :=
 (by kernel_rfl : aE CF1 rec n 48 args h = E54 rec n (cf Tryz.f48) x0 (aP CF1 Tryz.f48) (aG args) h).trans ((congrFun (congrFun (dTm rec n) (aG args)) h).trans (by kernel_rfl))
noncomputable def t60 (rec : FuncId → List DV → Hp → aI) (n : Nat) (x0 : DV) (h0 : Hp) : aI :=
 bnd (rec 88 [x0, (.i .i64 (Int.negSucc 1073741823)), (.i .i64 (Int.ofNat 1073741823))] h0) fun v1 h1 =>
 bnd (dR .not v1 h1) fun v2 h2 =>
 aT v2 (
  some (.t [(.i .i64 (Int.ofNat 0)), (.b false)], h2)) (
  bnd (cS .shl x0 (.i .u64 (Int.ofNat 1)) h2) fun v3 h3 =>
  bnd (aD .or v3 (.i .i64 (Int.ofNat 1)) h3) fun v4 h4 =>
  some (.t [v4, (.b true)], h4))
noncomputable def E60 (rec : FuncId → List DV → Hp → aI) (n : Nat) (c : Code) (X : Nat → K) (k : K) : K := aM CF1 rec 10 n c X (aP CF1 Tryz.f81) k
theorem dUh (rec : FuncId → List DV → Hp → aI) (n : Nat) : E60 rec n (cf Tryz.f81) x0 (aP CF1 Tryz.f81) = (fun (env : aW) (h : Hp) => t60 rec n (env 0) h) :=
 (by kernel_rfl)
theorem dIg (rec : FuncId → List DV → Hp → aI) (n : Nat) (args : List DV) (h : Hp) : aE CF1 rec n 81 args h = t60 rec n (args.getD 0 aV) h :=
 (by kernel_rfl : aE CF1 rec n 81 args h = E60 rec n (cf Tryz.f81) x0 (aP CF1 Tryz.f81) (aG args) h).trans ((congrFun (congrFun (dUh rec n) (aG args)) h).trans (by kernel_rfl))
noncomputable def t62 (rec : FuncId → List DV → Hp → aI) (n : Nat) (x0 : DV) (h0 : Hp) : aI :=
 bnd (rec 48 [x0] h0) fun v1 h1 =>
 bnd (dR .not v1 h1) fun v2 h2 =>
 aT v2 (
  some ((.i .i64 (Int.ofNat 0)), h2)) (
  bnd (cS .shr x0 (.i .u64 (Int.ofNat 1)) h2) fun v3 h3 =>
  some (v3, h3))
noncomputable def E62 (rec : FuncId → List DV → Hp → aI) (n : Nat) (c : Code) (X : Nat → K) (k : K) : K := aM CF1 rec 8 n c X (aP CF1 Tryz.f49) k
theorem dQv (rec : FuncId → List DV → Hp → aI) (n : Nat) : E62 rec n (cf Tryz.f49) x0 (aP CF1 Tryz.f49) = (fun (env : aW) (h : Hp) => t62 rec n (env 0) h) :=
 (by kernel_rfl)
theorem dMu (rec : FuncId → List DV → Hp → aI) (n : Nat) (args : List DV) (h : Hp) : aE CF1 rec n 49 args h = t62 rec n (args.getD 0 aV) h :=
 (by kernel_rfl : aE CF1 rec n 49 args h = E62 rec n (cf Tryz.f49) x0 (aP CF1 Tryz.f49) (aG args) h).trans ((congrFun (congrFun (dQv rec n) (aG args)) h).trans (by kernel_rfl))
noncomputable def t63 (rec : FuncId → List DV → Hp → aI) (n : Nat) (x0 : DV) (h0 : Hp) : aI :=
 bnd (aD .and x0 (.i .i64 (Int.ofNat 1)) h0) fun v1 h1 =>
 bnd (aD .eql v1 (.i .i64 (Int.ofNat 0)) h1) fun v2 h2 =>
 bnd (gD v2 true (some (x0, h2)) h2) fun v3 h3 =>
 bnd (gD v2 true (cS .shr v3 (.i .u64 (Int.ofNat 1)) h3) h3) fun v4 h4 =>
 bnd (gD v2 true (rec 88 [v4, (.i .i64 (Int.ofNat 3)), (.i .i64 (Int.ofNat 131072))] h4) h4) fun v5 h5 =>
 bnd (aQ v2 v5 (.b false) h5) fun v6 h6 =>
 some (v6, h6)
noncomputable def E63 (rec : FuncId → List DV → Hp → aI) (n : Nat) (c : Code) (X : Nat → K) (k : K) : K := aM CF1 rec 11 n c X (aP CF1 Tryz.f65) k
theorem dOr (rec : FuncId → List DV → Hp → aI) (n : Nat) : E63 rec n (cf Tryz.f65) x0 (aP CF1 Tryz.f65) = (fun (env : aW) (h : Hp) => t63 rec n (env 0) h) :=
 (by kernel_rfl)
theorem dKz (rec : FuncId → List DV → Hp → aI) (n : Nat) (args : List DV) (h : Hp) : aE CF1 rec n 65 args h = t63 rec n (args.getD 0 aV) h :=
 (by kernel_rfl : aE CF1 rec n 65 args h = E63 rec n (cf Tryz.f65) x0 (aP CF1 Tryz.f65) (aG args) h).trans ((congrFun (congrFun (dOr rec n) (aG args)) h).trans (by kernel_rfl))
noncomputable def t64 (rec : FuncId → List DV → Hp → aI) (n : Nat) (x0 : DV) (h0 : Hp) : aI :=
 bnd (rec 65 [x0] h0) fun v1 h1 =>
 bnd (dR .not v1 h1) fun v2 h2 =>
 aT v2 (
  some ((.i .i64 (Int.ofNat 0)), h2)) (
  bnd (cS .shr x0 (.i .u64 (Int.ofNat 1)) h2) fun v3 h3 =>
  some (v3, h3))
noncomputable def E64 (rec : FuncId → List DV → Hp → aI) (n : Nat) (c : Code) (X : Nat → K) (k : K) : K := aM CF1 rec 8 n c X (aP CF1 Tryz.f66) k
theorem dSo (rec : FuncId → List DV → Hp → aI) (n : Nat) : E64 rec n (cf Tryz.f66) x0 (aP CF1 Tryz.f66) = (fun (env : aW) (h : Hp) => t64 rec n (env 0) h) :=
 (by kernel_rfl)
theorem dHy (rec : FuncId → List DV → Hp → aI) (n : Nat) (args : List DV) (h : Hp) : aE CF1 rec n 66 args h = t64 rec n (args.getD 0 aV) h :=
 (by kernel_rfl : aE CF1 rec n 66 args h = E64 rec n (cf Tryz.f66) x0 (aP CF1 Tryz.f66) (aG args) h).trans ((congrFun (congrFun (dSo rec n) (aG args)) h).trans (by kernel_rfl))
noncomputable def t73 (rec : FuncId → List DV → Hp → aI) (n : Nat) (x0 x1 x2 : DV) (h0 : Hp) : aI :=
 bnd (rec 64 [x0, x1, x2] h0) fun v1 h1 =>
 bnd (aB 0 v1 h1) fun v2 h2 =>
 bnd (aB 1 v1 h2) fun v3 h3 =>
 bnd (aD .neq v3 (.i .i64 (Int.ofNat 0)) h3) fun v4 h4 =>
 aT v4 (
  some (.t [(.i .i64 (Int.ofNat 0)), v3], h4)) (
  bnd (aO x0 h4) fun v5 h5 =>
  bnd (aC 0 v5 h5) fun v6 h6 =>
  bnd (aA v6 h6) fun v7 h7 =>
  bnd (aJ 1 v7 v2 h7) fun v8 h8 =>
  bnd (aA v8 h8) fun v9 h9 =>
  some (.t [v9, (.i .i64 (Int.ofNat 0))], h9))
noncomputable def E73 (rec : FuncId → List DV → Hp → aI) (n : Nat) (c : Code) (X : Nat → K) (k : K) : K := aM CF1 rec 27 n c X (aP CF1 Tryz.f28) k
theorem dUi (rec : FuncId → List DV → Hp → aI) (n : Nat) : E73 rec n (cf Tryz.f28) x0 (aP CF1 Tryz.f28) = (fun (env : aW) (h : Hp) => t73 rec n (env 0) (env 1) (env 2) h) :=
 (by kernel_rfl)
theorem cRn (rec : FuncId → List DV → Hp → aI) (n : Nat) (args : List DV) (h : Hp) : aE CF1 rec n 28 args h = t73 rec n (args.getD 0 aV) (args.getD 1 aV) (args.getD 2 aV) h :=
 (by kernel_rfl : aE CF1 rec n 28 args h = E73 rec n (cf Tryz.f28) x0 (aP CF1 Tryz.f28) (aG args) h).trans ((congrFun (congrFun (dUi rec n) (aG args)) h).trans (by kernel_rfl))
noncomputable def t74 (rec : FuncId → List DV → Hp → aI) (n : Nat) (x0 x1 : DV) (h0 : Hp) : aI :=
 bnd (aD .eql x1 (.i .i64 (Int.ofNat 0)) h0) fun v1 h1 =>
 bnd (gD v1 false (some (x0, h1)) h1) fun v2 h2 =>
 bnd (gD v1 false (some (x1, h2)) h2) fun v3 h3 =>
 bnd (gD v1 false (rec 31 [v2, v3] h3) h3) fun v4 h4 =>
 bnd (aQ v1 (.b true) v4 h4) fun v5 h5 =>
 some (v5, h5)
noncomputable def E74 (rec : FuncId → List DV → Hp → aI) (n : Nat) (c : Code) (X : Nat → K) (k : K) : K := aM CF1 rec 12 n c X (aP CF1 Tryz.f85) k
theorem dRp (rec : FuncId → List DV → Hp → aI) (n : Nat) : E74 rec n (cf Tryz.f85) x0 (aP CF1 Tryz.f85) = (fun (env : aW) (h : Hp) => t74 rec n (env 0) (env 1) h) :=
 (by kernel_rfl)
theorem dKn (rec : FuncId → List DV → Hp → aI) (n : Nat) (args : List DV) (h : Hp) : aE CF1 rec n 85 args h = t74 rec n (args.getD 0 aV) (args.getD 1 aV) h :=
 (by kernel_rfl : aE CF1 rec n 85 args h = E74 rec n (cf Tryz.f85) x0 (aP CF1 Tryz.f85) (aG args) h).trans ((congrFun (congrFun (dRp rec n) (aG args)) h).trans (by kernel_rfl))
noncomputable def t75 (rec : FuncId → List DV → Hp → aI) (n : Nat) (x0 : DV) (h0 : Hp) : aI :=
 bnd (rec 88 [x0, (.i .i64 (Int.ofNat 3)), (.i .i64 (Int.ofNat 131072))] h0) fun v1 h1 =>
 bnd (dR .not v1 h1) fun v2 h2 =>
 aT v2 (
  some (.t [(.i .i64 (Int.ofNat 0)), (.b false)], h2)) (
  bnd (cS .shl x0 (.i .u64 (Int.ofNat 1)) h2) fun v3 h3 =>
  some (.t [v3, (.b true)], h3))
noncomputable def E75 (rec : FuncId → List DV → Hp → aI) (n : Nat) (c : Code) (X : Nat → K) (k : K) : K := aM CF1 rec 9 n c X (aP CF1 Tryz.f87) k
theorem dPk (rec : FuncId → List DV → Hp → aI) (n : Nat) : E75 rec n (cf Tryz.f87) x0 (aP CF1 Tryz.f87) = (fun (env : aW) (h : Hp) => t75 rec n (env 0) h) :=
 (by kernel_rfl)
theorem dGq (rec : FuncId → List DV → Hp → aI) (n : Nat) (args : List DV) (h : Hp) : aE CF1 rec n 87 args h = t75 rec n (args.getD 0 aV) h :=
 (by kernel_rfl : aE CF1 rec n 87 args h = E75 rec n (cf Tryz.f87) x0 (aP CF1 Tryz.f87) (aG args) h).trans ((congrFun (congrFun (dPk rec n) (aG args)) h).trans (by kernel_rfl))
noncomputable def dDn (rec : FuncId → List DV → Hp → aI) (n : Nat) (x0 x1 : DV) (h0 : Hp) : aI :=
 bnd (rec 31 [x0, x1] h0) fun v1 h1 =>
 bnd (dR .not v1 h1) fun v2 h2 =>
 aT v2 (
  some ((.i .i64 (Int.ofNat 0)), h2)) (
  bnd (rec 66 [x1] h2) fun v3 h3 =>
  some (v3, h3))
noncomputable def dHe (rec : FuncId → List DV → Hp → aI) (n : Nat) (c : Code) (X : Nat → K) (k : K) : K := aM CF1 rec 11 n c X (aP CF1 Tryz.f63) k
theorem dLk (rec : FuncId → List DV → Hp → aI) (n : Nat) : dHe rec n (cf Tryz.f63) x0 (aP CF1 Tryz.f63) = (fun (env : aW) (h : Hp) => dDn rec n (env 0) (env 1) h) :=
 (by kernel_rfl)
theorem dDo (rec : FuncId → List DV → Hp → aI) (n : Nat) (args : List DV) (h : Hp) : aE CF1 rec n 63 args h = dDn rec n (args.getD 0 aV) (args.getD 1 aV) h :=
 (by kernel_rfl : aE CF1 rec n 63 args h = dHe rec n (cf Tryz.f63) x0 (aP CF1 Tryz.f63) (aG args) h).trans ((congrFun (congrFun (dLk rec n) (aG args)) h).trans (by kernel_rfl))
noncomputable def bCw (rec : FuncId → List DV → Hp → aI) (n : Nat) (x0 x1 x2 : DV) (h0 : Hp) : aI :=
 bnd (rec 63 [x0, x1] h0) fun v1 h1 =>
 bnd (aD .eql v1 (.i .i64 (Int.ofNat 0)) h1) fun v2 h2 =>
 aT v2 (
  some (.t [(.i .i64 (Int.ofNat 0)), (.i .i64 (Int.ofNat 1))], h2)) (
  bnd (aD .lss x2 (.i .i64 (Int.ofNat 0)) h2) fun v3 h3 =>
  bnd (gD v3 false (some (x2, h3)) h3) fun v4 h4 =>
  bnd (gD v3 false (some (x0, h4)) h4) fun v5 h5 =>
  bnd (gD v3 false (some (x1, h5)) h5) fun v6 h6 =>
  bnd (gD v3 false (rec 27 [v5, v6] h6) h6) fun v7 h7 =>
  bnd (gD v3 false (aD .geq v4 v7 h7) h7) fun v8 h8 =>
  bnd (aQ v3 (.b true) v8 h8) fun v9 h9 =>
  aT v9 (
   some (.t [(.i .i64 (Int.ofNat 0)), (.i .i64 (Int.ofNat 5))], h9)) (
   bnd (aD .add v1 (.i .i64 (Int.ofNat 3)) h9) fun v10 h10 =>
   bnd (aD .add v10 x2 h10) fun v11 h11 =>
   some (.t [v11, (.i .i64 (Int.ofNat 0))], h11)))
noncomputable def dIj (rec : FuncId → List DV → Hp → aI) (n : Nat) (c : Code) (X : Nat → K) (k : K) : K := aM CF1 rec 29 n c X (aP CF1 Tryz.f64) k
theorem dIo (rec : FuncId → List DV → Hp → aI) (n : Nat) : dIj rec n (cf Tryz.f64) x0 (aP CF1 Tryz.f64) = (fun (env : aW) (h : Hp) => bCw rec n (env 0) (env 1) (env 2) h) :=
 (by kernel_rfl)
theorem aEp (rec : FuncId → List DV → Hp → aI) (n : Nat) (args : List DV) (h : Hp) : aE CF1 rec n 64 args h = bCw rec n (args.getD 0 aV) (args.getD 1 aV) (args.getD 2 aV) h :=
 (by kernel_rfl : aE CF1 rec n 64 args h = dIj rec n (cf Tryz.f64) x0 (aP CF1 Tryz.f64) (aG args) h).trans ((congrFun (congrFun (dIo rec n) (aG args)) h).trans (by kernel_rfl))
noncomputable def cZz (rec : FuncId → List DV → Hp → aI) (n : Nat) (x0 x1 x2 : DV) (h0 : Hp) : aI :=
 bnd (aD .geq x0 x1 h0) fun v1 h1 =>
 bnd (gD v1 true (some (x0, h1)) h1) fun v2 h2 =>
 bnd (gD v1 true (some (x2, h2)) h2) fun v3 h3 =>
 bnd (gD v1 true (aD .leq v2 v3 h3) h3) fun v4 h4 =>
 bnd (aQ v1 v4 (.b false) h4) fun v5 h5 =>
 some (v5, h5)
noncomputable def dJh (rec : FuncId → List DV → Hp → aI) (n : Nat) (c : Code) (X : Nat → K) (k : K) : K := aM CF1 rec 15 n c X (aP CF1 Tryz.f88) k
theorem dMi (rec : FuncId → List DV → Hp → aI) (n : Nat) : dJh rec n (cf Tryz.f88) x0 (aP CF1 Tryz.f88) = (fun (env : aW) (h : Hp) => cZz rec n (env 0) (env 1) (env 2) h) :=
 (by kernel_rfl)
theorem cVr (rec : FuncId → List DV → Hp → aI) (n : Nat) (args : List DV) (h : Hp) : aE CF1 rec n 88 args h = cZz rec n (args.getD 0 aV) (args.getD 1 aV) (args.getD 2 aV) h :=
 (by kernel_rfl : aE CF1 rec n 88 args h = dJh rec n (cf Tryz.f88) x0 (aP CF1 Tryz.f88) (aG args) h).trans ((congrFun (congrFun (dMi rec n) (aG args)) h).trans (by kernel_rfl))
end Go.Dd

namespace Go.Dd
theorem oV {a b : Nat} : Nat.beq a b = decide (a = b) := by
 cases h : Nat.beq a b with
 | true => simp [Nat.eq_of_beq_eq_true h]
 | false =>
  have : a ≠ b := by intro e; subst e; simp at h
  simp [this]
theorem iX {a b : Nat} : Nat.ble a b = decide (a ≤ b) := by
 cases h : Nat.ble a b with
 | true => simp [Nat.le_of_ble_eq_true h]
 | false =>
  have : ¬ a ≤ b := by intro e; rw [Nat.ble_eq_true_of_le e] at h; cases h
  simp [this]
theorem gL {a b : Nat} : Nat.blt a b = decide (a < b) := by
 show Nat.ble (a + 1) b = _
 rw [iX]
 simp [Nat.succ_le_iff]
theorem yL (w : Int) : (iI w ≠ 0 ↔ (w % 2 = 0 ∧ 3 ≤ w / 2 ∧ w / 2 ≤ 131072)) ∧ (iI w ≠ 0 → (iI w : Int) = w / 2) ∧ iI w ≤ 131072 := by
 cases w with
 | ofNat w =>
  simp only [iI, oV, iX]
  have e1 : Nat.mod w 2 = w % 2 := rfl
  have e2 : Nat.div w 2 = w / 2 := rfl
  rw [e1, e2]
  by_cases hc : w % 2 = 0 ∧ 6 ≤ w ∧ w ≤ 262144
  ·obtain ⟨h1, h2, h3⟩ := hc
   simp only [h1, h2, h3, decide_true, Bool.and_self, cond_true]
   simp only [Int.ofNat_eq_natCast]
   refine ⟨⟨fun _ => ⟨by omega, by omega, by omega⟩, fun _ => by omega⟩, fun _ => by omega, by omega⟩
  ·have : (decide (w % 2 = 0) && (decide (6 ≤ w) && decide (w ≤ 262144))) = false := by
    rw [← Bool.not_eq_true]
    simpa using hc
   rw [this]
   simp only [cond_false, Int.ofNat_eq_natCast]
   refine ⟨⟨fun h => absurd rfl h, fun h => by omega⟩, fun h => absurd rfl h, by omega⟩
 | negSucc w =>
  simp only [iI]
  refine ⟨⟨fun h => absurd rfl h, fun h => by omega⟩, fun h => absurd rfl h, by omega⟩
theorem lM (w : Int) : dO w = decide (w % 2 = 1 ∧ -1073741824 ≤ w / 2 ∧ w / 2 ≤ 1073741823) := by
 rw [Bool.eq_iff_iff, decide_eq_true_iff]
 cases w with
 | ofNat w =>
  simp only [dO, oV, gL, Bool.and_eq_true, decide_eq_true_eq]
  have e1 : Nat.mod w 2 = w % 2 := rfl
  rw [e1]
  simp only [Int.ofNat_eq_natCast]
  omega
 | negSucc w =>
  simp only [dO, oV, gL, Bool.and_eq_true, decide_eq_true_eq]
  have e1 : Nat.mod w 2 = w % 2 := rfl
  rw [e1]
  omega
theorem qS (w : Int) : pM w = w / 2 := by
 cases w with
 | ofNat w => show Int.ofNat (w / 2) = _; simp
 | negSucc w => show Int.negSucc (w / 2) = _; omega
theorem eR (a : Int) (h : -9223372036854775808 ≤ a ∧ a ≤ 9223372036854775807) : IntKind.i64.wrap a = a := by
 simp [IntKind.wrap, IntKind.signed, IntKind.bits, Int.bmod]
 omega
theorem gG (a : Int) : (BitVec.ofInt 64 a).toNat = (a % 18446744073709551616).toNat := by
 rw [BitVec.toNat_ofInt]
 rfl
theorem dQu (w : Int) : IntKind.i64.wrap (((BitVec.ofInt 64 w &&& BitVec.ofInt 64 1).toNat : Nat) : Int) = w % 2 := by
 rw [BitVec.toNat_and, gG, gG]
 rw [show ((1 : Int) % 18446744073709551616).toNat = 1 from rfl, Nat.and_one_is_mod]
 rw [eR _ (by omega)]
 omega
theorem dPg (w : Int) : IntKind.i64.wrap (((BitVec.ofInt 64 w &&& BitVec.ofInt 64 3).toNat : Nat) : Int) = w % 4 := by
 rw [BitVec.toNat_and, gG, gG]
 rw [show ((3 : Int) % 18446744073709551616).toNat = 2 ^ 2 - 1 from rfl, Nat.and_two_pow_sub_one_eq_mod]
 rw [eR _ (by omega)]
 omega
theorem cWd (a : Nat) (k b : Nat) (hb : b < 2 ^ k) (hs : a * 2 ^ k + b < 9223372036854775808) : IntKind.i64.wrap (((BitVec.ofInt 64 ((a * 2 ^ k : Nat) : Int) ||| BitVec.ofInt 64 (b : Int)).toNat : Nat) : Int) = ((a * 2 ^ k + b : Nat) : Int) := by
 have h1 : (BitVec.ofInt 64 ((a * 2 ^ k : Nat) : Int)).toNat = a * 2 ^ k := by rw [gG]; omega
 have h2 : (BitVec.ofInt 64 (b : Int)).toNat = b := by rw [gG]; omega
 rw [BitVec.toNat_or, h1, h2, Nat.mul_comm a, ← Nat.two_pow_add_eq_or_of_lt hb, Nat.mul_comm]
 exact eR _ (by omega)
theorem vG (a : Int) (b : Int) (hb : 0 ≤ b) : a.fdiv b = a / b := Int.fdiv_eq_ediv_of_nonneg a hb
theorem cA (k : IntKind) (a b : Int) (h : Hp) : aD .eql (.i k a) (.i k b) h = some (.b (a == b), h) := by simp only [aD, if_true, dW]
theorem gE (k : IntKind) (a b : Int) (h : Hp) : aD .neq (.i k a) (.i k b) h = some (.b (a != b), h) := by simp only [aD, if_true, dW]
theorem cE (k : IntKind) (a b : Int) (h : Hp) : aD .lss (.i k a) (.i k b) h = some (.b (decide (a < b)), h) := by simp only [aD, if_true, dW]
theorem aNp (k : IntKind) (a b : Int) (h : Hp) : aD .leq (.i k a) (.i k b) h = some (.b (decide (a ≤ b)), h) := by simp only [aD, if_true, dW]
theorem eV (k : IntKind) (a b : Int) (h : Hp) : aD .gtr (.i k a) (.i k b) h = some (.b (decide (a > b)), h) := by simp only [aD, if_true, dW]
theorem iL (k : IntKind) (a b : Int) (h : Hp) : aD .geq (.i k a) (.i k b) h = some (.b (decide (a ≥ b)), h) := by simp only [aD, if_true, dW]
theorem gC (a b : Int) (h : Hp) (hr : -9223372036854775808 ≤ a + b ∧ a + b ≤ 9223372036854775807) : aD .add (.i .i64 a) (.i .i64 b) h = some (.i .i64 (a + b), h) := by simp only [aD, if_true, dW, eR _ hr]
theorem wL (a b : Int) (h : Hp) (hr : -9223372036854775808 ≤ a - b ∧ a - b ≤ 9223372036854775807) : aD .sub (.i .i64 a) (.i .i64 b) h = some (.i .i64 (a - b), h) := by simp only [aD, if_true, dW, eR _ hr]
theorem aZo (w : Int) (h : Hp) : aD .and (.i .i64 w) (.i .i64 (Int.ofNat 1)) h = some (.i .i64 (w % 2), h) := by
 have : dW .and .i64 w (Int.ofNat 1) = some (.i .i64 (w % 2)) := by
  rw [← dQu w]; rfl
 simp only [aD, if_true, this]
theorem cBu (w : Int) (h : Hp) : aD .and (.i .i64 w) (.i .i64 (Int.ofNat 3)) h = some (.i .i64 (w % 4), h) := by
 have : dW .and .i64 w (Int.ofNat 3) = some (.i .i64 (w % 4)) := by
  rw [← dPg w]; rfl
 simp only [aD, if_true, this]
theorem uF (w : Int) (h : Hp) : cS .shr (.i .i64 w) (.i .u64 (Int.ofNat 1)) h = some (.i .i64 (w / 2), h) := by
 have : w.fdiv (2 ^ (min (Int.ofNat 1).toNat IntKind.i64.bits)) = w / 2 := vG w (2 ^ 1) (by decide)
 simp only [cS, show ¬ ((Int.ofNat 1) < 0) by decide, if_false, this]
theorem cEj (w : Int) (h : Hp) : cS .shr (.i .i64 w) (.i .u64 (Int.ofNat 2)) h = some (.i .i64 (w / 4), h) := by
 have : w.fdiv (2 ^ (min (Int.ofNat 2).toNat IntKind.i64.bits)) = w / 4 := vG w (2 ^ 2) (by decide)
 simp only [cS, show ¬ ((Int.ofNat 2) < 0) by decide, if_false, this]
theorem bAg (w : Int) (h : Hp) (hr : -4611686018427387904 ≤ w ∧ w ≤ 4611686018427387903) : cS .shl (.i .i64 w) (.i .u64 (Int.ofNat 1)) h = some (.i .i64 (2 * w), h) := by
 have : IntKind.i64.wrap (w * 2 ^ (min (Int.ofNat 1).toNat IntKind.i64.bits)) = 2 * w := by
  rw [show w * 2 ^ (min (Int.ofNat 1).toNat IntKind.i64.bits) = 2 * w from Int.mul_comm w 2]
  exact eR _ (by omega)
 simp only [cS, show ¬ ((Int.ofNat 1) < 0) by decide, if_false, this]
theorem cNj (w : Int) (h : Hp) (hr : -2305843009213693952 ≤ w ∧ w ≤ 2305843009213693951) : cS .shl (.i .i64 w) (.i .u64 (Int.ofNat 2)) h = some (.i .i64 (4 * w), h) := by
 have : IntKind.i64.wrap (w * 2 ^ (min (Int.ofNat 2).toNat IntKind.i64.bits)) = 4 * w := by
  rw [show w * 2 ^ (min (Int.ofNat 2).toNat IntKind.i64.bits) = 4 * w from Int.mul_comm w 4]
  exact eR _ (by omega)
 simp only [cS, show ¬ ((Int.ofNat 2) < 0) by decide, if_false, this]
theorem oY (r : aI) (h : Hp) : gD (.b true) true r h = r := Eq.trans rfl rfl
theorem eF (r : aI) (h : Hp) : gD (.b false) false r h = r := Eq.trans rfl rfl
theorem dG (r : aI) (h : Hp) : gD (.b true) false r h = some (aV, h) := Eq.trans rfl rfl
theorem oW (r : aI) (h : Hp) : gD (.b false) true r h = some (aV, h) := Eq.trans rfl rfl
theorem jN (w : Bool) (r : aI) (h : Hp) : gD aV w r h = some (aV, h) := Eq.trans rfl rfl
theorem aN (v : DV) (h : Hp) (k : DV → Hp → aI) : bnd (some (v, h)) k = k v h := Eq.trans rfl rfl
theorem bS (x y : DV) (h : Hp) : aQ (.b true) x y h = some (x, h) := Eq.trans rfl rfl
theorem bO (x y : DV) (h : Hp) : aQ (.b false) x y h = some (y, h) := Eq.trans rfl rfl
theorem dC (b : Bool) (h : Hp) : dR .not (.b b) h = some (.b (!b), h) := Eq.trans rfl rfl
theorem aY (a b : aI) : aT (.b true) a b = a := Eq.trans rfl rfl
theorem bF (a b : aI) : aT (.b false) a b = b := Eq.trans rfl rfl
theorem g0 (a : DV) (l : List DV) : (a :: l).getD 0 aV = a := Eq.trans rfl rfl
theorem g1 (a b : DV) (l : List DV) : (a :: b :: l).getD 1 aV = b := Eq.trans rfl rfl
theorem g2 (a b c : DV) (l : List DV) : (a :: b :: c :: l).getD 2 aV = c := Eq.trans rfl rfl
theorem g3 (a b c d : DV) (l : List DV) : (a :: b :: c :: d :: l).getD 3 aV = d := Eq.trans rfl rfl
theorem aUf (n : Nat) (a b c : Int) (h : Hp) : fS CF1 (n + 1) 88 [.i .i64 a, .i .i64 b, .i .i64 c] h = some (.b (decide (b ≤ a ∧ a ≤ c)), h) := by
 rw [cB 88 rfl, cVr]
 simp only [cZz, g0, g1, g2, iL, aN]
 by_cases h1 : b ≤ a
 ·simp only [ge_iff_le, h1, decide_true, oY, aN, aNp, bS, true_and]
 ·simp only [ge_iff_le, h1, decide_false, oW, aN, bO, false_and]
theorem dEa (n : Nat) (w : Int) (h : Hp) : fS CF1 (n + 2) 48 [.i .i64 w] h = some (.b (dO w), h) := by
 rw [cB 48 rfl, dJv]
 simp only [t54, g0, aZo, aN, cA, lM]
 by_cases h1 : w % 2 = 1
 ·have e : (w % 2 == Int.ofNat 1) = true := by simpa using h1
  rw [e]
  simp only [oY, aN, uF, aUf, bS, h1, true_and]
  rfl
 ·have e : (w % 2 == Int.ofNat 1) = false := by simpa using h1
  rw [e]
  simp only [oW, aN, bO, h1, false_and, decide_false]
theorem dNw (n : Nat) (w : Int) (h : Hp) : fS CF1 (n + 2) 65 [.i .i64 w] h = some (.b (!(Nat.beq (iI w) 0)), h) := by
 rw [cB 65 rfl, dKz]
 simp only [t63, g0, aZo, aN, cA, oV]
 have hp := (yL w).1
 by_cases h1 : w % 2 = 0
 ·have e : (w % 2 == Int.ofNat 0) = true := by simpa using h1
  rw [e]
  simp only [oY, aN, uF, aUf, bS]
  by_cases h2 : iI w = 0
  ·have : ¬ (Int.ofNat 3 ≤ w / 2 ∧ w / 2 ≤ Int.ofNat 131072) := fun h => (hp.2 ⟨h1, h⟩) h2
   simp only [h2, this, decide_true, Bool.not_true, decide_false]
  ·have : Int.ofNat 3 ≤ w / 2 ∧ w / 2 ≤ Int.ofNat 131072 := (hp.1 h2).2
   simp only [h2, this, decide_false, Bool.not_false, and_self, decide_true]
 ·have h2 : iI w = 0 := by
   by_cases h2 : iI w = 0
   ·exact h2
   ·exact absurd (hp.1 h2).1 h1
  have e : (w % 2 == Int.ofNat 0) = false := by simpa using h1
  rw [e]
  simp only [oW, aN, bO, h2, decide_true, Bool.not_true]
theorem dLc (n : Nat) (w : Int) (h : Hp) : fS CF1 (n + 3) 66 [.i .i64 w] h = some (.i .i64 (iI w), h) := by
 rw [cB 66 rfl, dHy]
 simp only [t64, g0, dNw, aN, dC, oV]
 by_cases h2 : iI w = 0
 ·simp only [h2, decide_true, Bool.not_true, Bool.not_false, aY]; rfl
 ·have hp := (yL w).2.1 h2
  simp only [h2, decide_false, Bool.not_false, Bool.not_true, bF, uF, aN, hp]
theorem dJj (n : Nat) (w : Int) (h : Hp) : fS CF1 (n + 2) 81 [.i .i64 w] h = some (if -1073741824 ≤ w ∧ w ≤ 1073741823 then .t [.i .i64 (2 * w + 1), .b true] else .t [.i .i64 0, .b false], h) := by
 rw [cB 81 rfl, dIg]
 simp only [t60, g0, aUf, aN, dC]
 by_cases h1 : -1073741824 ≤ w ∧ w ≤ 1073741823
 ·have h1' : Int.negSucc 1073741823 ≤ w ∧ w ≤ Int.ofNat 1073741823 := h1
  rw [if_pos h1]
  simp only [h1', decide_true, and_self, bF, Bool.not_true]
  rw [bAg w h (by omega)]
  have hb : dW .or .i64 (2 * w) (Int.ofNat 1) = some (.i .i64 (2 * w + 1)) := by
   have : IntKind.i64.wrap (((BitVec.ofInt 64 (2 * w) ||| BitVec.ofInt 64 (Int.ofNat 1)).toNat : Nat) : Int) = 2 * w + 1 := by
    rw [BitVec.toNat_or, gG, gG]
    rw [show ((Int.ofNat 1) % 18446744073709551616).toNat = 1 from rfl]
    obtain ⟨q, hq⟩ : ∃ q : Nat, ((2 * w) % 18446744073709551616).toNat = 2 ^ 1 * q := ⟨((2 * w) % 18446744073709551616).toNat / 2, by omega⟩
    rw [hq, ← Nat.two_pow_add_eq_or_of_lt (show 1 < 2 ^ 1 by omega)]
    rw [← hq]
    simp [IntKind.wrap, IntKind.signed, IntKind.bits, Int.bmod]
    omega
   rw [← this]; rfl
  simp only [aN, aD, if_true, hb]
 ·have h1' : ¬ (Int.negSucc 1073741823 ≤ w ∧ w ≤ Int.ofNat 1073741823) := h1
  rw [if_neg h1]
  simp only [h1', decide_false, aY, Bool.not_false]
  rfl
theorem dSc (n : Nat) (w : Int) (h : Hp) : fS CF1 (n + 3) 49 [.i .i64 w] h = some (if dO w then .i .i64 (w / 2) else .i .i64 0, h) := by
 rw [cB 49 rfl, dMu]
 simp only [t62, g0, dEa, aN, dC]
 cases dO w with
 | false => rfl
 | true => simp only [Bool.not_true, bF, uF, aN, if_true]
theorem dQp (n : Nat) (a : Int) (h : Hp) : fS CF1 (n + 2) 87 [.i .i64 a] h = some (if 3 ≤ a ∧ a ≤ 131072 then .t [.i .i64 (2 * a), .b true] else .t [.i .i64 0, .b false], h) := by
 rw [cB 87 rfl, dGq]
 simp only [t75, g0, aUf, aN, dC]
 by_cases h1 : 3 ≤ a ∧ a ≤ 131072
 ·have h1' : Int.ofNat 3 ≤ a ∧ a ≤ Int.ofNat 131072 := h1
  rw [if_pos h1]
  simp only [h1', decide_true, and_self, bF, Bool.not_true]
  rw [bAg a h (by omega)]
  rfl
 ·have h1' : ¬ (Int.ofNat 3 ≤ a ∧ a ≤ Int.ofNat 131072) := h1
  rw [if_neg h1]
  simp only [h1', decide_false, aY, Bool.not_false]
  rfl
end Go.Dd

namespace Go.Dd
structure ML (m : Pos) (M : MemV) (h : Hp) : Prop where
 row : h.bl.get m = some (.row .ex [.l M.wb 0 M.n M.n, .i .i64 (Int.ofNat M.fin), .i .i64 (Int.ofNat M.made), .m M.pb])
 words : h.bl.get M.wb = some (.row .ex (gY M.n M.t))
 places : ∃ es, h.bl.get M.pb = some (.mp es) ∧ ∀ a : Int, dI (.int .i64) (.i .i64 a) es = some (if 0 ≤ a ∧ M.pl.get a.toNat ≠ 0 then some (.b true) else none)
 n_lt : M.n < 1000000
 fin_le : M.fin ≤ M.n
 made_lt : M.made < 2000000
 d1 : m ≠ M.wb
 d2 : m ≠ M.pb
 d3 : M.wb ≠ M.pb
theorem qY {m : Pos} {M : MemV} {h : Hp} (hm : lD m h = some M) :
  h.bl.get m = some (.row .ex [.l M.wb 0 M.n M.n, .i .i64 (Int.ofNat M.fin), .i .i64 (Int.ofNat M.made), .m M.pb]) ∧ h.bl.get M.wb = some (.big M.n M.t) ∧ h.bl.get M.pb = some (.mi M.pl) ∧ M.n < 1000000 ∧ M.fin ≤ M.n ∧ M.made < 1000000 := by
 unfold lD at hm
 split at hm <;> (try (cases hm; done))
 rename_i wb n c fin made pb hr
 split at hm <;> (try (cases hm; done))
 rename_i n' t pl h1 h2
 cases hb : (Nat.beq n n' && Nat.beq n c) with
 | false => rw [hb] at hm; cases hm
 | true =>
  rw [hb] at hm
  simp only [cond_true] at hm
  cases hc : (Nat.blt n 1000000 && (Nat.ble fin n && Nat.blt made 1000000)) with
  | false => rw [hc] at hm; cases hm
  | true =>
   rw [hc] at hm
   simp only [cond_true, bG] at hm
   subst hm
   simp only [oV, iX, gL, Bool.and_eq_true, decide_eq_true_eq] at hb hc
   obtain ⟨rfl, rfl⟩ := hb
   exact ⟨hr, h1, h2, hc.1, hc.2.1, hc.2.2⟩
theorem fH {m : Pos} {M : MemV} {h h' : Hp} (hm : lD m h = some M) (S : Sim false h h') : ML m M h' := by
 obtain ⟨h1, h2, h3, h4, h5, h6⟩ := qY hm
 refine ⟨S.row h1, ?_, ?_, h4, h5, by omega, fun e => by (rw [e, h2] at h1; cases h1), fun e => by (rw [e, h3] at h1; cases h1), fun e => by (rw [e, h3] at h2; cases h2)⟩
 ·obtain ⟨o', e1, e2⟩ := S.get _ _ h2
  have e2' : o' = .row .ex (gY M.n M.t) := by simpa [aF, tB] using e2
  rw [e1, e2']
 ·obtain ⟨o', e1, e2⟩ := S.get _ _ h3
  have e2' : ∃ es, o' = .mp es ∧ ∀ a : Int, dI (.int .i64) (.i .i64 a) es = some (if 0 ≤ a ∧ M.pl.get a.toNat ≠ 0 then some (.b true) else none) := by simpa [aF, tB] using e2
  obtain ⟨es, rfl, e3⟩ := e2'
  exact ⟨es, e1, e3⟩
section
variable {m : Pos} {M : MemV} {h : Hp}
theorem gQ (b : Pos) (o : Nat) (h : Hp) : aO (.p b o) h = some (.p b o, h) := Eq.trans rfl rfl
theorem eA (k : Nat) (b : Pos) (o : Nat) (h : Hp) : aC k (.p b o) h = some (.p b (o + k), h) := Eq.trans rfl rfl
theorem ML.l0 (H : ML m M h) : aA (.p m (0 + 0)) h = some (.l M.wb 0 M.n M.n, h) := by
 simp [aA, cellD, rowOf, H.row, DV.one]
theorem ML.l1 (H : ML m M h) : aA (.p m (0 + 1)) h = some (.i .i64 (Int.ofNat M.fin), h) := by
 simp [aA, cellD, rowOf, H.row, DV.one]
theorem ML.l2 (H : ML m M h) : aA (.p m (0 + 2)) h = some (.i .i64 (Int.ofNat M.made), h) := by
 simp [aA, cellD, rowOf, H.row, DV.one]
theorem ML.l3 (H : ML m M h) : aA (.p m (0 + 3)) h = some (.m M.pb, h) := by
 simp [aA, cellD, rowOf, H.row, DV.one]
theorem kH {n : Nat} {t : WT} {i : Nat} (h : i < n) : (gY n t)[i]? = some (.i .i64 (t.get i)) := by
 simp [gY, h]
theorem ML.ix (H : ML m M h) {a : Nat} (ha : a < M.n) : aJ 1 (.l M.wb 0 M.n M.n) (.i .i64 (a : Int)) h = some (.p M.wb a, h) := by
 have : (0 : Int) ≤ (a : Int) ∧ (a : Int) < (M.n : Int) := by omega
 simp [aJ, this]
theorem ML.ld (H : ML m M h) {a : Nat} (ha : a < M.n) : aA (.p M.wb a) h = some (.i .i64 (M.t.get a), h) := by
 simp [aA, cellD, rowOf, H.words, kH ha, DV.one]
theorem nP (o : Int) (pl : WT) : cM o pl = 0 ∨ (cM o pl = iI o ∧ iI o ≠ 0) := by
 unfold cM
 by_cases h0 : iI o = 0
 ·simp [h0, oV]
 ·simp only [oV, h0, decide_false, cond_false]
  split
  ·exact .inl rfl
  ·exact .inr ⟨rfl, h0⟩
theorem atN_pos {o : Int} {pl : WT} : (cM o pl ≠ 0) ↔ (iI o ≠ 0 ∧ pl.get (iI o) ≠ 0) := by
 unfold cM
 by_cases h0 : iI o = 0
 ·simp [h0, oV]
 ·simp only [oV, h0, decide_false, cond_false]
  split
  ·rename_i e; simp [e]
  ·rename_i e
   refine ⟨fun _ => ⟨h0, fun e' => e (by rw [e']; rfl)⟩, fun _ => h0⟩
theorem ML.lookup (H : ML m M h) (a : Nat) : dM (.int .i64) (.b false) false (.m M.pb) (.i .i64 (a : Int)) h = some (.b (decide (M.pl.get a ≠ 0)), h) := by
 obtain ⟨es, h1, h2⟩ := H.places
 have := h2 a
 simp only [Int.toNat_natCast] at this
 simp only [dM, fL, h1, this]
 by_cases hc : M.pl.get a = 0
 ·simp [hc]
 ·simp [hc]
theorem lK {r : aI} {v : DV} {h : Hp} (hr : r = some (v, h)) (hv : DV.beq v v = true) : bJ r v = true := by
 rw [hr]; exact hv
theorem dGj (b : Pos) : DV.beq (.m b) (.m b) = true := by simp [DV.beq]
theorem bKt (b : Pos) (o n c : Nat) : DV.beq (.l b o n c) (.l b o n c) = true := by simp [DV.beq]
theorem cFz (H : ML m M h) (n : Nat) (w : Int) : fS CF1 (n + 4) 31 [.p m 0, .i .i64 w] h = some (.b (!(Nat.beq (cM w M.pl) 0)), h) := by
 rw [cB 31 rfl, dKx]
 simp only [t21, g0, g1, dNw, aN, oV]
 by_cases h0 : iI w = 0
 ·have : cM w M.pl = 0 := by
   rcases nP w M.pl with e | ⟨e, e'⟩
   ·exact e
   ·exact absurd h0 e'
  simp only [h0, decide_true, Bool.not_true, oW, aN, this]
  simp [bJ, aV, DV.beq, dVf, cnd, bnd, aQ]
 ·simp only [h0, decide_false, Bool.not_false, oY, aN, gQ, eA, H.l3, dLc]
  rw [lK rfl (dGj _), Bool.and_self]
  simp only [cnd, H.lookup, aN, bS]
  by_cases h1 : M.pl.get (iI w) = 0
  ·have : cM w M.pl = 0 := by
    by_cases e : cM w M.pl = 0
    ·exact e
    ·exact absurd h1 (atN_pos.1 e).2
   simp [h1, this]
  ·have : cM w M.pl ≠ 0 := atN_pos.2 ⟨h0, h1⟩
   simp [h1, this]
theorem dSf (H : ML m M h) (n : Nat) : fS CF1 (n + 1) 102 [.p m 0] h = some (.i .i64 (Int.ofNat M.n), h) := by
 rw [cB 102 rfl, dFo]
 simp only [t22, g0, aN, gQ, eA, H.l0]
 rfl
theorem dIn (H : ML m M h) (n : Nat) : fS CF1 (n + 1) 86 [.p m 0] h = some (.i .i64 (Int.ofNat (M.n - M.fin)), h) := by
 rw [cB 86 rfl, dFz]
 have h1 := H.n_lt
 have h2 := H.fin_le
 have e : cJ (.l M.wb 0 M.n M.n) h = some (.i .i64 (M.n : Int), h) := rfl
 simp only [t29, g0, aN, gQ, eA, H.l0, H.l1, e]
 rw [wL _ _ _ (by simp only [Int.ofNat_eq_natCast]; omega)]
 simp only [aN]
 congr 3
 simp only [Int.ofNat_eq_natCast]
 omega
theorem dMj (H : ML m M h) (n : Nat) (w : Int) : fS CF1 (n + 5) 24 [.p m 0, .i .i64 w] h = some (.b (dX w M.pl), h) := by
 rw [cB 24 rfl, dGy]
 have hm : dX w M.pl = (decide (w = 0) || (decide (w = 2) || (decide (w = 4) || (dO w || !(Nat.beq (cM w M.pl) 0))))) := by
  unfold dX
  split
  ·simp
  ·simp
  ·simp
  ·rename_i h1 h2 h3
   have e1 : w ≠ 0 := fun e => h1 (by rw [e]; rfl)
   have e2 : w ≠ 2 := fun e => h2 (by rw [e]; rfl)
   have e3 : w ≠ 4 := fun e => h3 (by rw [e]; rfl)
   simp [e1, e2, e3]
 rw [hm]
 simp only [t20, g0, g1, cA, aN]
 have b0 : (w == Int.ofNat 0) = decide (w = 0) := rfl
 have b2 : (w == Int.ofNat 2) = decide (w = 2) := rfl
 have b4 : (w == Int.ofNat 4) = decide (w = 4) := rfl
 rw [b0]
 cases decide (w = 0) with
 | true => simp only [dG, aN, bS, Bool.true_or]
 | false =>
  simp only [eF, aN, cA, bO, b2, Bool.false_or]
  cases decide (w = 2) with
  | true => simp only [dG, aN, bS, Bool.true_or]
  | false =>
   simp only [eF, aN, cA, bO, b4, Bool.false_or]
   cases decide (w = 4) with
   | true => simp only [dG, aN, bS, Bool.true_or]
   | false =>
    simp only [eF, aN, dEa, bO, Bool.false_or]
    cases dO w with
    | true => simp only [dG, aN, bS, Bool.true_or]
    | false => simp only [eF, aN, cFz H, bO, Bool.false_or]
theorem dLy (H : ML m M h) (n : Nat) (w : Int) : fS CF1 (n + 5) 85 [.p m 0, .i .i64 w] h = some (.b (qT w M.pl), h) := by
 rw [cB 85 rfl, dKn]
 have hm : qT w M.pl = (decide (w = 0) || !(Nat.beq (cM w M.pl) 0)) := by
  unfold qT
  split
  ·simp
  ·rename_i h1
   have e1 : w ≠ 0 := fun e => h1 (by rw [e]; rfl)
   simp [e1]
 rw [hm]
 have b0 : (w == Int.ofNat 0) = decide (w = 0) := rfl
 simp only [t74, g0, g1, cA, aN, b0]
 cases decide (w = 0) with
 | true => simp only [dG, aN, bS, Bool.true_or]
 | false => simp only [eF, aN, cFz H, bO, Bool.false_or]
theorem rN (H : ML m M h) (n : Nat) (w : Int) : fS CF1 (n + 5) 63 [.p m 0, .i .i64 w] h = some (.i .i64 (cM w M.pl), h) := by
 rw [cB 63 rfl, dDo]
 simp only [dDn, g0, g1, cFz H, aN, dC, oV]
 rcases nP w M.pl with e | ⟨e, e'⟩
 ·simp only [e, decide_true, Bool.not_true, Bool.not_false, aY]; rfl
 ·simp only [e, e', decide_false, Bool.not_false, Bool.not_true, bF, dLc, aN]
theorem uH {o : Int} {k : Nat → aI} {r : DV × Hp} (hh : iO M o k = some r) : cM o M.pl + 1 < M.n ∧ ∃ hd, M.t.get (cM o M.pl) = Int.ofNat hd ∧ hd < 1000000000000 ∧ k hd = some r := by
 unfold iO at hh
 cases hb : Nat.blt (Nat.add (cM o M.pl) 1) M.n with
 | false => rw [hb] at hh; cases hh
 | true =>
  rw [hb] at hh
  simp only [cond_true] at hh
  simp only [gL, decide_eq_true_eq] at hb
  split at hh <;> (try (cases hh; done))
  rename_i hd he
  cases hc : Nat.blt hd 1000000000000 with
  | false => rw [hc] at hh; cases hh
  | true =>
   rw [hc] at hh
   simp only [gL, decide_eq_true_eq] at hc
   exact ⟨hb, hd, he, hc, hh⟩
theorem dRh (H : ML m M h) (n : Nat) (o : Int) (ho : cM o M.pl + 1 < M.n) : fS CF1 (n + 6) 50 [.p m 0, .i .i64 o] h = some (.i .i64 (M.t.get (cM o M.pl + 1)), h) := by
 rw [cB 50 rfl, dMt]
 have hn := H.n_lt
 simp only [t50, g0, g1, aN, gQ, eA, H.l0, rN H]
 rw [lK rfl (bKt _ _ _ _), Bool.and_self]
 simp only [cnd]
 rw [gC _ _ _ (by simp only [Int.ofNat_eq_natCast]; omega)]
 have e : (cM o M.pl : Int) + Int.ofNat 1 = ((cM o M.pl + 1 : Nat) : Int) := by simp
 simp only [aN, e, H.ix ho, H.ld ho]
theorem dIr (H : ML m M h) (n : Nat) (o : Int) (ho : cM o M.pl < M.n) : fS CF1 (n + 6) 38 [.p m 0, .i .i64 o] h = some (.i .i64 (M.t.get (cM o M.pl) % 4), h) := by
 rw [cB 38 rfl, dGx]
 simp only [t51, g0, g1, aN, gQ, eA, H.l0, rN H]
 rw [lK rfl (bKt _ _ _ _), Bool.and_self]
 simp only [cnd, aN, H.ix ho, H.ld ho, cBu]
theorem dKr (H : ML m M h) (n : Nat) (o : Int) (ho : cM o M.pl < M.n) : fS CF1 (n + 6) 27 [.p m 0, .i .i64 o] h = some (.i .i64 (M.t.get (cM o M.pl) / 4), h) := by
 rw [cB 27 rfl, dJe]
 simp only [t52, g0, g1, aN, gQ, eA, H.l0, rN H]
 rw [lK rfl (bKt _ _ _ _), Bool.and_self]
 simp only [cnd, aN, H.ix ho, H.ld ho, cEj]
end
end Go.Dd

namespace Go.Dd
section
variable {m : Pos} {M : MemV} {h : Hp}
theorem bXb (H : ML m M h) {o i : Int} {bad : Nat → aI} {k : Nat → Nat → aI} {r : DV × Hp} (hf : gU M o i bad k = some r) :
  (∃ e : Nat, e ≠ 0 ∧ bad e = some r ∧ ∀ n, fS CF1 (n + 7) 64 [.p m 0, .i .i64 o, .i .i64 i] h = some (.t [.i .i64 (Int.ofNat 0), .i .i64 (Int.ofNat e)], h)) ∨
  (∃ hd a : Nat, cM o M.pl ≠ 0 ∧ a < M.n ∧ cM o M.pl + 1 < M.n ∧ M.t.get (cM o M.pl) = Int.ofNat hd ∧ k hd a = some r ∧ ∀ n, fS CF1 (n + 7) 64 [.p m 0, .i .i64 o, .i .i64 i] h = some (.t [.i .i64 (a : Int), .i .i64 (Int.ofNat 0)], h)) := by
 have hn := H.n_lt
 unfold gU at hf
 rw [oV] at hf
 by_cases h0 : cM o M.pl = 0
 ·simp only [h0, decide_true, cond_true] at hf
  refine .inl ⟨1, by omega, hf, fun n => ?_⟩
  rw [cB 64 rfl, aEp]
  simp only [bCw, g0, g1, g2, rN H, aN, cA, h0]
  rfl
 ·simp only [h0, decide_false, cond_false] at hf
  have e0 : ((cM o M.pl : Int) == Int.ofNat 0) = false := by simpa using h0
  cases i with
  | negSucc i =>
   refine .inl ⟨5, by omega, hf, fun n => ?_⟩
   rw [cB 64 rfl, aEp]
   have hlt : decide (Int.negSucc i < Int.ofNat 0) = true := decide_eq_true (Int.negSucc_lt_zero i)
   simp only [bCw, g0, g1, g2, rN H, aN, cA, e0, bF, cE, hlt, dG, bS, aY]
  | ofNat i =>
   dsimp only at hf
   obtain ⟨h1, hd, h2, h3, h4⟩ := uH hf
   rw [iX] at h4
   have hlt : decide (Int.ofNat i < Int.ofNat 0) = false := by simp
   have h52 := fun n => dKr H n o (show cM o M.pl < M.n by omega)
   rw [h2] at h52
   by_cases hi : Nat.div hd 4 ≤ i
   ·simp only [hi, decide_true, cond_true] at h4
    refine .inl ⟨5, by omega, h4, fun n => ?_⟩
    rw [cB 64 rfl, aEp]
    have hge : decide (Int.ofNat i ≥ Int.ofNat hd / 4) = true := by
     have : hd / 4 ≤ i := hi
     simp only [decide_eq_true_eq, Int.ofNat_eq_natCast]
     omega
    simp only [bCw, g0, g1, g2, rN H, aN, cA, e0, bF, cE, hlt, eF, h52, iL, hge, bO, aY]
   ·simp only [hi, decide_false, cond_false] at h4
    rw [gL] at h4
    by_cases ha : Nat.add (Nat.add (cM o M.pl) 3) i < M.n
    ·simp only [ha, decide_true, cond_true] at h4
     have ha' : cM o M.pl + 3 + i < M.n := ha
     refine .inr ⟨hd, _, h0, ha, h1, h2, h4, fun n => ?_⟩
     rw [cB 64 rfl, aEp]
     have hge : decide (Int.ofNat i ≥ Int.ofNat hd / 4) = false := by
      have : ¬ hd / 4 ≤ i := hi
      simp only [decide_eq_false_iff_not, Int.ofNat_eq_natCast]
      omega
     simp only [bCw, g0, g1, g2, rN H, aN, cA, e0, bF, cE, hlt, eF, h52, iL, hge, bO]
     rw [gC _ _ _ (by simp only [Int.ofNat_eq_natCast]; omega)]
     simp only [aN]
     rw [gC _ _ _ (by simp only [Int.ofNat_eq_natCast]; omega)]
     simp only [aN]
     congr 4
    ·simp only [ha, decide_false, cond_false] at h4
     cases h4
theorem bUk (a b : DV) (h : Hp) : aB 0 (.t [a, b]) h = some (a, h) := Eq.trans rfl rfl
theorem bVy (a b : DV) (h : Hp) : aB 1 (.t [a, b]) h = some (b, h) := Eq.trans rfl rfl
theorem cRo {e : Nat} (he : e ≠ 0) : (Int.ofNat e != Int.ofNat 0) = true := by
 simpa using he
theorem ML.put (H : ML m M h) {a : Nat} (ha : a < M.n) (w : Int) : aH 1 (.p M.wb a) (.i .i64 w) h = some (aV, ⟨h.next, Tr.set (.row .ex (gY M.n (M.t.set a w))) M.wb h.bl⟩) := by
 have hput : ∀ (n : Nat) (l : List DV) (x : DV), (∀ v ∈ l, v.one = true) → x.one = true → n < l.length → gH n l [x] = some (l.set n x) := by
  intro n
  induction n with
  | zero =>
   intro l x hl hx hlt
   cases l with
   | nil => simp at hlt
   | cons y l =>
    have hp : kZ l [] = some l := by cases l <;> rfl
    simp [gH, kZ, hl y (by simp), hx, hp]
  | succ n ih =>
   intro l x hl hx hlt
   cases l with
   | nil => simp at hlt
   | cons y l =>
    simp only [gH, List.set_cons_succ]
    rw [ih l x (fun v hv => hl v (by simp [hv])) hx (by simpa using hlt)]
    rfl
 have hb : ∀ v ∈ gY M.n M.t, v.one = true := by
  intro v hv
  simp only [gY, List.mem_map] at hv
  obtain ⟨i, _, rfl⟩ := hv
  rfl
 have hlen : (gY M.n M.t).length = M.n := by simp [gY]
 have hset : (gY M.n M.t).set a (.i .i64 w) = gY M.n (M.t.set a w) := by
  apply List.ext_getElem?
  intro i
  rw [List.getElem?_set]
  by_cases hi : i < M.n
  ·rw [kH hi, kH hi, WT.get_set M.t a w i (by have := H.n_lt; omega)]
   by_cases e : a = i
   ·subst e
    simp [hlen, hi]
   ·rw [if_neg e, if_neg (by omega)]
  ·have h1 : (gY M.n M.t)[i]? = none := List.getElem?_eq_none (by omega)
   have h2 : (gY M.n (M.t.set a w))[i]? = none := List.getElem?_eq_none (by simp [gY]; omega)
   rw [h2]
   split
   ·rename_i e; subst e; rw [if_neg (by omega)]
   ·exact h1
 simp only [aH, cY, List.length_singleton, if_true, cX, H.words, Kind.writable]
 rw [hput a _ _ hb rfl (by omega), hset]
theorem dPn (H : ML m M h) {o i : Int} {k : Nat → aI} {kk : Nat → Nat → aI} {r : DV × Hp} (hf : gU M o i k kk = some r) :
  (∃ e : Nat, k e = some r ∧ ∀ n, fS CF1 (n + 8) 28 [.p m 0, .i .i64 o, .i .i64 i] h = some (.t [.i .i64 (Int.ofNat 0), .i .i64 (Int.ofNat e)], h)) ∨
  (∃ hd a : Nat, kk hd a = some r ∧ ∀ n, fS CF1 (n + 8) 28 [.p m 0, .i .i64 o, .i .i64 i] h = some (.t [.i .i64 (M.t.get a), .i .i64 (Int.ofNat 0)], h)) := by
 rcases bXb H hf with ⟨e, he, h1, h2⟩ | ⟨hd, a, h0, h1, h2, h3, h4, h5⟩
 ·refine .inl ⟨e, h1, fun n => ?_⟩
  rw [cB 28 rfl, cRn]
  simp only [t73, g0, g1, g2, h2, aN, bUk, bVy, gE, cRo he, aY]
 ·refine .inr ⟨hd, a, h4, fun n => ?_⟩
  rw [cB 28 rfl, cRn]
  have e0 : (Int.ofNat 0 != Int.ofNat 0) = false := rfl
  simp only [t73, g0, g1, g2, h5, aN, bUk, bVy, gE, e0, bF, gQ, eA, H.l0, H.ix h1, H.ld h1]
end
theorem eM {args : List DV} {h : Hp} {k : MemV → List DV → aI} {r : DV × Hp} (hr : jM args h k = some r) :
  ∃ m rest M, args = .p m 0 :: rest ∧ lD m h = some M ∧ k M rest = some r := by
 unfold jM at hr
 split at hr <;> (try (cases hr; done))
 rename_i m rest
 split at hr <;> (try (cases hr; done))
 rename_i M hM
 exact ⟨m, rest, M, rfl, hM, hr⟩
theorem cXo (n : Nat) (args : List DV) : SimP false (isF args) (fS CF1 (n + 12) 31 args) := fun h h' S v k e => by
 obtain ⟨m, rest, M, rfl, hM, e⟩ := eM e
 split at e <;> (try (cases e; done))
 simp only [bG, bQ] at e
 obtain ⟨rfl, rfl⟩ := e
 exact ⟨h', cFz (fH hM S) (n + 8) _, S⟩
theorem cJg (n : Nat) (args : List DV) : SimP false (aEo args) (fS CF1 (n + 12) 24 args) := fun h h' S v k e => by
 obtain ⟨m, rest, M, rfl, hM, e⟩ := eM e
 split at e <;> (try (cases e; done))
 simp only [bG, bQ] at e
 obtain ⟨rfl, rfl⟩ := e
 exact ⟨h', dMj (fH hM S) (n + 7) _, S⟩
theorem bUg (n : Nat) (args : List DV) : SimP false (aAt args) (fS CF1 (n + 12) 102 args) := fun h h' S v k e => by
 obtain ⟨m, rest, M, rfl, hM, e⟩ := eM e
 split at e <;> (try (cases e; done))
 simp only [bG, bQ] at e
 obtain ⟨rfl, rfl⟩ := e
 exact ⟨h', dSf (fH hM S) (n + 11), S⟩
theorem bNq (n : Nat) (args : List DV) : SimP false (aVd args) (fS CF1 (n + 12) 86 args) := fun h h' S v k e => by
 obtain ⟨m, rest, M, rfl, hM, e⟩ := eM e
 split at e <;> (try (cases e; done))
 simp only [bG, bQ] at e
 obtain ⟨rfl, rfl⟩ := e
 exact ⟨h', dIn (fH hM S) (n + 11), S⟩
theorem bCy (n : Nat) (args : List DV) : SimP false (kB args) (fS CF1 (n + 12) 50 args) := fun h h' S v k e => by
 obtain ⟨m, rest, M, rfl, hM, e⟩ := eM e
 split at e <;> (try (cases e; done))
 obtain ⟨h1, hd, h2, h3, e⟩ := uH e
 simp only [bG, bQ] at e
 obtain ⟨rfl, rfl⟩ := e
 exact ⟨h', dRh (fH hM S) (n + 6) _ h1, S⟩
theorem aNz (n : Nat) (args : List DV) : SimP false (jS args) (fS CF1 (n + 12) 38 args) := fun h h' S v k e => by
 obtain ⟨m, rest, M, rfl, hM, e⟩ := eM e
 split at e <;> (try (cases e; done))
 obtain ⟨h1, hd, h2, h3, e⟩ := uH e
 simp only [bG, bQ] at e
 obtain ⟨rfl, rfl⟩ := e
 refine ⟨h', ?_, S⟩
 rw [dIr (fH hM S) (n + 6) _ (by omega), h2]
 rfl
theorem aRl (n : Nat) (args : List DV) : SimP false (fZ args) (fS CF1 (n + 12) 27 args) := fun h h' S v k e => by
 obtain ⟨m, rest, M, rfl, hM, e⟩ := eM e
 split at e <;> (try (cases e; done))
 obtain ⟨h1, hd, h2, h3, e⟩ := uH e
 simp only [bG, bQ] at e
 obtain ⟨rfl, rfl⟩ := e
 refine ⟨h', ?_, S⟩
 rw [dKr (fH hM S) (n + 6) _ (by omega), h2]
 rfl
theorem cBk (n : Nat) (args : List DV) : SimP false (pF args) (fS CF1 (n + 12) 28 args) := fun h h' S v k e => by
 obtain ⟨m, rest, M, rfl, hM, e⟩ := eM e
 split at e <;> (try (cases e; done))
 rename_i o i
 rcases dPn (fH hM S) e with ⟨er, e1, e2⟩ | ⟨hd, a, e1, e2⟩
 ·simp only [err, bG, bQ] at e1
  obtain ⟨rfl, rfl⟩ := e1
  exact ⟨h', e2 (n + 4), S⟩
 ·simp only [bG, bQ] at e1
  obtain ⟨rfl, rfl⟩ := e1
  exact ⟨h', e2 (n + 4), S⟩
theorem aLd (n : Nat) (args : List DV) : SimP false (eZ args) (fS CF1 (n + 12) 48 args) := fun h h' S v k e => by
 unfold eZ at e
 split at e <;> (try (cases e; done))
 simp only [bG, bQ] at e
 obtain ⟨rfl, rfl⟩ := e
 exact ⟨h', dEa (n + 10) _ h', S⟩
theorem bEa (n : Nat) (args : List DV) : SimP false (jL args) (fS CF1 (n + 12) 49 args) := fun h h' S v k e => by
 unfold jL at e
 split at e <;> (try (cases e; done))
 rename_i w
 have hc := dSc (n + 9) w h'
 cases hs : dO w with
 | true =>
  rw [hs] at e hc
  simp only [cond_true, bG, bQ] at e
  obtain ⟨rfl, rfl⟩ := e
  exact ⟨h', by rw [hc, qS]; rfl, S⟩
 | false =>
  rw [hs] at e hc
  simp only [cond_false, bG, bQ] at e
  obtain ⟨rfl, rfl⟩ := e
  exact ⟨h', by rw [hc]; rfl, S⟩
theorem bCm (n : Nat) (args : List DV) : SimP false (gJ args) (fS CF1 (n + 12) 81 args) := fun h h' S v k e => by
 unfold gJ at e
 split at e <;> (try (cases e; done))
 ·rename_i w
  have hc := dJj (n + 10) (Int.ofNat w) h'
  rw [gL] at e
  by_cases hw : w < 1073741824
  ·simp only [hw, decide_true, cond_true, bG, bQ] at e
   obtain ⟨rfl, rfl⟩ := e
   rw [if_pos (by simp only [Int.ofNat_eq_natCast]; omega)] at hc
   refine ⟨h', ?_, S⟩
   rw [hc]
   have : 2 * Int.ofNat w + 1 = Int.ofNat (Nat.succ (Nat.mul w 2)) := by
    have : Nat.mul w 2 = w * 2 := rfl
    rw [this]
    simp only [Int.ofNat_eq_natCast]; omega
   rw [this]
  ·simp only [hw, decide_false, cond_false, bG, bQ] at e
   obtain ⟨rfl, rfl⟩ := e
   rw [if_neg (by simp only [Int.ofNat_eq_natCast]; omega)] at hc
   exact ⟨h', by rw [hc]; rfl, S⟩
 ·rename_i w
  have hc := dJj (n + 10) (Int.negSucc w) h'
  rw [gL] at e
  by_cases hw : w < 1073741824
  ·simp only [hw, decide_true, cond_true, bG, bQ] at e
   obtain ⟨rfl, rfl⟩ := e
   rw [if_pos (by omega)] at hc
   refine ⟨h', ?_, S⟩
   rw [hc]
   have : 2 * Int.negSucc w + 1 = Int.negSucc (Nat.mul w 2) := by
    have : Nat.mul w 2 = w * 2 := rfl
    rw [this]; omega
   rw [this]
  ·simp only [hw, decide_false, cond_false, bG, bQ] at e
   obtain ⟨rfl, rfl⟩ := e
   rw [if_neg (by omega)] at hc
   exact ⟨h', by rw [hc]; rfl, S⟩
end Go.Dd

namespace Go.Dd
def Oth (m wb pb : Pos) (h h1 : Hp) : Prop := h1.next = h.next ∧ ∀ b, b ≠ m → b ≠ wb → b ≠ pb → h1.bl.get b = h.bl.get b
theorem Oth.refl (m wb pb : Pos) (h : Hp) : Oth m wb pb h h := ⟨rfl, fun _ _ _ _ => rfl⟩
theorem Oth.trans {m wb pb : Pos} {a b c : Hp} (h : Oth m wb pb a b) (k : Oth m wb pb b c) : Oth m wb pb a c := ⟨k.1.trans h.1, fun x h1 h2 h3 => (k.2 x h1 h2 h3).trans (h.2 x h1 h2 h3)⟩
section
variable {m : Pos} {M : MemV} {h : Hp}
def bPz (M : MemV) : Ob := .row .ex [.l M.wb 0 M.n M.n, .i .i64 (Int.ofNat M.fin), .i .i64 (Int.ofNat M.made), .m M.pb]
theorem ML.setM (H : ML m M h) (M' : MemV) (e1 : M'.wb = M.wb) (e2 : M'.pb = M.pb) (e3 : M'.n = M.n) (e4 : M'.t = M.t) (e5 : M'.pl = M.pl) (h1 : M'.fin ≤ M.n) (h2 : M'.made < 2000000) :
  ML m M' ⟨h.next, Tr.set (bPz M') m h.bl⟩ ∧ Oth m M.wb M.pb h ⟨h.next, Tr.set (bPz M') m h.bl⟩ := by
 refine ⟨⟨by rw [dUm]; rfl, ?_, ?_, by rw [e3]; exact H.n_lt, by rw [e3]; exact h1, h2, by rw [e1]; exact H.d1, by rw [e2]; exact H.d2, by rw [e1, e2]; exact H.d3⟩, rfl, fun b h1 _ _ => dUl _ _ _ _ h1⟩
 ·rw [e1, e3, e4, dUl _ _ _ _ (Ne.symm H.d1)]; exact H.words
 ·rw [e2, e5, dUl _ _ _ _ (Ne.symm H.d2)]; exact H.places
theorem ML.st1 (H : ML m M h) {x : Nat} (hx : x ≤ M.n) : ∃ h1, aH 1 (.p m (0 + 1)) (.i .i64 (Int.ofNat x)) h = some (aV, h1) ∧ ML m { M with fin := x } h1 ∧ Oth m M.wb M.pb h h1 := by
 obtain ⟨a, b⟩ := H.setM { M with fin := x } rfl rfl rfl rfl rfl hx H.made_lt
 exact ⟨_, by simp [aH, cY, cX, H.row, Kind.writable, gH, kZ, DV.one, bPz], a, b⟩
theorem ML.st2 (H : ML m M h) {x : Nat} (hx : x < 2000000) : ∃ h1, aH 1 (.p m (0 + 2)) (.i .i64 (Int.ofNat x)) h = some (aV, h1) ∧ ML m { M with made := x } h1 ∧ Oth m M.wb M.pb h h1 := by
 obtain ⟨a, b⟩ := H.setM { M with made := x } rfl rfl rfl rfl rfl H.fin_le hx
 exact ⟨_, by simp [aH, cY, cX, H.row, Kind.writable, gH, kZ, DV.one, bPz], a, b⟩
theorem ML.setW (H : ML m M h) (t : WT) : ML m { M with t := t } ⟨h.next, Tr.set (.row .ex (gY M.n t)) M.wb h.bl⟩ ∧ Oth m M.wb M.pb h ⟨h.next, Tr.set (.row .ex (gY M.n t)) M.wb h.bl⟩ := by
 refine ⟨⟨?_, by rw [dUm], ?_, H.n_lt, H.fin_le, H.made_lt, H.d1, H.d2, H.d3⟩, rfl, fun b _ h1 _ => dUl _ _ _ _ h1⟩
 ·rw [dUl _ _ _ _ H.d1]; exact H.row
 ·rw [dUl _ _ _ _ (Ne.symm H.d3)]; exact H.places
theorem ML.put' (H : ML m M h) {a : Nat} (ha : a < M.n) (w : Int) : ∃ h1, aH 1 (.p M.wb a) (.i .i64 w) h = some (aV, h1) ∧ ML m { M with t := M.t.set a w } h1 ∧ Oth m M.wb M.pb h h1 :=
 ⟨_, H.put ha w, (H.setW _).1, (H.setW _).2⟩
theorem bDr {a : Int} {es : List (DV × DV)} : ∀ (b : Int) {r r' : Option DV}, dI (.int .i64) (.i .i64 a) es = some r → dI (.int .i64) (.i .i64 b) es = some r' →
  dI (.int .i64) (.i .i64 b) (qH (.int .i64) (.i .i64 a) (.b true) es) = some (if b = a then some (.b true) else r') := by
 induction es with
 | nil =>
  intro b r r' h1 h2
  simp only [dI, bG] at h2
  subst h2
  simp only [qH, dI, nA, if_true]
  by_cases e : b = a
  ·simp [e]
  ·have : (b == a) = false := by simpa using e
   simp [e, this]
 | cons e es ih =>
  intro b r r' h1 h2
  simp only [dI] at h1 h2
  have hk : ∃ c, e.1 = .i .i64 c := by
   obtain ⟨x, y⟩ := e
   cases x <;> simp [nA] at h1
   rename_i k c
   cases k <;> simp at h1
   exact ⟨c, rfl⟩
  obtain ⟨c, hc⟩ := hk
  simp only [hc, nA, if_true] at h1 h2
  simp only [qH, hc, nA, if_true]
  by_cases hac : a = c
  ·subst hac
   simp only [beq_self_eq_true] at h1 ⊢
   simp only [dI, nA, if_true]
   by_cases hba : b = a
   ·subst hba; simp
   ·have : (b == a) = false := by simpa using hba
    simp only [this] at h2 ⊢
    rw [h2]; simp [hba]
  ·have hac' : (a == c) = false := by simpa using hac
   simp only [hac'] at h1 ⊢
   simp only [dI, hc, nA, if_true]
   by_cases hbc : b = c
   ·subst hbc
    simp only [beq_self_eq_true, bG] at h2 ⊢
    rw [if_neg (fun e => hac e.symm), h2]
   ·have hbc' : (b == c) = false := by simpa using hbc
    simp only [hbc'] at h2 ⊢
    exact ih b h1 h2
theorem ML.place (H : ML m M h) {a : Nat} (ha : a < 16000000) : ∃ h1, fY (.int .i64) (.m M.pb) (.i .i64 (a : Int)) (.b true) h = some (aV, h1) ∧ ML m { M with pl := M.pl.set a 1 } h1 ∧ Oth m M.wb M.pb h h1 := by
 obtain ⟨es, h1, h2⟩ := H.places
 refine ⟨⟨h.next, Tr.set (.mp (qH (.int .i64) (.i .i64 (a : Int)) (.b true) es)) M.pb h.bl⟩, by simp [fY, h1, h2 a], ⟨?_, ?_, ⟨_, by rw [dUm], fun b => ?_⟩, H.n_lt, H.fin_le, H.made_lt, H.d1, H.d2, H.d3⟩, rfl, fun b _ _ h1 => dUl _ _ _ _ h1⟩
 ·rw [dUl _ _ _ _ H.d2]; exact H.row
 ·rw [dUl _ _ _ _ H.d3]; exact H.words
 ·rw [bDr b (h2 a) (h2 b)]
  congr 1
  by_cases e : b = (a : Int)
  ·subst e
   simp [WT.get_set _ _ _ _ ha]
  ·rw [if_neg e]
   by_cases hb : 0 ≤ b
   ·have : b.toNat ≠ a := by omega
    rw [WT.get_set _ _ _ _ ha, if_neg this]
   ·simp [hb]
theorem cJe {h' h1 : Hp} {M' : MemV} (S : Sim false h h') (hM : lD m h = some M) (H1 : ML m M' h1) (e1 : M'.wb = M.wb) (e2 : M'.pb = M.pb) (e3 : M'.n = M.n) (O : Oth m M.wb M.pb h' h1) :
  Sim false ⟨h.next, Tr.set (bPz M') m (Tr.set (.mi M'.pl) M.pb (Tr.set (.big M.n M'.t) M.wb h.bl))⟩ h1 := by
 have H := fH hM S
 refine ⟨O.1.trans S.next, fun b o hb => ?_⟩
 by_cases b1 : b = m
 ·subst b1
  simp only [dUm, bG] at hb
  subst hb
  exact ⟨_, H1.row, rfl⟩
 ·simp only [dUl _ _ _ _ b1] at hb
  by_cases b2 : b = M.pb
  ·subst b2
   simp only [dUm, bG] at hb
   subst hb
   obtain ⟨es, p1, p2⟩ := H1.places
   rw [e2] at p1
   exact ⟨_, p1, by simp only [tB]; exact ⟨es, rfl, p2⟩⟩
  ·simp only [dUl _ _ _ _ b2] at hb
   by_cases b3 : b = M.wb
   ·subst b3
    simp only [dUm, bG] at hb
    subst hb
    have := H1.words
    rw [e1, e3] at this
    exact ⟨_, this, by simp [tB]⟩
   ·simp only [dUl _ _ _ _ b3] at hb
    rw [O.2 b b1 b3 b2]
    exact S.get b o hb
theorem bFs {h' h1 : Hp} {t : WT} (S : Sim false h h') (hM : lD m h = some M) (H1 : ML m { M with t := t } h1) (O : Oth m M.wb M.pb h' h1) (hm : h1.bl.get m = h'.bl.get m) (hp : h1.bl.get M.pb = h'.bl.get M.pb) :
  Sim false ⟨h.next, Tr.set (.big M.n t) M.wb h.bl⟩ h1 := by
 refine ⟨O.1.trans S.next, fun b o hb => ?_⟩
 by_cases b3 : b = M.wb
 ·subst b3
  simp only [dUm, bG] at hb
  subst hb
  exact ⟨_, H1.words, by simp [tB]⟩
 ·simp only [dUl _ _ _ _ b3] at hb
  by_cases b1 : b = m
  ·subst b1; rw [hm]; exact S.get _ o hb
  ·by_cases b2 : b = M.pb
   ·subst b2; rw [hp]; exact S.get _ o hb
   ·rw [O.2 b b1 b3 b2]
    exact S.get b o hb
end
theorem aMa {m : Pos} {M : MemV} {h h' : Hp} (S : Sim false h h') (hM : lD m h = some M) {a : Nat} (ha : a < M.n) (w : Int) {v : DV} {k : Hp} (hp : mB M a w h = some (v, k)) :
  v = .i .i64 (Int.ofNat 0) ∧ ∃ h1, aH 1 (.p M.wb a) (.i .i64 w) h' = some (aV, h1) ∧ Sim false k h1 := by
 have H := fH hM S
 simp only [mB, bG, bQ] at hp
 obtain ⟨rfl, rfl⟩ := hp
 refine ⟨rfl, _, H.put ha w, bFs S hM (H.setW _).1 (H.setW _).2 ?_ ?_⟩
 ·exact dUl _ _ _ _ H.d1
 ·exact dUl _ _ _ _ (Ne.symm H.d3)
theorem cMk (n : Nat) (args : List DV) : SimP false (sH args) (fS CF1 (n + 12) 72 args) := fun h h' S v k e => by
 obtain ⟨m, rest, M, rfl, hM, e⟩ := eM e
 split at e <;> (try (cases e; done))
 rename_i o i w _
 have H := fH hM S
 rw [cB 72 rfl, dMx]
 simp only [t47, bBz, g0, g1, g2, g3]
 rcases bXb H e with ⟨er, he, e1, e2⟩ | ⟨hd, a, h0, h1, h2, h3, e1, e2⟩
 ·simp only [bG, bQ] at e1
  obtain ⟨rfl, rfl⟩ := e1
  refine ⟨h', ?_, S⟩
  simp only [e2 (n + 4), aN, bUk, bVy, aKp, gE, cRo he, aY]
 ·have e0 : (Int.ofNat 0 != Int.ofNat 0) = false := rfl
  have h51 := dIr H (n + 5) o (show cM o M.pl < M.n by omega)
  rw [h3] at h51
  simp only [e2 (n + 4), aN, bUk, bVy, aKp, gE, e0, bF, aZl, h51, cA]
  have hmod : Int.ofNat hd % 4 = Int.ofNat (Nat.mod hd 4) := rfl
  have h4 : sB (fS CF1 (n + 11)) (n + 11) (.p m 0) (.i .i64 w) (.i .i64 (a : Int)) h' = bnd (aH 1 (.p M.wb a) (.i .i64 w) h') fun _ h5 => some (.i .i64 (Int.ofNat 0), h5) := by
   simp only [sB, gQ, eA, aN, H.l0, H.ix h1]
  have hput : mB M a w h = some (v, k) → ∃ h1, sB (fS CF1 (n + 11)) (n + 11) (.p m 0) (.i .i64 w) (.i .i64 (a : Int)) h' = some (v, h1) ∧ Sim false k h1 := by
   intro hp
   obtain ⟨rfl, h1', p1, p2⟩ := aMa S hM h1 w hp
   exact ⟨h1', by rw [h4, p1]; rfl, p2⟩
  rw [hmod]
  split at e1
  ·rename_i hz
   rw [hz]
   have : (Int.ofNat 0 == Int.ofNat 0) = true := rfl
   simp only [this, aY, dMj H, aN, dC]
   cases hmay : dX w M.pl with
   | true =>
    rw [hmay] at e1
    simp only [cond_true] at e1
    simp only [Bool.not_true, bF]
    exact hput e1
   | false =>
    rw [hmay] at e1
    simp only [cond_false, bG, bQ] at e1
    obtain ⟨rfl, rfl⟩ := e1
    exact ⟨h', rfl, S⟩
  ·rename_i hz
   rw [hz]
   have q0 : (Int.ofNat 2 == Int.ofNat 0) = false := rfl
   have q2 : (Int.ofNat 2 == Int.ofNat 2) = true := rfl
   simp only [q0, bF, aN, q2, aY, cE]
   cases w with
   | negSucc c =>
    simp only [bG, bQ] at e1
    obtain ⟨rfl, rfl⟩ := e1
    have hlt : decide (Int.negSucc c < Int.ofNat 0) = true := decide_eq_true (Int.negSucc_lt_zero c)
    simp only [hlt, dG, aN, bS, aY]
    exact ⟨h', rfl, S⟩
   | ofNat c =>
    dsimp only at e1
    have hlt : decide (Int.ofNat c < Int.ofNat 0) = false := by simp
    simp only [hlt, eF, aN, bO, eV]
    rw [iX] at e1
    by_cases hc : c ≤ 255
    ·simp only [hc, decide_true, cond_true] at e1
     have hgt : decide (Int.ofNat c > Int.ofNat 255) = false := by
      simp only [decide_eq_false_iff_not, Int.ofNat_eq_natCast]; omega
     simp only [hgt, bF]
     exact hput e1
    ·simp only [hc, decide_false, cond_false, bG, bQ] at e1
     obtain ⟨rfl, rfl⟩ := e1
     have hgt : decide (Int.ofNat c > Int.ofNat 255) = true := by
      simp only [decide_eq_true_eq, Int.ofNat_eq_natCast]; omega
     simp only [hgt, aY]
     exact ⟨h', rfl, S⟩
  ·rename_i hz0 hz2
   have q0 : (Int.ofNat (Nat.mod hd 4) == Int.ofNat 0) = false := by
    simp only [beq_eq_false_iff_ne, ne_eq, Int.ofNat_eq_natCast]
    intro e; exact hz0 (by exact_mod_cast e)
   have q2 : (Int.ofNat (Nat.mod hd 4) == Int.ofNat 2) = false := by
    simp only [beq_eq_false_iff_ne, ne_eq, Int.ofNat_eq_natCast]
    intro e; exact hz2 (by exact_mod_cast e)
   simp only [q0, bF, aN, q2, bF]
   exact hput e1
theorem aGk (n : Nat) (args : List DV) : SimP false (kP args) (fS CF1 (n + 12) 70 args) := fun h h' S v k e => by
 obtain ⟨m, rest, M, rfl, hM, e⟩ := eM e
 split at e <;> (try (cases e; done))
 rename_i o c _
 have H := fH hM S
 rw [cB 70 rfl, dNh]
 simp only [t44, g0, g1, g2, rN H, aN, cA]
 rw [oV] at e
 by_cases h0 : cM o M.pl = 0
 ·simp only [h0, decide_true, Bool.true_or, cond_true, bG, bQ] at e
  obtain ⟨rfl, rfl⟩ := e
  have : ((0 : Nat) : Int) = Int.ofNat 0 := rfl
  have q : (((cM o M.pl : Nat) : Int) == Int.ofNat 0) = true := by rw [h0]; rfl
  simp only [q, dG, aN, bS, aY]
  exact ⟨h', rfl, S⟩
 ·have q : (((cM o M.pl : Nat) : Int) == Int.ofNat 0) = false := by simpa using h0
  simp only [q, eF, aN, bO, dLy H, dC]
  cases hc : qT c M.pl with
  | false =>
   rw [hc] at e
   simp only [h0, decide_false, Bool.not_false, Bool.false_or, cond_true, bG, bQ] at e
   obtain ⟨rfl, rfl⟩ := e
   simp only [Bool.not_false, aY]
   exact ⟨h', rfl, S⟩
  | true =>
   rw [hc] at e
   simp only [h0, decide_false, Bool.not_true, Bool.false_or, cond_false] at e
   rw [gL] at e
   by_cases ha : Nat.add (cM o M.pl) 1 < M.n
   ·simp only [ha, decide_true, cond_true] at e
    have ha' : cM o M.pl + 1 < M.n := ha
    have hn := H.n_lt
    simp only [Bool.not_true, bF, gQ, eA, aN, H.l0]
    rw [gC _ _ _ (by simp only [Int.ofNat_eq_natCast]; omega)]
    have ee : (cM o M.pl : Int) + Int.ofNat 1 = ((cM o M.pl + 1 : Nat) : Int) := by simp
    obtain ⟨rfl, h1', p1, p2⟩ := aMa S hM ha' c e
    simp only [aN, ee, H.ix ha', p1]
    exact ⟨h1', rfl, p2⟩
   ·simp only [ha, decide_false, cond_false] at e
    cases e
end Go.Dd

namespace Go.Dd
theorem iB (a b : Nat) (h : Hp) (hr : a + b < 4611686018427387904) : aD .add (.i .i64 (Int.ofNat a)) (.i .i64 (Int.ofNat b)) h = some (.i .i64 (Int.ofNat (a + b)), h) := by
 rw [gC _ _ _ (by simp only [Int.ofNat_eq_natCast]; omega)]
 rfl
theorem dFh (c f : Nat) (h : Hp) (hc : c ≤ 256) (hf : f ≤ 2) : aD .or (.i .i64 (4 * Int.ofNat c)) (.i .i64 (Int.ofNat f)) h = some (.i .i64 (Int.ofNat (c * 4 + f)), h) := by
 have hb : dW .or .i64 (4 * Int.ofNat c) (Int.ofNat f) = some (.i .i64 (Int.ofNat (c * 4 + f))) := by
  have := cWd c 2 f (by omega) (by omega)
  have e1 : ((c * 2 ^ 2 : Nat) : Int) = 4 * Int.ofNat c := by simp only [Int.ofNat_eq_natCast]; omega
  have e2 : ((c * 2 ^ 2 + f : Nat) : Int) = Int.ofNat (c * 4 + f) := rfl
  rw [e1, e2] at this
  rw [← this]; rfl
 simp only [aD, if_true, hb]
theorem mY (t : WT) : ∀ (c a j : Nat), a + c < 16000000 → (kV t c a).get j = if a ≤ j ∧ j < a + c then 0 else t.get j
 | 0, a, j, h => by rw [if_neg (by omega)]; rfl
 | c + 1, a, j, h => by
  have e : kV t (c + 1) a = (kV t c (a + 1)).set a (.ofNat 0) := rfl
  rw [e, WT.get_set _ _ _ _ (by omega), mY t c (a + 1) j (by omega)]
  by_cases h1 : j = a
  ·rw [if_pos h1, if_pos (by omega)]; rfl
  ·rw [if_neg h1]
   by_cases h2 : a + 1 ≤ j ∧ j < a + 1 + c
   ·rw [if_pos h2, if_pos (by omega)]
   ·rw [if_neg h2, if_neg (by omega)]
theorem aXi : ∀ (l vs : List DV), (∀ v ∈ l, v.one = true) → (∀ v ∈ vs, v.one = true) → vs.length ≤ l.length → ∃ l', kZ l vs = some l'
 | l, [], _, _, _ => ⟨l, by cases l <;> rfl⟩
 | [], v :: vs, _, _, h => by simp at h
 | x :: l, v :: vs, h1, h2, h3 => by
  obtain ⟨l', e⟩ := aXi l vs (fun u hu => h1 u (by simp [hu])) (fun u hu => h2 u (by simp [hu])) (by simpa using h3)
  exact ⟨v :: l', by simp [kZ, h1 x (by simp), h2 v (by simp), e]⟩
theorem aKi : ∀ (o : Nat) (l vs : List DV), (∀ v ∈ l, v.one = true) → (∀ v ∈ vs, v.one = true) → o + vs.length ≤ l.length → ∃ l', gH o l vs = some l'
 | 0, l, vs, h1, h2, h3 => by
  obtain ⟨l', e⟩ := aXi l vs h1 h2 (by omega)
  exact ⟨l', e⟩
 | o + 1, [], vs, h1, h2, h3 => by simp at h3
 | o + 1, x :: l, vs, h1, h2, h3 => by
  obtain ⟨l', e⟩ := aKi o l vs (fun u hu => h1 u (by simp [hu])) h2 (by simp at h3; omega)
  exact ⟨x :: l', by simp [gH, e]⟩
section
variable {m : Pos} {M : MemV} {h : Hp}
theorem bNl {n : Nat} {t : WT} : ∀ v ∈ gY n t, v.one = true := by
 intro v hv
 simp only [gY, List.mem_map] at hv
 obtain ⟨i, _, rfl⟩ := hv
 rfl
theorem ML.ix' (H : ML m M h) {a : Nat} (ha : a < M.n) : aJ 1 (.l M.wb 0 M.n M.n) (.i .i64 (Int.ofNat a)) h = some (.p M.wb a, h) := H.ix ha
theorem xG (c : Nat) : (List.replicate c [DV.i .i64 (Int.ofNat 0)]).flatten = List.replicate c (.i .i64 (Int.ofNat 0)) := by
 induction c with
 | zero => rfl
 | succ c ih => simp [List.replicate_succ, ih]
theorem ML.clear (H : ML m M h) {a c : Nat} (hac : a + c ≤ M.n) : ∃ v h1, cV 1 (.l M.wb 0 M.n M.n) (some (.i .i64 (Int.ofNat a))) (some (.i .i64 (Int.ofNat (a + c)))) h = some (v, h) ∧
  jG [.i .i64 (Int.ofNat 0)] v h = some (.t [], h1) ∧ ML m { M with t := kV M.t c a } h1 ∧ Oth m M.wb M.pb h h1 := by
 have hn := H.n_lt
 have e1 : gZ (.i .i64 (Int.ofNat (a + c))) M.n = some (a + c) := by
  have : (0 : Int) ≤ Int.ofNat (a + c) ∧ Int.ofNat (a + c) ≤ (M.n : Int) := by simp only [Int.ofNat_eq_natCast]; omega
  simp only [gZ, this, and_self, if_true]
  rfl
 have e2 : gZ (.i .i64 (Int.ofNat a)) (a + c) = some a := by
  have : (0 : Int) ≤ Int.ofNat a ∧ Int.ofNat a ≤ ((a + c : Nat) : Int) := by simp only [Int.ofNat_eq_natCast]; omega
  simp only [gZ, this, and_self, if_true]
  rfl
 refine ⟨.l M.wb (if M.n = a then 0 else 0 + a * 1) (a + c - a) (M.n - a), ?_⟩
 have hs : cV 1 (.l M.wb 0 M.n M.n) (some (.i .i64 (Int.ofNat a))) (some (.i .i64 (Int.ofNat (a + c)))) h = some (.l M.wb (if M.n = a then 0 else 0 + a * 1) (a + c - a) (M.n - a), h) := by
  simp only [cV, hiD, loD, e1, e2, H.words]
 by_cases hc : c = 0
 ·subst hc
  refine ⟨h, hs, by simp [jG], H, Oth.refl _ _ _ _⟩
 ·obtain ⟨l', hl'⟩ := aKi a (gY M.n M.t) (List.replicate c (.i .i64 (Int.ofNat 0))) bNl (fun v hv => by rw [List.eq_of_mem_replicate hv]; rfl) (by simp [gY]; omega)
  obtain ⟨p1, p2, p3, p4, p5⟩ := lI _ _ _ _ hl'
  have hll : l' = gY M.n (kV M.t c a) := by
   apply List.ext_getElem?
   intro j
   by_cases hj : j < M.n
   ·rw [kH hj, mY _ _ _ _ (by omega)]
    by_cases hin : a ≤ j ∧ j < a + c
    ·rw [if_pos hin]
     obtain ⟨q1, _⟩ := p4 (j - a) (.i .i64 (Int.ofNat 0)) (by rw [List.getElem?_replicate, if_pos (by omega)])
     rw [show a + (j - a) = j from by omega] at q1
     exact q1
    ·rw [if_neg hin, p5 j (by rw [List.length_replicate]; omega), kH hj]
   ·rw [List.getElem?_eq_none (by rw [p1]; simp [gY]; omega), List.getElem?_eq_none (by simp [gY]; omega)]
  refine ⟨⟨h.next, Tr.set (.row .ex (gY M.n (kV M.t c a))) M.wb h.bl⟩, hs, ?_, (H.setW _).1, (H.setW _).2⟩
  have hna : M.n ≠ a := by omega
  rw [if_neg hna]
  simp only [jG, show a + c - a = c from by omega, hc, if_false, xG, cX, H.words, Kind.writable, if_true, Nat.zero_add, Nat.mul_one, hl', hll]
end
noncomputable def aVg (rec : FuncId → List DV → Hp → aI) (x0 x3 v26 : DV) (h0 : Hp) : aI :=
 bnd (aO x0 h0) fun v64 h64 =>
 bnd (aC 1 v64 h64) fun v65 h65 =>
 bnd (aA v65 h65) fun v66 h66 =>
 bnd (aD .add x3 (.i .i64 (Int.ofNat 3)) h66) fun v67 h67 =>
 bnd (aD .add v66 v67 h67) fun v68 h68 =>
 bnd (aO x0 h68) fun v69 h69 =>
 bnd (aC 1 v69 h69) fun v70 h70 =>
 bnd (aH 1 v70 v68 h70) fun _ h71 =>
 bnd (aO x0 h71) fun v72 h72 =>
 bnd (aC 3 v72 h72) fun v73 h73 =>
 bnd (aA v73 h73) fun v74 h74 =>
 bnd (fY (.int .i64) v74 v26 (.b true) h74) fun _ h75 =>
 bnd (rec 87 [v26] h75) fun v76 h76 =>
 bnd (aB 0 v76 h76) fun v77 h77 =>
 bnd (aB 1 v76 h77) fun v78 h78 =>
 some (.t [v77, (.i .i64 (Int.ofNat 0))], h78)
noncomputable def aVb (rec : FuncId → List DV → Hp → aI) (x0 x3 v26 : DV) (h0 : Hp) : aI :=
 bnd (aO x0 h0) fun v56 h56 =>
 bnd (aC 0 v56 h56) fun v57 h57 =>
 bnd (aA v57 h57) fun v58 h58 =>
 bnd (aD .add v26 (.i .i64 (Int.ofNat 3)) h58) fun v59 h59 =>
 bnd (aD .add v26 (.i .i64 (Int.ofNat 3)) h59) fun v60 h60 =>
 bnd (aD .add v60 x3 h60) fun v61 h61 =>
 bnd (cV 1 v58 (some v59) (some v61) h61) fun v62 h62 =>
 bnd (jG [(.i .i64 (Int.ofNat 0))] v62 h62) fun _ h63 =>
 aVg rec x0 x3 v26 h63
noncomputable def bBw (rec : FuncId → List DV → Hp → aI) (x0 x1 x2 x3 v26 : DV) (h0 : Hp) : aI :=
 bnd (aO x0 h0) fun v34 h34 =>
 bnd (aC 0 v34 h34) fun v35 h35 =>
 bnd (aA v35 h35) fun v36 h36 =>
 bnd (aO x0 h36) fun v37 h37 =>
 bnd (aC 0 v37 h37) fun v38 h38 =>
 bnd (aA v38 h38) fun v39 h39 =>
 bnd (aD .add v26 (.i .i64 (Int.ofNat 1)) h39) fun v40 h40 =>
 bnd (aO x0 h40) fun v41 h41 =>
 bnd (aC 0 v41 h41) fun v42 h42 =>
 bnd (aA v42 h42) fun v43 h43 =>
 bnd (aD .add v26 (.i .i64 (Int.ofNat 2)) h43) fun v44 h44 =>
 bnd (cS .shl x3 (.i .u64 (Int.ofNat 2)) h44) fun v45 h45 =>
 bnd (aD .or v45 x2 h45) fun v46 h46 =>
 bnd (aO x0 h46) fun v47 h47 =>
 bnd (aC 2 v47 h47) fun v48 h48 =>
 bnd (aA v48 h48) fun v49 h49 =>
 bnd (aJ 1 v36 v26 h49) fun v50 h50 =>
 bnd (aH 1 v50 v46 h50) fun v51 h51 =>
 bnd (aJ 1 v39 v40 h51) fun v52 h52 =>
 bnd (aH 1 v52 x1 h52) fun v53 h53 =>
 bnd (aJ 1 v43 v44 h53) fun v54 h54 =>
 bnd (aH 1 v54 v49 h54) fun v55 h55 =>
 aVb rec x0 x3 v26 h55
noncomputable def aBq (rec : FuncId → List DV → Hp → aI) (x0 x1 x2 x3 : DV) (h0 : Hp) : aI :=
 bnd (aO x0 h0) fun v24 h24 =>
 bnd (aC 1 v24 h24) fun v25 h25 =>
 bnd (aA v25 h25) fun v26 h26 =>
 bnd (aO x0 h26) fun v27 h27 =>
 bnd (aC 2 v27 h27) fun v28 h28 =>
 bnd (aA v28 h28) fun v29 h29 =>
 bnd (aD .add v29 (.i .i64 (Int.ofNat 1)) h29) fun v30 h30 =>
 bnd (aO x0 h30) fun v31 h31 =>
 bnd (aC 2 v31 h31) fun v32 h32 =>
 bnd (aH 1 v32 v30 h32) fun _ h33 =>
 bBw rec x0 x1 x2 x3 v26 h33
theorem dAd (rec : FuncId → List DV → Hp → aI) (n : Nat) (x0 x1 x2 x3 : DV) (h0 : Hp) : t30 rec n x0 x1 x2 x3 h0 = (
 bnd (rec 85 [x0, x1] h0) fun v1 h1 =>
 bnd (dR .not v1 h1) fun v2 h2 =>
 bnd (gD v2 false (some (x2, h2)) h2) fun v3 h3 =>
 bnd (gD v2 false (aD .lss v3 (.i .i64 (Int.ofNat 0)) h3) h3) fun v4 h4 =>
 bnd (aQ v2 (.b true) v4 h4) fun v5 h5 =>
 bnd (gD v5 false (some (x2, h5)) h5) fun v6 h6 =>
 bnd (gD v5 false (aD .gtr v6 (.i .i64 (Int.ofNat 2)) h6) h6) fun v7 h7 =>
 bnd (aQ v5 (.b true) v7 h7) fun v8 h8 =>
 bnd (gD v8 false (some (x3, h8)) h8) fun v9 h9 =>
 bnd (gD v8 false (aD .lss v9 (.i .i64 (Int.ofNat 0)) h9) h9) fun v10 h10 =>
 bnd (aQ v8 (.b true) v10 h10) fun v11 h11 =>
 bnd (gD v11 false (some (x3, h11)) h11) fun v12 h12 =>
 bnd (gD v11 false (aD .gtr v12 (.i .i64 (Int.ofNat 256)) h12) h12) fun v13 h13 =>
 bnd (aQ v11 (.b true) v13 h13) fun v14 h14 =>
 aT v14 (
 some (.t [(.i .i64 (Int.ofNat 0)), (.i .i64 (Int.ofNat 1))], h14)) (
 bnd (rec 86 [x0] h14) fun v15 h15 =>
 bnd (aD .add x3 (.i .i64 (Int.ofNat 3)) h15) fun v16 h16 =>
 bnd (aD .lss v15 v16 h16) fun v17 h17 =>
 bnd (gD v17 false (some (x0, h17)) h17) fun v18 h18 =>
 bnd (gD v17 false (aO v18 h18) h18) fun v19 h19 =>
 bnd (gD v17 false (aC 2 v19 h19) h19) fun v20 h20 =>
 bnd (gD v17 false (aA v20 h20) h20) fun v21 h21 =>
 bnd (gD v17 false (aD .geq v21 (.i .i64 (Int.ofNat 1099511627776)) h21) h21) fun v22 h22 =>
 bnd (aQ v17 (.b true) v22 h22) fun v23 h23 =>
 aT v23 (
 some (.t [(.i .i64 (Int.ofNat 0)), (.i .i64 (Int.ofNat 4))], h23)) (
 aBq rec x0 x1 x2 x3 h23))) := rfl
section
variable {m : Pos} {M : MemV} {h : Hp}
theorem bXn (H : ML m M h) {c : Nat} (hr : M.fin + (c + 3) ≤ M.n) (ha : 3 ≤ M.fin ∧ M.fin ≤ 131072) (n : Nat) :
  ∃ h1, aVg (fS CF1 (n + 11)) (.p m 0) (.i .i64 (Int.ofNat c)) (.i .i64 (Int.ofNat M.fin)) h = some (.t [.i .i64 (Int.ofNat (Nat.mul M.fin 2)), .i .i64 (Int.ofNat 0)], h1) ∧
   ML m { M with fin := M.fin + (c + 3), pl := M.pl.set M.fin 1 } h1 ∧ Oth m M.wb M.pb h h1 := by
 have hn := H.n_lt
 simp only [aVg, gQ, eA, aN, H.l1, iB c 3 _ (show c + 3 < 4611686018427387904 by omega), iB M.fin (c + 3) _ (show M.fin + (c + 3) < 4611686018427387904 by omega)]
 obtain ⟨h6, s6, H6, O6⟩ := H.st1 (x := M.fin + (c + 3)) hr
 simp only [s6, aN, H6.l3]
 obtain ⟨h7, s7, H7, O7⟩ := H6.place (a := M.fin) (by omega)
 rw [show fY (.int .i64) (.m M.pb) (.i .i64 (Int.ofNat M.fin)) (.b true) h6 = some (aV, h7) from s7]
 have hp : 3 ≤ Int.ofNat M.fin ∧ Int.ofNat M.fin ≤ 131072 := by simp only [Int.ofNat_eq_natCast]; omega
 have e2 : 2 * Int.ofNat M.fin = Int.ofNat (Nat.mul M.fin 2) := by
  have : Nat.mul M.fin 2 = M.fin * 2 := rfl
  rw [this]; simp only [Int.ofNat_eq_natCast]; omega
 have h75 := dQp (n + 9) (Int.ofNat M.fin) h7
 rw [if_pos hp, e2] at h75
 simp only [aN, h75, bUk, bVy]
 exact ⟨h7, rfl, H7, O6.trans O7⟩
theorem bUd (H : ML m M h) {c : Nat} (hr : M.fin + (c + 3) ≤ M.n) (n : Nat) :
  ∃ h1, aVb (fS CF1 (n + 11)) (.p m 0) (.i .i64 (Int.ofNat c)) (.i .i64 (Int.ofNat M.fin)) h = aVg (fS CF1 (n + 11)) (.p m 0) (.i .i64 (Int.ofNat c)) (.i .i64 (Int.ofNat M.fin)) h1 ∧
   ML m { M with t := kV M.t c (M.fin + 3) } h1 ∧ Oth m M.wb M.pb h h1 := by
 have hn := H.n_lt
 obtain ⟨vv, h5, s5, s5', H5, O5⟩ := H.clear (a := M.fin + 3) (c := c) (show M.fin + 3 + c ≤ M.n by omega)
 refine ⟨h5, ?_, H5, O5⟩
 simp only [aVb, gQ, eA, aN, H.l0, iB M.fin 3 _ (show M.fin + 3 < 4611686018427387904 by omega), iB (M.fin + 3) c _ (show M.fin + 3 + c < 4611686018427387904 by omega), s5, s5']
theorem bNd (H : ML m M h) {cls : Int} {c f : Nat} (hcc : c ≤ 256) (hf : f ≤ 2) (hr : M.fin + (c + 3) ≤ M.n) (n : Nat) :
  ∃ h1, bBw (fS CF1 (n + 11)) (.p m 0) (.i .i64 cls) (.i .i64 (Int.ofNat f)) (.i .i64 (Int.ofNat c)) (.i .i64 (Int.ofNat M.fin)) h = aVb (fS CF1 (n + 11)) (.p m 0) (.i .i64 (Int.ofNat c)) (.i .i64 (Int.ofNat M.fin)) h1 ∧
   ML m { M with t := ((M.t.set M.fin (Int.ofNat (c * 4 + f))).set (M.fin + 1) cls).set (M.fin + 2) (Int.ofNat M.made) } h1 ∧ Oth m M.wb M.pb h h1 := by
 have hn := H.n_lt
 obtain ⟨h2, s2, H2, O2⟩ := H.put' (a := M.fin) (show M.fin < M.n by omega) (Int.ofNat (c * 4 + f))
 obtain ⟨h3, s3, H3, O3⟩ := H2.put' (a := M.fin + 1) (show M.fin + 1 < M.n by omega) cls
 obtain ⟨h4, s4, H4, O4⟩ := H3.put' (a := M.fin + 2) (show M.fin + 2 < M.n by omega) (Int.ofNat M.made)
 have i1 := H.ix' (a := M.fin) (by omega)
 have i2 : aJ 1 (.l M.wb 0 M.n M.n) (.i .i64 (Int.ofNat (M.fin + 1))) h2 = some (.p M.wb (M.fin + 1), h2) := H2.ix' (a := M.fin + 1) (show M.fin + 1 < M.n by omega)
 have i3 : aJ 1 (.l M.wb 0 M.n M.n) (.i .i64 (Int.ofNat (M.fin + 2))) h3 = some (.p M.wb (M.fin + 2), h3) := H3.ix' (a := M.fin + 2) (show M.fin + 2 < M.n by omega)
 have s3' : aH 1 (.p M.wb (M.fin + 1)) (.i .i64 cls) h2 = some (aV, h3) := s3
 have s4' : aH 1 (.p M.wb (M.fin + 2)) (.i .i64 (Int.ofNat M.made)) h3 = some (aV, h4) := s4
 refine ⟨h4, ?_, H4, (O2.trans O3).trans O4⟩
 simp only [bBw, gQ, eA, aN, H.l0, H.l2, iB M.fin 1 _ (show M.fin + 1 < 4611686018427387904 by omega), iB M.fin 2 _ (show M.fin + 2 < 4611686018427387904 by omega),
  cNj (Int.ofNat c) _ (show -2305843009213693952 ≤ Int.ofNat c ∧ Int.ofNat c ≤ 2305843009213693951 by simp only [Int.ofNat_eq_natCast]; omega), dFh c f _ hcc hf, i1, s2, i2, s3', i3, s4']
end
theorem bFw {m : Pos} {M : MemV} {h h' : Hp} (S : Sim false h h') (hM : lD m h = some M) {cls : Int} {c f : Nat} (hcc : c ≤ 256) (hf : f ≤ 2) (hr : M.fin + (c + 3) ≤ M.n) (ha : 3 ≤ M.fin ∧ M.fin ≤ 131072) (n : Nat) :
  ∃ h1, aBq (fS CF1 (n + 11)) (.p m 0) (.i .i64 cls) (.i .i64 (Int.ofNat f)) (.i .i64 (Int.ofNat c)) h' = some (.t [.i .i64 (Int.ofNat (Nat.mul M.fin 2)), .i .i64 (Int.ofNat 0)], h1) ∧
   Sim false ⟨h.next, Tr.set (.row .ex [.l M.wb 0 M.n M.n, .i .i64 (Int.ofNat (M.fin + (c + 3))), .i .i64 (Int.ofNat (M.made + 1)), .m M.pb]) m
    (Tr.set (.mi (M.pl.set M.fin 1)) M.pb
     (Tr.set (.big M.n (kV (((M.t.set M.fin (Int.ofNat (c * 4 + f))).set (M.fin + 1) cls).set (M.fin + 2) (Int.ofNat (M.made + 1))) c (M.fin + 3))) M.wb h.bl))⟩ h1 := by
 have H := fH hM S
 have hmd : M.made < 1000000 := (qY hM).2.2.2.2.2
 obtain ⟨h1, s1, H1, O1⟩ := H.st2 (x := M.made + 1) (by omega)
 obtain ⟨h2, s2, H2, O2⟩ := bNd H1 (cls := cls) hcc hf hr n
 obtain ⟨h3, s3, H3, O3⟩ := bUd H2 hr n
 obtain ⟨h4, s4, H4, O4⟩ := bXn H3 hr ha n
 have e : aBq (fS CF1 (n + 11)) (.p m 0) (.i .i64 cls) (.i .i64 (Int.ofNat f)) (.i .i64 (Int.ofNat c)) h' = bBw (fS CF1 (n + 11)) (.p m 0) (.i .i64 cls) (.i .i64 (Int.ofNat f)) (.i .i64 (Int.ofNat c)) (.i .i64 (Int.ofNat M.fin)) h1 := by
  simp only [aBq, gQ, eA, aN, H.l1, H.l2, iB M.made 1 _ (show M.made + 1 < 4611686018427387904 by omega), s1]
 refine ⟨h4, e.trans (s2.trans (s3.trans s4)), ?_⟩
 dsimp only at H4
 have H5 : ML m ⟨M.wb, M.n, M.fin + (c + 3), M.made + 1, M.pb, kV (((M.t.set M.fin (Int.ofNat (c * 4 + f))).set (M.fin + 1) cls).set (M.fin + 2) (Int.ofNat (M.made + 1))) c (M.fin + 3), M.pl.set M.fin 1⟩ h4 := H4
 exact cJe S hM H5 rfl rfl rfl (((O1.trans O2).trans O3).trans O4)
theorem bOw (n : Nat) (args : List DV) : SimP false (iR args) (fS CF1 (n + 12) 47 args) := fun h h' S v k e => by
 unfold iR at e
 split at e <;> (try (cases e; done))
 rename_i m cls fmt cnt
 split at e <;> (try (cases e; done))
 rename_i M hM
 have H := fH hM S
 have hn := H.n_lt
 have hfn := H.fin_le
 rw [cB 47 rfl, dMw, dAd]
 simp only [g0, g1, g2, g3, dLy H, aN, dC]
 have herr : ∀ er : Nat, err er h = some (v, k) → ∃ h1, (some (.t [.i .i64 (Int.ofNat 0), .i .i64 (Int.ofNat er)], h') : aI) = some (v, h1) ∧ Sim false k h1 := by
  intro er he
  simp only [err, bG, bQ] at he
  obtain ⟨rfl, rfl⟩ := he
  exact ⟨h', rfl, S⟩
 cases hc : qT cls M.pl with
 | false =>
  rw [hc] at e
  simp only [Bool.not_false, cond_true] at e
  simp only [Bool.not_false, dG, aN, bS, aY]
  exact herr 1 e
 | true =>
  rw [hc] at e
  simp only [Bool.not_true, cond_false] at e
  simp only [Bool.not_true, eF, aN, bO, cE]
  cases fmt with
  | negSucc f =>
   have hlt : decide (Int.negSucc f < Int.ofNat 0) = true := decide_eq_true (Int.negSucc_lt_zero f)
   simp only [hlt, dG, aN, bS, aY]
   exact herr 1 e
  | ofNat f =>
   have hlt : decide (Int.ofNat f < Int.ofNat 0) = false := by simp
   simp only [hlt, eF, aN, bO, eV]
   by_cases hf : f ≤ 2
   ·have hgt : decide (Int.ofNat f > Int.ofNat 2) = false := by simp only [decide_eq_false_iff_not, Int.ofNat_eq_natCast]; omega
    simp only [hgt, eF, aN, bO, cE]
    cases cnt with
    | negSucc c =>
     have hlt : decide (Int.negSucc c < Int.ofNat 0) = true := decide_eq_true (Int.negSucc_lt_zero c)
     simp only [hlt, dG, aN, bS, aY]
     exact herr 1 e
    | ofNat c =>
     have hlt : decide (Int.ofNat c < Int.ofNat 0) = false := by simp
     simp only [hlt, eF, aN, bO, eV]
     dsimp only at e
     simp only [iX, gL, hf, decide_true, Bool.true_and] at e
     by_cases hcc : c ≤ 256
     ·have hgt : decide (Int.ofNat c > Int.ofNat 256) = false := by simp only [decide_eq_false_iff_not, Int.ofNat_eq_natCast]; omega
      simp only [hgt, bF, dIn H, aN, iB c 3 _ (by omega), cE]
      simp only [hcc, decide_true, cond_true] at e
      have hsub : Nat.sub M.n M.fin = M.n - M.fin := rfl
      have hadd : Nat.add c 3 = c + 3 := rfl
      rw [hsub, hadd] at e
      by_cases hr : M.n - M.fin < c + 3
      ·simp only [hr, decide_true, cond_true] at e
       have hl : decide (Int.ofNat (M.n - M.fin) < Int.ofNat (c + 3)) = true := by simp only [decide_eq_true_eq, Int.ofNat_eq_natCast]; omega
       simp only [hl, dG, aN, bS, aY]
       exact herr 4 e
      ·simp only [hr, decide_false, cond_false] at e
       have hl : decide (Int.ofNat (M.n - M.fin) < Int.ofNat (c + 3)) = false := by simp only [decide_eq_false_iff_not, Int.ofNat_eq_natCast]; omega
       simp only [hl, eF, aN, bO, gQ, eA, H.l2, iL]
       have hg : decide (Int.ofNat M.made ≥ Int.ofNat 1099511627776) = false := by
        have hmd : M.made < 1000000 := (qY hM).2.2.2.2.2
        simp only [decide_eq_false_iff_not, Int.ofNat_eq_natCast]; omega
       simp only [hg, bF]
       by_cases ha : 3 ≤ M.fin ∧ M.fin ≤ 131072
       ·simp only [ha.1, ha.2, decide_true, Bool.and_self, cond_true, bG, bQ] at e
        obtain ⟨rfl, rfl⟩ := e
        exact bFw S hM hcc hf (by omega) ha n
       ·have : (decide (3 ≤ M.fin) && decide (M.fin ≤ 131072)) = false := by
         rw [← Bool.not_eq_true]
         simpa using ha
        rw [this] at e
        simp only [cond_false] at e
        cases e
     ·have hgt : decide (Int.ofNat c > Int.ofNat 256) = true := by simp only [decide_eq_true_eq, Int.ofNat_eq_natCast]; omega
      simp only [hcc, decide_false, cond_false] at e
      simp only [hgt, aY]
      exact herr 1 e
   ·have hgt : decide (Int.ofNat f > Int.ofNat 2) = true := by simp only [decide_eq_true_eq, Int.ofNat_eq_natCast]; omega
    simp only [hgt, dG, aN, bS, aY]
    cases cnt with
    | negSucc c => exact herr 1 e
    | ofNat c =>
     dsimp only at e
     simp only [iX, hf, decide_false, Bool.false_and, cond_false] at e
     exact herr 1 e
theorem aNk (n : Nat) (args : List DV) : SimP false (aOj args) (fS CF1 (n + 12) 68 args) := fun h h' S v k e => by
 unfold aOj at e
 split at e <;> (try (cases e; done))
 ·rename_i w
  rw [cB 68 rfl, cRt]
  simp only [t41, g0, cE, aN]
  simp only [gL] at e
  by_cases h1 : w < 16
  ·simp only [h1, decide_true, Bool.true_or, cond_true, bG, bQ] at e
   obtain ⟨rfl, rfl⟩ := e
   have hl : decide (Int.ofNat w < Int.ofNat 16) = true := by simp only [decide_eq_true_eq, Int.ofNat_eq_natCast]; omega
   simp only [hl, dG, aN, bS, aY]
   exact ⟨h', rfl, S⟩
  ·have hl : decide (Int.ofNat w < Int.ofNat 16) = false := by simp only [decide_eq_false_iff_not, Int.ofNat_eq_natCast]; omega
   simp only [hl, eF, aN, bO, eV]
   by_cases h2 : 131072 < w
   ·simp only [h2, decide_true, Bool.or_true, cond_true, bG, bQ] at e
    obtain ⟨rfl, rfl⟩ := e
    have hg : decide (Int.ofNat w > Int.ofNat 131072) = true := by simp only [decide_eq_true_eq, Int.ofNat_eq_natCast]; omega
    simp only [hg, aY]
    exact ⟨h', rfl, S⟩
   ·simp only [h1, h2, decide_false, Bool.or_self, cond_false, bG, bQ] at e
    obtain ⟨rfl, rfl⟩ := e
    have hg : decide (Int.ofNat w > Int.ofNat 131072) = false := by simp only [decide_eq_false_iff_not, Int.ofNat_eq_natCast]; omega
    simp only [hg, bF]
    have hms : cK 1 8 [.i .i64 (Int.ofNat 0)] (.i .i64 (Int.ofNat w)) (.i .i64 (Int.ofNat w)) h' = some (.l h'.next 0 w w, ⟨h'.next.succ, Tr.set (.row .ex (gY w .e)) h'.next h'.bl⟩) := by
     have hc : (0 : Int) ≤ Int.ofNat w ∧ Int.ofNat w ≤ Int.ofNat w ∧ (Int.ofNat w).toNat * 8 ≤ 2 ^ 30 ∧ (Int.ofNat w).toNat * 1 ≤ 2 ^ 24 ∧ Int.ofNat w < 2 ^ 32 := by
      have : (Int.ofNat w).toNat = w := rfl
      rw [this]
      simp only [Int.ofNat_eq_natCast]
      omega
     have hz : (List.replicate (Int.ofNat w).toNat [DV.i .i64 (Int.ofNat 0)]).flatten = gY w .e := by
      have : (Int.ofNat w).toNat = w := rfl
      rw [this, xG]
      apply List.ext_getElem?
      intro j
      by_cases hj : j < w
      ·rw [kH hj, List.getElem?_replicate, if_pos hj]; rfl
      ·rw [List.getElem?_replicate, if_neg hj, List.getElem?_eq_none (by simp [gY]; omega)]
     simp only [cK, hc, and_self, if_true, hz]
     rfl
    simp only [hms, aN, dY]
    have hb : ∀ x y h, bD [.l0, .i .i64 (Int.ofNat 0), .i .i64 (Int.ofNat 0), .m0] [(0, 1, .l x 0 w w), (1, 1, .i .i64 (Int.ofNat 3)), (3, 1, .m y)] h = some (.a [.l x 0 w w, .i .i64 (Int.ofNat 3), .i .i64 (Int.ofNat 0), .m y], h) := fun x y h => rfl
    simp only [hb, aN, bX, cY, bR]
    have hnx := S.next
    refine ⟨_, by rw [hnx]; rfl, ?_⟩
    refine ⟨rfl, fun b o hb => ?_⟩
    show ∃ o', (Tr.set _ (bW 2 h.next) (Tr.set _ (bW 1 h.next) (Tr.set _ h.next h'.bl))).get b = some o' ∧ _
    by_cases b1 : b = bW 2 h.next
    ·subst b1
     simp only [dUm, bG] at hb ⊢
     subst hb
     exact ⟨_, rfl, rfl⟩
    ·simp only [dUl _ _ _ _ b1] at hb ⊢
     by_cases b2 : b = bW 1 h.next
     ·subst b2
      simp only [dUm, bG] at hb ⊢
      subst hb
      exact ⟨_, rfl, by simp only [tB]; exact ⟨[], rfl, fun a => by simp [dI, WT.get_e]⟩⟩
     ·simp only [dUl _ _ _ _ b2] at hb ⊢
      by_cases b3 : b = h.next
      ·subst b3
       simp only [dUm, bG] at hb ⊢
       subst hb
       exact ⟨_, rfl, by simp [tB]⟩
      ·simp only [dUl _ _ _ _ b3] at hb ⊢
       exact S.get b o hb
 ·rename_i w
  simp only [bG, bQ] at e
  obtain ⟨rfl, rfl⟩ := e
  rw [cB 68 rfl, cRt]
  have hl : decide (Int.negSucc w < Int.ofNat 16) = true := by simp only [decide_eq_true_eq]; have := Int.negSucc_lt_zero w; simp only [Int.ofNat_eq_natCast]; omega
  simp only [t41, g0, cE, aN, hl, dG, bS, aY]
  exact ⟨h', rfl, S⟩
end Go.Dd

namespace Go.Dd
theorem aCf {gg : Bool} (args : List DV) : SimP gg (lS args) (lS args) := fun h h' S v k e => by
 unfold lS at e ⊢
 split at e <;> (try (cases e; done))
 rename_i l c
 cases hc : Nat.blt c 256 with
 | false => rw [hc] at e; cases e
 | true =>
  rw [hc] at e
  simp only [cond_true, bG, bQ] at e
  obtain ⟨rfl, rfl⟩ := e
  exact ⟨h', rfl, S⟩
theorem aPy {gg : Bool} (q : Pos) (l1 : DV) (cs : List DV) : SimP gg (jC q l1 cs) (jC q l1 cs) := fun h h' S v k e => by
 unfold jC at e ⊢
 split at e <;> (try (cases e; done))
 ·simp only [bG, bQ] at e ⊢
  obtain ⟨rfl, rfl⟩ := e
  exact ⟨_, ⟨by rw [S.next], rfl⟩, by rw [S.next]; exact S.setR _ _ _ _⟩
 ·rename_i b o len cap
  cases hc : (Nat.ble cap len && !(lB b q)) with
  | false => rw [hc] at e; cases e
  | true =>
   rw [hc] at e
   simp only [cnd] at e ⊢
   split at e <;> (try (cases e; done))
   rename_i es l old hb hold
   rw [S.row hb, S.cellsAt hold]
   dsimp only
   split at e <;> (try (cases e; done))
   rename_i hr
   rw [if_pos hr]
   simp only [bG, bQ] at e ⊢
   obtain ⟨rfl, rfl⟩ := e
   refine ⟨_, ⟨by rw [S.next], rfl⟩, ?_⟩
   rw [S.next]
   exact (S.setR .sp (bT o l) b h.next).setR _ _ _ _
theorem aOa {gg : Bool} (c q : Pos) : SimP gg (qM c q) (qM c q) := by
 intro h h' S
 unfold qM
 refine dUt (kK _ h h' S) fun l1 _ _ _ => ?_
 refine dUt (dUp (lZ l1) h h' S) fun n _ _ _ => ?_
 refine dUt (kM _ _ h h' S) fun x _ _ _ => ?_
 split
 ·refine dVi id ?_
  have S2 : Sim gg ⟨h.next.succ.succ, h.bl⟩ ⟨h'.next.succ.succ, h'.bl⟩ := ⟨by show h'.next.succ.succ = _; rw [S.next], S.get⟩
  refine dUt (aPy _ _ _ _ _ S2) fun l2 h3 h3' T3 => ?_
  exact dUt (kS _ _ _ h3 h3' T3) fun u h4 h4' T4 => SimR.some T4 _
 ·exact SimR.none _
theorem cFb {gg : Bool} (n : Nat) (f : FuncId) (args : List DV) : SimP gg (fnD CF0 n f args) (fnD CF0 n f args) :=
 bVh (gg := gg) (P := Go.Proofs.Tryz.prog) (I2 := fun _ => none) (I1 := fun _ => none) 0 (fun _ _ => rfl) (fun _ _ h => by cases h) n f args
theorem aDw {gg : Bool} (args : List DV) : SimP gg (lL args) (lL args) := by
 unfold lL
 intro h h' S
 split
 ·rename_i c lit
  dsimp only
  rw [show h'.next = h.next from S.next]
  refine dUt (aGd _ h h' S) fun b h1 h1' T1 => ?_
  refine dUt (kK _ h1 h1' T1) fun ls h2 h2' T2 => ?_
  refine dUt (cFb _ _ _ h2 h2' T2) fun i h3 h3' T3 => ?_
  refine dUt (dUp (xV _ _ _) h3 h3' T3) fun t h4 h4' T4 => ?_
  exact aCj (aOa _ _ h4 h4' T4) (SimR.some T4 _)
 ·exact SimR.none _
theorem hZ {C : Cfg} {rec : FuncId → List DV → Hp → aI} {g : FuncId} (h : C.I g = none) (args : List DV) : bP C rec g args = rec g args := by
 funext k
 unfold bP
 rw [h]
theorem aLp (g : FuncId) (F : List DV → Hp → aI) (hg : zQ g = some F) (n : Nat) (args : List DV) : SimP false (F args) (fS CF1 (n + 12) g args) := by
 unfold zQ at hg
 have hb : ∀ k, Nat.beq g k = true → g = k := fun k h => Nat.eq_of_beq_eq_true h
 cases h1 : Nat.beq g 24 with
 | true => rw [h1] at hg; cases hg; rw [hb _ h1]; exact cJg n args
 | false =>
 cases h2 : Nat.beq g 31 with
 | true => rw [h1, h2] at hg; cases hg; rw [hb _ h2]; exact cXo n args
 | false =>
 cases h3 : Nat.beq g 102 with
 | true => rw [h1, h2, h3] at hg; cases hg; rw [hb _ h3]; exact bUg n args
 | false =>
 cases h4 : Nat.beq g 86 with
 | true => rw [h1, h2, h3, h4] at hg; cases hg; rw [hb _ h4]; exact bNq n args
 | false =>
 cases h5 : Nat.beq g 47 with
 | true => rw [h1, h2, h3, h4, h5] at hg; cases hg; rw [hb _ h5]; exact bOw n args
 | false =>
 cases h6 : Nat.beq g 68 with
 | true => rw [h1, h2, h3, h4, h5, h6] at hg; cases hg; rw [hb _ h6]; exact aNk n args
 | false =>
 cases h7 : Nat.beq g 70 with
 | true => rw [h1, h2, h3, h4, h5, h6, h7] at hg; cases hg; rw [hb _ h7]; exact aGk n args
 | false =>
 cases h8 : Nat.beq g 72 with
 | true => rw [h1, h2, h3, h4, h5, h6, h7, h8] at hg; cases hg; rw [hb _ h8]; exact cMk n args
 | false =>
 cases h9 : Nat.beq g 50 with
 | true => rw [h1, h2, h3, h4, h5, h6, h7, h8, h9] at hg; cases hg; rw [hb _ h9]; exact bCy n args
 | false =>
 cases h10 : Nat.beq g 38 with
 | true => rw [h1, h2, h3, h4, h5, h6, h7, h8, h9, h10] at hg; cases hg; rw [hb _ h10]; exact aNz n args
 | false =>
 cases h11 : Nat.beq g 27 with
 | true => rw [h1, h2, h3, h4, h5, h6, h7, h8, h9, h10, h11] at hg; cases hg; rw [hb _ h11]; exact aRl n args
 | false =>
 cases h12 : Nat.beq g 48 with
 | true => rw [h1, h2, h3, h4, h5, h6, h7, h8, h9, h10, h11, h12] at hg; cases hg; rw [hb _ h12]; exact aLd n args
 | false =>
 cases h13 : Nat.beq g 81 with
 | true => rw [h1, h2, h3, h4, h5, h6, h7, h8, h9, h10, h11, h12, h13] at hg; cases hg; rw [hb _ h13]; exact bCm n args
 | false =>
 cases h14 : Nat.beq g 49 with
 | true => rw [h1, h2, h3, h4, h5, h6, h7, h8, h9, h10, h11, h12, h13, h14] at hg; cases hg; rw [hb _ h14]; exact bEa n args
 | false =>
 cases h15 : Nat.beq g 28 with
 | true => rw [h1, h2, h3, h4, h5, h6, h7, h8, h9, h10, h11, h12, h13, h14, h15] at hg; cases hg; rw [hb _ h15]; exact cBk n args
 | false => rw [h1, h2, h3, h4, h5, h6, h7, h8, h9, h10, h11, h12, h13, h14, h15] at hg; cases hg
theorem aRm (n : Nat) (f : FuncId) (args : List DV) : SimP false (fS CF n f args) (fS CF1 (n + 12) f args) := by
 have key := aIx (I := itm) (q := rgB) (gg := false) (P := Go.Proofs.Tryz.prog) (I2 := CF.I) (I1 := CF1.I) 12 (fun g hg => by
  show (bif Nat.beq g 176 then some lS else bif Nat.beq g 159 then some lL else none) = none
  change (bif Nat.beq g 176 then some lS else bif Nat.beq g 159 then some lL else zQ g) = none at hg
  cases h1 : Nat.beq g 176 with
  | true => rw [h1] at hg; cases hg
  | false =>
   cases h2 : Nat.beq g 159 with
   | true => rw [h1, h2] at hg; cases hg
   | false => rfl) (fun g F hg n args => by
  change (bif Nat.beq g 176 then some lS else bif Nat.beq g 159 then some lL else zQ g) = some F at hg
  have hcall : bP ⟨Go.Proofs.Tryz.prog, CF1.I⟩ (fS ⟨Go.Proofs.Tryz.prog, CF1.I⟩ (n + 12)) g args = fun h => match (bif Nat.beq g 176 then some lS else bif Nat.beq g 159 then some lL else none : Option (List DV → Hp → aI)) with
   | some F => F args h
   | none => fS ⟨Go.Proofs.Tryz.prog, CF1.I⟩ (n + 12) g args h := rfl
  rw [hcall]
  cases h1 : Nat.beq g 176 with
  | true => rw [h1] at hg; cases hg; exact aCf args
  | false =>
   cases h2 : Nat.beq g 159 with
   | true => rw [h1, h2] at hg; cases hg; exact aDw args
   | false =>
    rw [h1, h2] at hg
    exact aLp g F hg n args) n f args
 exact key
end Go.Dd

namespace Go.Dd
open Go.Proofs
theorem aAp {m : Pos} {M : MemV} {h h' : Hp} (S : Sim true h h') (hm : lD m h = some M) : lD m h' = some M := by
 have hget : ∀ b o, h.bl.get b = some o → h'.bl.get b = some o := fun b o hb => by
  obtain ⟨o', h1, h2⟩ := S.get b o hb
  rw [h1, jV h2]
 unfold lD at hm ⊢
 split at hm <;> (try (cases hm; done))
 rename_i wb n c fin made pb hr
 split at hm <;> (try (cases hm; done))
 rename_i n' t pl h1 h2
 simp only [hget _ _ hr, hget _ _ h1, hget _ _ h2]
 exact hm
theorem fD {args : List DV} {k : Hp → MemV → List DV → aI} (hk : ∀ M r, SimP true (fun h => k h M r) (fun h => k h M r)) : SimP true (fun h => jM args h (k h)) (fun h => jM args h (k h)) := fun h h' S v g e => by
 obtain ⟨m, rest, M, rfl, hM, e⟩ := eM e
 obtain ⟨g', e1, e2⟩ := hk M rest h h' S v g e
 refine ⟨g', ?_, e2⟩
 show (match lD m h' with
  | some M => k h' M rest
  | none => none) = some (v, g')
 rw [aAp S hM]
 exact e1
theorem kW {M : MemV} {o : Int} {k k' : Nat → aI} (h : ∀ n, SimR true (k n) (k' n)) : SimR true (iO M o k) (iO M o k') := by
 unfold iO
 cases Nat.blt (Nat.add (cM o M.pl) 1) M.n with
 | false => exact SimR.none _
 | true =>
  simp only [cond_true]
  cases M.t.get (cM o M.pl) with
  | negSucc a => exact SimR.none _
  | ofNat hd =>
   dsimp only
   cases Nat.blt hd 1000000000000 with
   | false => exact SimR.none _
   | true => exact h hd
theorem rX {M : MemV} {o i : Int} {b b' : Nat → aI} {k k' : Nat → Nat → aI} (hb : ∀ n, SimR true (b n) (b' n)) (h : ∀ n m, SimR true (k n m) (k' n m)) : SimR true (gU M o i b k) (gU M o i b' k') := by
 unfold gU
 cases Nat.beq (cM o M.pl) 0 with
 | true => exact hb 1
 | false =>
  simp only [cond_false]
  cases i with
  | negSucc i => exact hb 5
  | ofNat i =>
   dsimp only
   refine kW fun hd => ?_
   cases Nat.ble (Nat.div hd 4) i with
   | true => exact hb 5
   | false =>
    simp only [cond_false]
    cases Nat.blt (Nat.add (Nat.add (cM o M.pl) 3) i) M.n with
    | false => exact SimR.none _
    | true => exact h _ _
theorem jD {h h' : Hp} (S : Sim true h h') (o : Ob) (b n : Pos) : Sim true ⟨n, Tr.set o b h.bl⟩ ⟨n, Tr.set o b h'.bl⟩ := S.set (jJ o) b n
theorem mQ {M : MemV} {a : Nat} {w : Int} : SimP true (mB M a w) (mB M a w) := fun h h' S v g e => by
 simp only [mB, bG, bQ] at e ⊢
 obtain ⟨rfl, rfl⟩ := e
 exact ⟨_, ⟨rfl, rfl⟩, by rw [S.next]; exact jD S _ _ _⟩
theorem bSu (g : FuncId) (F : List DV → Hp → aI) (hg : zQ g = some F) (args : List DV) : SimP true (F args) (F args) := by
 have hmay : SimP true (aEo args) (aEo args) := fD (k := fun h M r => match r with
  | [.i .i64 w] => some (.b (dX w M.pl), h)
  | _ => none) fun M r h h' S => by dsimp only; split <;> first | exact SimR.some S _ | exact SimR.none _
 have his : SimP true (isF args) (isF args) := fD (k := fun h M r => match r with
  | [.i .i64 w] => some (.b (!(Nat.beq (cM w M.pl) 0)), h)
  | _ => none) fun M r h h' S => by dsimp only; split <;> first | exact SimR.some S _ | exact SimR.none _
 have hsize : SimP true (aAt args) (aAt args) := fD (k := fun h M r => match r with
  | [] => some (.i .i64 (.ofNat M.n), h)
  | _ => none) fun M r h h' S => by dsimp only; split <;> first | exact SimR.some S _ | exact SimR.none _
 have hroom : SimP true (aVd args) (aVd args) := fD (k := fun h M r => match r with
  | [] => some (.i .i64 (.ofNat (Nat.sub M.n M.fin)), h)
  | _ => none) fun M r h h' S => by dsimp only; split <;> first | exact SimR.some S _ | exact SimR.none _
 have hclass : SimP true (kB args) (kB args) := fD (k := fun h M r => match r with
  | [.i .i64 o] => iO M o fun _ => some (.i .i64 (M.t.get (Nat.add (cM o M.pl) 1)), h)
  | _ => none) fun M r h h' S => by dsimp only; split <;> first | exact kW (fun _ => SimR.some S _) | exact SimR.none _
 have hformat : SimP true (jS args) (jS args) := fD (k := fun h M r => match r with
  | [.i .i64 o] => iO M o fun hd => some (.i .i64 (.ofNat (Nat.mod hd 4)), h)
  | _ => none) fun M r h h' S => by dsimp only; split <;> first | exact kW (fun _ => SimR.some S _) | exact SimR.none _
 have hfields : SimP true (fZ args) (fZ args) := fD (k := fun h M r => match r with
  | [.i .i64 o] => iO M o fun hd => some (.i .i64 (.ofNat (Nat.div hd 4)), h)
  | _ => none) fun M r h h' S => by dsimp only; split <;> first | exact kW (fun _ => SimR.some S _) | exact SimR.none _
 have hget : SimP true (pF args) (pF args) := fD (k := fun h M r => match r with
  | [.i .i64 o, .i .i64 i] => gU M o i (fun e => err e h) fun _ a => some (.t [.i .i64 (M.t.get a), .i .i64 (.ofNat 0)], h)
  | _ => none) fun M r h h' S => by dsimp only; split <;> first | exact rX (fun _ => SimR.some S _) (fun _ _ => SimR.some S _) | exact SimR.none _
 have hput : SimP true (sH args) (sH args) := fD (k := fun h M r => match r with
  | [.i .i64 o, .i .i64 i, .i .i64 w] => gU M o i (fun e => some (.i .i64 (.ofNat e), h)) fun hd a =>
   match Nat.mod hd 4 with
   | 0 => bif dX w M.pl then mB M a w h else some (.i .i64 (.ofNat 6), h)
   | 2 => (match w with
    | .ofNat c => bif Nat.ble c 255 then mB M a w h else some (.i .i64 (.ofNat 6), h)
    | .negSucc _ => some (.i .i64 (.ofNat 6), h))
   | _ => mB M a w h
  | _ => none) fun M r h h' S => by
   dsimp only
   split
   ·rename_i o i w
    refine rX (fun _ => SimR.some S _) fun hd a => ?_
    split
    ·cases dX w M.pl with
     | true => exact mQ h h' S
     | false => exact SimR.some S _
    ·cases w with
     | negSucc c => exact SimR.some S _
     | ofNat c =>
      dsimp only
      cases Nat.ble c 255 with
      | true => exact mQ h h' S
      | false => exact SimR.some S _
    ·exact mQ h h' S
   ·exact SimR.none _
 have hsetc : SimP true (kP args) (kP args) := fD (k := fun h M r => match r with
  | [.i .i64 o, .i .i64 c] => bif Nat.beq (cM o M.pl) 0 || !(qT c M.pl) then some (.i .i64 (.ofNat 1), h) else
   (bif Nat.blt (Nat.add (cM o M.pl) 1) M.n then mB M (Nat.add (cM o M.pl) 1) c h else none)
  | _ => none) fun M r h h' S => by
   dsimp only
   split
   ·rename_i o c
    cases Nat.beq (cM o M.pl) 0 || !(qT c M.pl) with
    | true => exact SimR.some S _
    | false =>
     simp only [cond_false]
     cases Nat.blt (Nat.add (cM o M.pl) 1) M.n with
     | true => exact mQ h h' S
     | false => exact SimR.none _
   ·exact SimR.none _
 have hmake : SimP true (iR args) (iR args) := fun h h' S => by
  unfold iR
  split
  ·rename_i m cls fmt cnt
   intro v g e
   split at e
   ·cases e
   ·rename_i M hM
    rw [aAp S hM]
    dsimp only
    revert e
    have herr : ∀ n, SimR true (err n h) (err n h') := fun n => SimR.some S _
    suffices hs : SimR true _ _ from fun e => hs v g e
    cases !(qT cls M.pl) with
    | true => exact herr 1
    | false =>
     simp only [cond_false]
     cases fmt with
     | negSucc f => exact herr 1
     | ofNat f =>
      cases cnt with
      | negSucc c => exact herr 1
      | ofNat c =>
       dsimp only
       cases Nat.ble f 2 && Nat.ble c 256 with
       | false => exact herr 1
       | true =>
        simp only [cond_true]
        cases Nat.blt (Nat.sub M.n M.fin) (Nat.add c 3) with
        | true => exact herr 4
        | false =>
         simp only [cond_false]
         cases Nat.ble 3 M.fin && Nat.ble M.fin 131072 with
         | false => exact SimR.none _
         | true =>
          simp only [cond_true]
          intro v g e
          simp only [bG, bQ] at e ⊢
          obtain ⟨rfl, rfl⟩ := e
          refine ⟨_, ⟨rfl, rfl⟩, ?_⟩
          rw [S.next]
          exact jD (jD (jD S _ _ h.next) _ _ h.next) _ _ h.next
  ·exact SimR.none _
 have hnew : SimP true (aOj args) (aOj args) := fun h h' S => by
  unfold aOj
  split
  ·rename_i n
   cases Nat.blt n 16 || Nat.blt 131072 n with
   | true => exact SimR.some S _
   | false =>
    simp only [cond_false]
    intro v g e
    simp only [bG, bQ] at e ⊢
    obtain ⟨rfl, rfl⟩ := e
    rw [S.next]
    exact ⟨_, ⟨rfl, rfl⟩, jD (jD (jD S _ _ h.next) _ _ h.next) _ _ _⟩
  ·exact SimR.some S _
  ·exact SimR.none _
 have hpure : ∀ F : Hp → aI, (∀ h h', Sim true h h' → SimR true (F h) (F h')) → SimP true F F := fun F hF => hF
 have hsm : SimP true (eZ args) (eZ args) := fun h h' S => by unfold eZ; split <;> first | exact SimR.some S _ | exact SimR.none _
 have hva : SimP true (jL args) (jL args) := fun h h' S => by
  unfold jL
  split
  ·rename_i w
   cases dO w <;> exact SimR.some S _
  ·exact SimR.none _
 have hsl : SimP true (gJ args) (gJ args) := fun h h' S => by
  unfold gJ
  split
  ·rename_i n; cases Nat.blt n 1073741824 <;> exact SimR.some S _
  ·rename_i n; cases Nat.blt n 1073741824 <;> exact SimR.some S _
  ·exact SimR.none _
 unfold zQ at hg
 cases h1 : Nat.beq g 24 with
 | true => rw [h1] at hg; cases hg; exact hmay
 | false =>
 cases h2 : Nat.beq g 31 with
 | true => rw [h1, h2] at hg; cases hg; exact his
 | false =>
 cases h3 : Nat.beq g 102 with
 | true => rw [h1, h2, h3] at hg; cases hg; exact hsize
 | false =>
 cases h4 : Nat.beq g 86 with
 | true => rw [h1, h2, h3, h4] at hg; cases hg; exact hroom
 | false =>
 cases h5 : Nat.beq g 47 with
 | true => rw [h1, h2, h3, h4, h5] at hg; cases hg; exact hmake
 | false =>
 cases h6 : Nat.beq g 68 with
 | true => rw [h1, h2, h3, h4, h5, h6] at hg; cases hg; exact hnew
 | false =>
 cases h7 : Nat.beq g 70 with
 | true => rw [h1, h2, h3, h4, h5, h6, h7] at hg; cases hg; exact hsetc
 | false =>
 cases h8 : Nat.beq g 72 with
 | true => rw [h1, h2, h3, h4, h5, h6, h7, h8] at hg; cases hg; exact hput
 | false =>
 cases h9 : Nat.beq g 50 with
 | true => rw [h1, h2, h3, h4, h5, h6, h7, h8, h9] at hg; cases hg; exact hclass
 | false =>
 cases h10 : Nat.beq g 38 with
 | true => rw [h1, h2, h3, h4, h5, h6, h7, h8, h9, h10] at hg; cases hg; exact hformat
 | false =>
 cases h11 : Nat.beq g 27 with
 | true => rw [h1, h2, h3, h4, h5, h6, h7, h8, h9, h10, h11] at hg; cases hg; exact hfields
 | false =>
 cases h12 : Nat.beq g 48 with
 | true => rw [h1, h2, h3, h4, h5, h6, h7, h8, h9, h10, h11, h12] at hg; cases hg; exact hsm
 | false =>
 cases h13 : Nat.beq g 81 with
 | true => rw [h1, h2, h3, h4, h5, h6, h7, h8, h9, h10, h11, h12, h13] at hg; cases hg; exact hsl
 | false =>
 cases h14 : Nat.beq g 49 with
 | true => rw [h1, h2, h3, h4, h5, h6, h7, h8, h9, h10, h11, h12, h13, h14] at hg; cases hg; exact hva
 | false =>
 cases h15 : Nat.beq g 28 with
 | true => rw [h1, h2, h3, h4, h5, h6, h7, h8, h9, h10, h11, h12, h13, h14, h15] at hg; cases hg; exact hget
 | false => rw [h1, h2, h3, h4, h5, h6, h7, h8, h9, h10, h11, h12, h13, h14, h15] at hg; cases hg
theorem aLk (g : FuncId) (F : List DV → Hp → aI) (hg : CF.I g = some F) (args : List DV) : SimP true (F args) (F args) := by
 change (bif Nat.beq g 176 then some lS else bif Nat.beq g 159 then some lL else zQ g) = some F at hg
 cases h1 : Nat.beq g 176 with
 | true => rw [h1] at hg; cases hg; exact aCf args
 | false =>
  cases h2 : Nat.beq g 159 with
  | true => rw [h1, h2] at hg; cases hg; exact aDw args
  | false => rw [h1, h2] at hg; exact bSu g F hg args
theorem bDn (n : Nat) (f : FuncId) (args : List DV) : SimP true (cQ n f args) (cQ n f args) := by
 rw [vM]
 exact aIx (I := itm) (q := rgB) (gg := true) (P := Tryz.prog) (I2 := CF.I) (I1 := CF.I) 0 (fun g h => h) (fun g F hg n args => by
  have : bP ⟨Tryz.prog, CF.I⟩ (fS ⟨Tryz.prog, CF.I⟩ (n + 0)) g args = F args := by
   funext h
   unfold bP
   rw [show (⟨Tryz.prog, CF.I⟩ : Cfg).I g = some F from hg]
  rw [this]
  exact aLk g F hg args) n f args
theorem bFc (n : Nat) (g : FuncId) (args : List DV) : SimP true (bP CF (cQ n) g args) (bP CF (cQ n) g args) := by
 unfold bP
 cases hg : CF.I g with
 | none => exact bDn n g args
 | some F => exact aLk g F hg args
end Go.Dd

namespace Go.Dd
open Go.Proofs
abbrev K4T := DV → DV → DV → DV → Hp → aI
noncomputable abbrev R9 : RT := cQ 899
noncomputable def XL : Nat → K := xs x0 7 (fun env h => fA R9 899 (env 5) h)
noncomputable def krN : K := aP CF Tryz.f40
noncomputable def bIr : Code := cL (cL (cR (cL (cR (cR (cR (cR (cR (cR (cf Tryz.f40))))))))))
noncomputable def kb (kk : K4T) : K := fun env h => kk (env 5) (env 155) (env 156) (env 157) h
noncomputable def aKn (a b c d : DV) : aW := fun t => bif Nat.beq t 5 then a else bif Nat.beq t 155 then b else bif Nat.beq t 156 then c else bif Nat.beq t 157 then d else .u
theorem aFt (kk : K4T) (a b c d : DV) (h : Hp) : jW R9 899 kk a b c d h = aM CF R9 179 899 bIr XL krN (kb kk) (aKn a b c d) h :=
 (congrFun (congrFun (bAo R9 899 kk) (aKn a b c d)) h).symm
theorem aRf (e : aW) (h : Hp) : krN e h = some (.t [e 2, e 3], h) := by kernel_rfl
def dRz (r : aI) : Prop := ∃ a b c d h, r = some (.t [a, b, c, d], h)
theorem bIg (a b c d : DV) (h : Hp) : (∃ a' b' c' d' h', ∀ kk : K4T, jW R9 899 kk a b c d h = kk a' b' c' d' h') ∨ (∃ r, ¬ dRz r ∧ ∀ kk : K4T, jW R9 899 kk a b c d h = r) := by
 obtain ⟨O, hO⟩ := aLj (C := CF) (rec := R9) (nt := 179) 899 bIr
 have key : ∀ kk : K4T, jW R9 899 kk a b c d h = dVm (O (aKn a b c d) h) XL krN (kb kk) := fun kk => (aFt kk a b c d h).trans (hO _ _ _ _ _)
 cases ho : O (aKn a b c d) h with
 | none => exact .inr ⟨none, (by rintro ⟨_, _, _, _, _, e⟩; cases e), fun kk => by rw [key kk, ho]; rfl⟩
 | some o =>
  cases o with
  | n e h' => exact .inl ⟨e 5, e 155, e 156, e 157, h', fun kk => by rw [key kk, ho]; rfl⟩
  | r e h' => exact .inr ⟨some (.t [e 2, e 3], h'), (by rintro ⟨_, _, _, _, _, q⟩; cases q), fun kk => by rw [key kk, ho]; exact aRf e h'⟩
  | x i e h' =>
   refine .inr ⟨XL i e h', ?_, fun kk => by rw [key kk, ho]; rfl⟩
   rintro ⟨_, _, _, _, _, q⟩
   unfold XL xs at q
   cases hi : Nat.beq i 7 with
   | true => rw [hi] at q; cases q
   | false => rw [hi] at q; cases q
theorem uY (n : Nat) (kk : K4T) : itN (n + 1) kk = jW R9 899 (itN n kk) := rfl
theorem bMu : ∀ (n : Nat) (a b c d : DV) (h : Hp) (a' b' c' d' : DV) (h' : Hp), itN n bMk a b c d h = some (.t [a', b', c', d'], h') → ∀ kk : K4T, itN n kk a b c d h = kk a' b' c' d' h'
 | 0, a, b, c, d, h, a', b', c', d', h', e, kk => by
  have e' : (some (.t [a, b, c, d], h) : aI) = some (.t [a', b', c', d'], h') := e
  simp only [bG, bQ, DV.t.injEq, List.cons.injEq, and_true] at e'
  obtain ⟨⟨rfl, rfl, rfl, rfl⟩, rfl⟩ := e'
  rfl
 | n + 1, a, b, c, d, h, a', b', c', d', h', e, kk => by
  rw [uY] at e ⊢
  rcases bIg a b c d h with ⟨a1, b1, c1, d1, h1, hs⟩ | ⟨r, hr, hs⟩
  ·rw [hs] at e ⊢
   exact bMu n a1 b1 c1 d1 h1 a' b' c' d' h' e kk
  ·rw [hs] at e
   exact absurd ⟨_, _, _, _, _, e⟩ hr
theorem bTx (kk : K4T) (hk : ∀ a b c d, SimP true (kk a b c d) (kk a b c d)) : ∀ (n : Nat) (a b c d : DV), SimP true (itN n kk a b c d) (itN n kk a b c d)
 | 0, a, b, c, d => hk a b c d
 | n + 1, a, b, c, d => by
  have ih := bTx kk hk n
  rw [uY]
  have hX : ∀ j, SimK true (XL j) (XL j) := by
   intro j env h h' S
   unfold XL xs
   cases Nat.beq j 7 with
   | true => exact SimR.some S _
   | false => exact SimR.none _
  have hR : SimK true krN krN := fun env h h' S => by rw [aRf, aRf]; exact SimR.some S _
  have hK : SimK true (kb (itN n kk)) (kb (itN n kk)) := fun env => ih _ _ _ _
  have hc := fX (gg := true) (P := Tryz.prog) (I2 := CF.I) (I1 := CF.I) (rec2 := R9) (rec1 := R9) (fun g args => bFc 899 g args) 179 899 0 bIr XL XL krN krN (kb (itN n kk)) (kb (itN n kk)) hX hR hK (aKn a b c d)
  intro h h' S
  rw [aFt, aFt]
  exact hc h h' S
theorem uU (m : Nat) : ∀ n, kA R9 899 (m + n) = itN n (kA R9 899 m)
 | 0 => rfl
 | n + 1 => by
  rw [uY, ← uU m n]
  rfl
theorem jH {k n nx nx' : Nat} {L L' : List (Pos × Ob)} (hc : lJ (nC k n (gX nx L)) (kJ (k + n)) nx' L' = true) (m : Nat) {h : Hp} (S : Sim true (gX nx L) h) :
  ∃ h', Sim true (gX nx' L') h' ∧ kA R9 899 (m + n) (.p (aU 7) 0) (.l (aU 431) 0 75 75) (.i .i64 (.ofNat 75)) (.i .i64 (.ofNat k)) h =
   kA R9 899 m (.p (aU 7) 0) (.l (aU 431) 0 75 75) (.i .i64 (.ofNat 75)) (.i .i64 (.ofNat (k + n))) h' := by
 obtain ⟨g, e1, e2⟩ := aTh hc
 obtain ⟨g', f1, f2⟩ := bTx bMk (fun a b c d h h' S => SimR.some S _) n _ _ _ _ (gX nx L) h S _ _ e1
 refine ⟨g', e2.trans f2, ?_⟩
 rw [uU]
 exact bMu n _ _ _ _ _ _ _ _ _ _ f1 _
theorem bCx (k : K) : aM CF R9 179 899 (cf Tryz.f40) x0 krN k = aM CF R9 179 899 cNu x0 krN (aM CF R9 179 899 bWn x0 krN (aM CF R9 179 899 dOf x0 krN k)) := by kernel_rfl
theorem cUs : aM CF R9 179 899 dOf x0 krN krN = fun env h => fA R9 899 (env 5) h := bQm R9 899
theorem cEu : aM CF R9 179 899 bWn x0 krN (fun env h => fA R9 899 (env 5) h) = fun env h => aTk R9 899 (env 5) (env 155) (env 156) (env 157) h :=
 (by kernel_rfl : aM CF R9 179 899 bWn x0 krN (fun env h => fA R9 899 (env 5) h) = D40 R9 899 (cL (cR (cL (cR (cR (cR (cR (cR (cR (cf Tryz.f40)))))))))) (xs x0 7 (fun (env : aW) (h : Hp) => fA R9 899 (env 5) h)) (fun (env : aW) (h : Hp) => fA R9 899 (env 5) h)).trans (bYo R9 899)
theorem dDh (x : DV) (h : Hp) : aE CF R9 899 40 [x] h = aM CF R9 179 899 (cf Tryz.f40) x0 krN krN (aG [x]) h := by kernel_rfl
theorem cGg : ∃ e h', Sim true (gX 432 (mR 30000 553 84 18 [1076, 1096, 6, 24, 42, 60, 78, 96, 114, 132, 150, 168, 186, 204, 222, 240, 258, 276] [(10, 0), (19, 0), (46, 0), (55, 0), (64, 0), (91, 0), (100, 0), (109, 0), (118, 0), (127, 0), (145, 0)] 0)) h' ∧ e 5 = .p (aU 7) 0 ∧ e 155 = .l (aU 431) 0 75 75 ∧ e 156 = .i .i64 (.ofNat 75) ∧ e 157 = .i .i64 (.ofNat 0) ∧
  ∀ X kr k, aM CF R9 179 899 cNu X kr k (aG [.i .i64 (.ofNat 30000)]) hS = k e h' := by
 obtain ⟨O, hO⟩ := aLj (C := CF) (rec := R9) (nt := 179) 899 cNu
 obtain ⟨g, e1, e2⟩ := aTh he0
 have e1' : dVm (O (aG [.i .i64 (.ofNat 30000)]) hS) (fun _ _ _ => none) (fun _ _ => none) dLt = some (.t (kJ 0), g) := (hO _ _ _ _ _).symm.trans e1
 cases ho : O (aG [.i .i64 (.ofNat 30000)]) hS with
 | none => rw [ho] at e1'; cases e1'
 | some o =>
  rw [ho] at e1'
  cases o with
  | x i e h' => cases e1'
  | r e h' => cases e1'
  | n e h' =>
   have q : (some (.t [e 5, e 155, e 156, e 157], h') : aI) = some (.t (kJ 0), g) := e1'
   simp only [kJ, bG, bQ, DV.t.injEq, List.cons.injEq, and_true] at q
   obtain ⟨⟨q1, q2, q3, q4⟩, q5⟩ := q
   exact ⟨e, h', by rw [q5]; exact e2, q1, q2, q3, q4, fun X kr k => by rw [hO, ho]; rfl⟩
theorem dFa : ∃ g, cQ 900 40 [.i .i64 (.ofNat 30000)] hS = some (.t [.p (aU 7) 0, .i .i64 (.ofNat 0)], g) ∧ Sim true (gX 26855 (mR 30000 4321 583 80 [8370, 1096, 6, 24, 42, 60, 78, 96, 114, 132, 150, 168, 186, 204, 222, 240, 258, 276] [] 75)) g := by
 obtain ⟨e, h0, S0, p1, p2, p3, p4, hpre⟩ := cGg
 obtain ⟨h1, S1, c1⟩ := jH hc0 894 S0
 obtain ⟨h2, S2, c2⟩ := jH hc5 889 S1
 obtain ⟨h3, S3, c3⟩ := jH dTe 884 S2
 obtain ⟨h4, S4, c4⟩ := jH dQn 879 S3
 obtain ⟨h5, S5, c5⟩ := jH dQt 874 S4
 obtain ⟨h6, S6, c6⟩ := jH dUj 869 S5
 obtain ⟨h7, S7, c7⟩ := jH dTk 864 S6
 obtain ⟨h8, S8, c8⟩ := jH dOq 859 S7
 obtain ⟨h9, S9, c9⟩ := jH dQf 854 S8
 obtain ⟨h10, S10, c10⟩ := jH dUg 849 S9
 obtain ⟨h11, S11, c11⟩ := jH dOy 844 S10
 obtain ⟨h12, S12, c12⟩ := jH dSd 839 S11
 obtain ⟨h13, S13, c13⟩ := jH dUb 834 S12
 obtain ⟨h14, S14, c14⟩ := jH dOx 829 S13
 obtain ⟨h15, S15, c15⟩ := jH dPu 824 S14
 refine ⟨h15, ?_, S15⟩
 have e0 : cQ 900 40 [.i .i64 (.ofNat 30000)] hS = aE CF R9 899 40 [.i .i64 (.ofNat 30000)] hS := aJw 40 rfl 899 _ _
 rw [e0, dDh, bCx, cUs, cEu, hpre]
 show aTk R9 899 (e 5) (e 155) (e 156) (e 157) h0 = _
 rw [p1, p2, p3, p4]
 show kA R9 899 899 _ _ _ _ h0 = _
 refine c1.trans ?_
 refine c2.trans ?_
 refine c3.trans ?_
 refine c4.trans ?_
 refine c5.trans ?_
 refine c6.trans ?_
 refine c7.trans ?_
 refine c8.trans ?_
 refine c9.trans ?_
 refine c10.trans ?_
 refine c11.trans ?_
 refine c12.trans ?_
 refine c13.trans ?_
 refine c14.trans ?_
 refine c15.trans ?_
 rw [show (824 : Nat) = 823 + 1 from rfl]
 show jW R9 899 (kA R9 899 823) _ _ _ _ h15 = _
 unfold jW
 have hl : decide (Int.ofNat 75 < Int.ofNat 75) = false := rfl
 simp only [cE, aN, hl, bF]
 rfl
end Go.Dd

namespace Go.Dd
open Go.Proofs
noncomputable def HLN : List (Pos × Ob) := mR 30000 4321 583 80 [8370, 1096, 6, 24, 42, 60, 78, 96, 114, 132, 150, 168, 186, 204, 222, 240, 258, 276] [] 75
noncomputable def hN : Hp := gX 26855 HLN
noncomputable def eS (l : List (Pos × Ob)) (t : Tr Ob) : Tr Ob := List.rec (motive := fun _ => Tr Ob) t (fun x _ ih => Tr.set x.2 x.1 ih) l
noncomputable def xC (p : List DV → Bool) (v0 : DV) (nx0 : Nat) (HL : List (Pos × Ob)) (args : List DV) (h : Hp) : aI :=
 bif p args && lB h.next (aU 1) then some (v0, ⟨aU nx0, eS HL h.bl⟩) else none
noncomputable def aZi (args : List DV) : Bool := match args with
 | [.i .i64 (.ofNat m)] => Nat.beq m 30000
 | _ => false
noncomputable def newK : List DV → Hp → aI := xC aZi (.t [.p (aU 7) 0, .i .i64 (.ofNat 0)]) 26855 HLN
noncomputable def bDd (n : Nat) : RT := fun g args h => bif Nat.beq g 40 then newK args h else cQ n g args h
noncomputable def okB (r : aI) : Bool := match r with
 | some (.b x, _) => x
 | _ => false
end Go.Dd

namespace Go.Dd
open Go.Proofs
abbrev iD (n : Int) : DV := .i .i64 n
structure Wd (h : Hp) (M : MemV) (R : List Int) (es : List (DV × DV)) : Prop where
 w : h.bl.get (aU 7) = some (.row .ex [.p (aU 3) 0, .l (aU 4) 0 18 18, .m (aU 5), .m (aU 6)])
 r : h.bl.get (aU 4) = some (.row .ex (R.map iD))
 rl : R.length = 18
 sy : h.bl.get (aU 5) = some (.mp es)
 mem : lD (aU 3) h = some M
 nx : 1031 ≤ h.next.toNat
 wb : M.wb = aU 1
 pb : M.pb = aU 2
structure Good (M : MemV) : Prop where
 n : M.n < 1000000
 le : M.fin ≤ M.n
 lo : 3 ≤ M.fin
 hi : M.n ≤ 131072
 md : M.made < 900000
 ob : ∀ a, M.pl.get a ≠ 0 → 3 ≤ a ∧ ∃ hd : Nat, M.t.get a = .ofNat hd ∧ hd < 1000000000000 ∧ a + 3 + hd / 4 ≤ M.fin ∧ cM (M.t.get (a + 1)) M.pl ≠ 0
theorem jP (f : FuncId) (hf : rgB f = false) (n : Nat) (args : List DV) (h : Hp) : cQ (n + 1) f args h = aE CF (cQ n) n f args h := aJw f hf n args h
theorem hC (b : Pos) (o : Nat) (h : Hp) : aO (.p b o) h = some (.p b o, h) := Eq.trans rfl rfl
theorem qD (b : Pos) (o k : Nat) (h : Hp) : aC k (.p b o) h = some (.p b (o + k), h) := Eq.trans rfl rfl
section
theorem Wd.l0 {h : Hp} {M : MemV} {R : List Int} {es : List (DV × DV)} (W : Wd h M R es) : aA (.p (aU 7) 0) h = some (.p (aU 3) 0, h) := by
 simp only [aA, cellD, rowOf, W.w, List.getElem?_cons_zero, DV.one, if_true]
theorem Wd.l00 {h : Hp} {M : MemV} {R : List Int} {es : List (DV × DV)} (W : Wd h M R es) : aA (.p (aU 7) (0 + 0)) h = some (.p (aU 3) 0, h) := W.l0
theorem Wd.l1 {h : Hp} {M : MemV} {R : List Int} {es : List (DV × DV)} (W : Wd h M R es) : aA (.p (aU 7) (0 + 1)) h = some (.l (aU 4) 0 18 18, h) := by
 simp only [aA, cellD, rowOf, W.w, Nat.zero_add, List.getElem?_cons_succ, List.getElem?_cons_zero, DV.one, if_true]
theorem Wd.l2 {h : Hp} {M : MemV} {R : List Int} {es : List (DV × DV)} (W : Wd h M R es) : aA (.p (aU 7) (0 + 2)) h = some (.m (aU 5), h) := by
 simp only [aA, cellD, rowOf, W.w, Nat.zero_add, List.getElem?_cons_succ, List.getElem?_cons_zero, DV.one, if_true]
theorem Wd.root {h : Hp} {M : MemV} {R : List Int} {es : List (DV × DV)} (W : Wd h M R es) {i : Nat} (hi : i < 18) : aA (.p (aU 4) i) h = some (iD (R.getD i 0), h) := by
 have e : (R.map iD)[i]? = some (iD (R.getD i 0)) := by
  have : i < R.length := by rw [W.rl]; exact hi
  simp [List.getElem?_map, List.getElem?_eq_getElem this, List.getD]
 simp only [aA, cellD, rowOf, W.r, e, DV.one, if_true]
theorem Wd.known {h : Hp} {M : MemV} {R : List Int} {es : List (DV × DV)} (W : Wd h M R es) {i : Nat} (hi : i < 16) (n : Nat) : cQ (n + 1) 30 [.p (aU 7) 0, .i .i64 (Int.ofNat i)] h = some (iD (R.getD (2 + i) 0), h) := by
 rw [jP 30 rfl, bIk]
 unfold s30
 have h1 : decide (Int.ofNat i < Int.ofNat 0) = false := by simp
 have h2 : decide (Int.ofNat i ≥ Int.ofNat 16) = false := by simp; omega
 have h3 : aJ 1 (.l (aU 4) 0 18 18) (.i .i64 (Int.ofNat 2 + Int.ofNat i)) h = some (.p (aU 4) (2 + i), h) := by
  show (if (0 : Int) ≤ Int.ofNat 2 + Int.ofNat i ∧ Int.ofNat 2 + Int.ofNat i < ((18 : Nat) : Int) then some (DV.p (aU 4) (0 + (Int.ofNat 2 + Int.ofNat i).toNat * 1), h) else none) = _
  rw [if_pos (by simp; omega), show (Int.ofNat 2 + Int.ofNat i).toNat = 2 + i by simp; omega]
  simp
 simp only [g0, g1, cE, iL, aN, eF, bO, bF, h1, h2, hC, qD, W.l1, gC _ _ _ (show -9223372036854775808 ≤ Int.ofNat 2 + Int.ofNat i ∧ Int.ofNat 2 + Int.ofNat i ≤ 9223372036854775807 by simp; omega), h3, W.root (show 2 + i < 18 by omega)]
theorem Wd.is {h : Hp} {M : MemV} {R : List Int} {es : List (DV × DV)} (W : Wd h M R es) (w : Int) : isF [.p (aU 3) 0, .i .i64 w] h = some (.b (!(Nat.beq (cM w M.pl) 0)), h) := by
 simp only [isF, jM, W.mem]
theorem Wd.may {h : Hp} {M : MemV} {R : List Int} {es : List (DV × DV)} (W : Wd h M R es) (w : Int) : aEo [.p (aU 3) 0, .i .i64 w] h = some (.b (dX w M.pl), h) := by
 simp only [aEo, jM, W.mem]
end
end Go.Dd

namespace Go.Dd
open Go.Proofs
theorem pn1 : (aU 1).toNat = 1024 := by kernel_rfl
theorem pn2 : (aU 2).toNat = 1025 := by kernel_rfl
theorem pn3 : (aU 3).toNat = 1026 := by kernel_rfl
theorem pn4 : (aU 4).toNat = 1027 := by kernel_rfl
theorem pn5 : (aU 5).toNat = 1028 := by kernel_rfl
theorem pn6 : (aU 6).toNat = 1029 := by kernel_rfl
theorem pn7 : (aU 7).toNat = 1030 := by kernel_rfl
theorem pne {a b : Nat} {p q : Pos} (hp : p.toNat = a) (hq : q.toNat = b) (h : a ≠ b) : p ≠ q := fun e => h (by rw [← hp, ← hq, e])
theorem pnl {a : Nat} {p q : Pos} (hp : p.toNat = a) (hq : q.toNat < 1024 ∨ 1029 ≤ q.toNat) (h : 1024 ≤ a ∧ a < 1029) : q ≠ p := fun e => by rw [e, hp] at hq; omega
theorem kQ {m : Pos} {h : Hp} {M : MemV} (e : lD m h = some M) : h.bl.get m = some (.row .ex [.l M.wb 0 M.n M.n, .i .i64 (.ofNat M.fin), .i .i64 (.ofNat M.made), .m M.pb]) ∧ h.bl.get M.wb = some (.big M.n M.t) ∧
  h.bl.get M.pb = some (.mi M.pl) ∧ M.n < 1000000 ∧ M.fin ≤ M.n ∧ M.made < 1000000 := by
 unfold lD at e
 split at e <;> (try (cases e; done))
 rename_i wb n c fin made pb hr
 split at e <;> (try (cases e; done))
 rename_i n' t pl h1 h2
 cases hc : (Nat.beq n n' && Nat.beq n c) with
 | false => rw [hc] at e; cases e
 | true =>
  rw [hc, cond_true] at e
  simp only [Bool.and_eq_true] at hc
  have q1 := Nat.eq_of_beq_eq_true hc.1
  have q2 := Nat.eq_of_beq_eq_true hc.2
  subst q1; subst q2
  cases hd : (Nat.blt n 1000000 && (Nat.ble fin n && Nat.blt made 1000000)) with
  | false => rw [hd] at e; cases e
  | true =>
   rw [hd, cond_true] at e
   cases e
   simp only [Bool.and_eq_true, gL, iX, decide_eq_true_eq] at hd
   exact ⟨hr, h1, h2, hd.1, hd.2.1, hd.2.2⟩
theorem mW {m : Pos} {h : Hp} {M : MemV} (h1 : h.bl.get m = some (.row .ex [.l M.wb 0 M.n M.n, .i .i64 (.ofNat M.fin), .i .i64 (.ofNat M.made), .m M.pb])) (h2 : h.bl.get M.wb = some (.big M.n M.t))
  (h3 : h.bl.get M.pb = some (.mi M.pl)) (h4 : M.n < 1000000) (h5 : M.fin ≤ M.n) (h6 : M.made < 1000000) : lD m h = some M := by
 unfold lD
 simp only [h1, h2, h3]
 have q1 : (Nat.beq M.n M.n && Nat.beq M.n M.n) = true := by simp
 have q2 : (Nat.blt M.n 1000000 && (Nat.ble M.fin M.n && Nat.blt M.made 1000000)) = true := by simp [gL, iX, h4, h5, h6]
 rw [q1, cond_true, q2, cond_true]
structure Up (h h' : Hp) : Prop where
 next : h.next.toNat ≤ h'.next.toNat
 get : ∀ b : Pos, (b.toNat < 1024 ∨ 1029 ≤ b.toNat) → b.toNat < h.next.toNat → h'.bl.get b = h.bl.get b
theorem Up.refl (h : Hp) : Up h h := ⟨Nat.le_refl _, fun _ _ _ => rfl⟩
theorem Up.trans {a b c : Hp} (u : Up a b) (v : Up b c) : Up a c := ⟨Nat.le_trans u.next v.next, fun p h1 h2 => (v.get p h1 (Nat.lt_of_lt_of_le h2 u.next)).trans (u.get p h1 h2)⟩
def SlI (x : DV) (l : List Int) (h : Hp) : Prop := (x = .l0 ∧ l = []) ∨ ∃ b cap k, x = .l b 0 l.length cap ∧ h.bl.get b = some (.row k (l.map iD)) ∧ (b.toNat < 1024 ∨ 1029 ≤ b.toNat) ∧ b.toNat < h.next.toNat
theorem SlI.up {x : DV} {l : List Int} {h h' : Hp} (s : SlI x l h) (u : Up h h') : SlI x l h' := by
 rcases s with ⟨rfl, rfl⟩ | ⟨b, cap, k, e, g, h1, h2⟩
 ·exact .inl ⟨rfl, rfl⟩
 ·exact .inr ⟨b, cap, k, e, by rw [u.get b h1 h2]; exact g, h1, Nat.lt_of_lt_of_le h2 u.next⟩
theorem SlI.len {x : DV} {l : List Int} {h h' : Hp} (s : SlI x l h) : cJ x h' = some (iD l.length, h') := by
 rcases s with ⟨rfl, rfl⟩ | ⟨b, cap, k, e, g, h1, h2⟩
 ·rfl
 ·rw [e]; rfl
theorem SlI.at {x : DV} {l : List Int} {h : Hp} (s : SlI x l h) {i : Nat} {v : Int} (hi : l[i]? = some v) : ∃ a, aJ 1 x (.i .i64 (Int.ofNat i)) h = some (a, h) ∧ aA a h = some (iD v, h) := by
 have hl : i < l.length := by
  rcases Nat.lt_or_ge i l.length with q | q
  ·exact q
  ·rw [List.getElem?_eq_none q] at hi; cases hi
 rcases s with ⟨rfl, rfl⟩ | ⟨b, cap, k, e, g, h1, h2⟩
 ·simp at hi
 ·refine ⟨.p b i, ?_, ?_⟩
  ·rw [e]
   show (if (0 : Int) ≤ Int.ofNat i ∧ Int.ofNat i < ((l.length : Nat) : Int) then some (DV.p b (0 + (Int.ofNat i).toNat * 1), h) else none) = _
   rw [if_pos ⟨by simp, by simpa using hl⟩]
   simp
  ·have e : (l.map iD)[i]? = some (iD v) := by rw [List.getElem?_map, hi]; rfl
   simp only [aA, cellD, rowOf, g, e, DV.one, if_true]
section
theorem Wd.up {h : Hp} {M : MemV} {R : List Int} {es : List (DV × DV)} (W : Wd h M R es) {h' : Hp} (u : Up h h') (e : ∀ b : Pos, b.toNat < 1031 → h'.bl.get b = h.bl.get b) : Wd h' M R es := by
 obtain ⟨m1, m2, m3, m4, m5, m6⟩ := kQ W.mem
 refine ⟨by rw [e _ (by rw [pn7]; omega)]; exact W.w, by rw [e _ (by rw [pn4]; omega)]; exact W.r, W.rl, by rw [e _ (by rw [pn5]; omega)]; exact W.sy, ?_, Nat.le_trans W.nx u.next, W.wb, W.pb⟩
 exact mW (by rw [e _ (by rw [pn3]; omega)]; exact m1) (by rw [e _ (by rw [W.wb, pn1]; omega)]; exact m2) (by rw [e _ (by rw [W.pb, pn2]; omega)]; exact m3) m4 m5 m6
theorem Wd.new {h : Hp} {M : MemV} {R : List Int} {es : List (DV × DV)} (W : Wd h M R es) (o : Ob) : Up h ⟨h.next.succ, Tr.set o h.next h.bl⟩ ∧ Wd ⟨h.next.succ, Tr.set o h.next h.bl⟩ M R es := by
 have u : Up h ⟨h.next.succ, Tr.set o h.next h.bl⟩ := ⟨by show _ ≤ (h.next.succ).toNat; rw [dUo]; omega, fun b h1 h2 => by
  show (Tr.set o h.next h.bl).get b = _
  rw [dUl]
  intro e; subst e; omega⟩
 refine ⟨u, W.up u fun b hb => ?_⟩
 show (Tr.set o h.next h.bl).get b = _
 rw [dUl]
 intro e; subst e
 have := W.nx
 omega
theorem Wd.setT {h : Hp} {M : MemV} {R : List Int} {es : List (DV × DV)} (W : Wd h M R es) (t' : WT) : Wd ⟨h.next, Tr.set (.big M.n t') M.wb h.bl⟩ { M with t := t' } R es ∧ Up h ⟨h.next, Tr.set (.big M.n t') M.wb h.bl⟩ := by
 obtain ⟨m1, m2, m3, m4, m5, m6⟩ := kQ W.mem
 have ne : ∀ b : Pos, b.toNat ≠ 1024 → (Tr.set (.big M.n t') M.wb h.bl).get b = h.bl.get b := fun b hb => by
  rw [dUl]
  intro e; rw [e, W.wb, pn1] at hb; exact hb rfl
 refine ⟨⟨by rw [ne _ (by rw [pn7]; omega)]; exact W.w, by rw [ne _ (by rw [pn4]; omega)]; exact W.r, W.rl, by rw [ne _ (by rw [pn5]; omega)]; exact W.sy, ?_, W.nx, W.wb, W.pb⟩, ⟨Nat.le_refl _, fun b h1 h2 => ne b (by omega)⟩⟩
 exact mW (by show (Tr.set (.big M.n t') M.wb h.bl).get _ = _; rw [ne _ (by rw [pn3]; omega)]; exact m1) (by show (Tr.set (.big M.n t') M.wb h.bl).get M.wb = _; rw [dUm])
  (by show (Tr.set (.big M.n t') M.wb h.bl).get M.pb = _; rw [ne _ (by rw [W.pb, pn2]; omega)]; exact m3) m4 m5 m6
end
end Go.Dd

namespace Go.Dd
open Go.Proofs
noncomputable def MemV.mk1 (M : MemV) (f c : Nat) (cls : Int) : MemV := ⟨M.wb, M.n, M.fin + (c + 3), M.made + 1, M.pb,
 kV (((M.t.set M.fin (.ofNat (c * 4 + f))).set (M.fin + 1) cls).set (M.fin + 2) (.ofNat (M.made + 1))) c (M.fin + 3), M.pl.set M.fin (.ofNat 1)⟩
def okV (f : Nat) (pl : WT) (v : Int) : Prop := match f with
 | 0 => dX v pl = true
 | 2 => 0 ≤ v ∧ v ≤ 255
 | _ => True
theorem cNz {c : Int} {pl : WT} (h : cM c pl ≠ 0) : qT c pl = true := by
 unfold qT
 split
 ·rfl
 ·have : Nat.beq (cM c pl) 0 = false := by
   cases hb : Nat.beq (cM c pl) 0 with
   | true => exact absurd (Nat.eq_of_beq_eq_true hb) h
   | false => rfl
  rw [this]; rfl
section
theorem Wd.make {h : Hp} {M : MemV} {R : List Int} {es : List (DV × DV)} (W : Wd h M R es) (G : Good M) {cls : Int} (hc : cM cls M.pl ≠ 0) {f c : Nat} (hf : f ≤ 2) (h256 : c ≤ 256) (room : M.fin + c + 3 ≤ M.n) :
  ∃ h1, iR [.p (aU 3) 0, .i .i64 cls, .i .i64 (.ofNat f), .i .i64 (.ofNat c)] h = some (.t [.i .i64 (.ofNat (M.fin * 2)), .i .i64 (.ofNat 0)], h1) ∧ Wd h1 (M.mk1 f c cls) R es ∧ Up h h1 ∧ h1.next = h.next := by
 obtain ⟨m1, m2, m3, m4, m5, m6⟩ := kQ W.mem
 have q1 : (!(qT cls M.pl)) = false := by rw [cNz hc]; rfl
 have q2 : (Nat.ble f 2 && Nat.ble c 256) = true := by simp [iX, hf, h256]
 have q3 : Nat.blt (Nat.sub M.n M.fin) (Nat.add c 3) = false := by
  rw [gL]; exact decide_eq_false (by show ¬ M.n - M.fin < c + 3; omega)
 have hlo := G.lo
 have hhi := G.hi
 have hmd := G.md
 have q4 : (Nat.ble 3 M.fin && Nat.ble M.fin 131072) = true := by simp [iX]; omega
 refine ⟨⟨h.next, Tr.set (.row .ex [.l M.wb 0 M.n M.n, .i .i64 (.ofNat (M.fin + (c + 3))), .i .i64 (.ofNat (M.made + 1)), .m M.pb]) (aU 3) (Tr.set (.mi (M.pl.set M.fin (.ofNat 1))) M.pb (Tr.set (.big M.n (M.mk1 f c cls).t) M.wb h.bl))⟩, ?_, ?_, ?_, ?_⟩
 ·simp only [iR, W.mem, q1, q2, q3, q4, cond_false, cond_true]
  rfl
 ·have ne : ∀ (b : Pos) (o1 o2 o3 : Ob), b.toNat ≠ 1024 → b.toNat ≠ 1025 → b.toNat ≠ 1026 → (Tr.set o1 (aU 3) (Tr.set o2 M.pb (Tr.set o3 M.wb h.bl))).get b = h.bl.get b := fun b o1 o2 o3 h1 h2 h3 => by
   rw [dUl _ _ _ _ (fun e => h3 (by rw [e, pn3])), dUl _ _ _ _ (fun e => h2 (by rw [e, W.pb, pn2])), dUl _ _ _ _ (fun e => h1 (by rw [e, W.wb, pn1]))]
  refine ⟨(ne _ _ _ _ (by rw [pn7]; omega) (by rw [pn7]; omega) (by rw [pn7]; omega)).trans W.w, (ne _ _ _ _ (by rw [pn4]; omega) (by rw [pn4]; omega) (by rw [pn4]; omega)).trans W.r, W.rl,
   (ne _ _ _ _ (by rw [pn5]; omega) (by rw [pn5]; omega) (by rw [pn5]; omega)).trans W.sy, ?_, W.nx, W.wb, W.pb⟩
  refine mW (by show (Tr.set _ (aU 3) _).get (aU 3) = _; rw [dUm]; rfl) ?_ ?_ m4 (show M.fin + (c + 3) ≤ M.n by omega) (show M.made + 1 < 1000000 by omega)
  ·show (Tr.set _ (aU 3) (Tr.set _ M.pb (Tr.set _ M.wb h.bl))).get M.wb = _
   rw [dUl _ _ _ _ (by rw [W.wb]; exact pne pn1 pn3 (by omega)), dUl _ _ _ _ (by rw [W.wb, W.pb]; exact pne pn1 pn2 (by omega))]
   exact dUm _ _ _
  ·show (Tr.set _ (aU 3) (Tr.set _ M.pb (Tr.set _ M.wb h.bl))).get M.pb = _
   rw [dUl _ _ _ _ (by rw [W.pb]; exact pne pn2 pn3 (by omega))]
   exact dUm _ _ _
 ·refine ⟨Nat.le_refl _, fun b h1 h2 => ?_⟩
  show (Tr.set _ (aU 3) (Tr.set _ M.pb (Tr.set _ M.wb h.bl))).get b = _
  rw [dUl _ _ _ _ (pnl pn3 h1 (by omega)), dUl _ _ _ _ (by rw [W.pb]; exact pnl pn2 h1 (by omega)), dUl _ _ _ _ (by rw [W.wb]; exact pnl pn1 h1 (by omega))]
 ·rfl
theorem Wd.put {h : Hp} {M : MemV} {R : List Int} {es : List (DV × DV)} (W : Wd h M R es) {o v : Int} {i hd : Nat} (ho : cM o M.pl ≠ 0) (hh : M.t.get (cM o M.pl) = .ofNat hd) (hb : hd < 1000000000000) (hi : i < hd / 4) (hn : cM o M.pl + 3 + hd / 4 ≤ M.n) (hv : okV (hd % 4) M.pl v) :
  sH [.p (aU 3) 0, .i .i64 o, .i .i64 (.ofNat i), .i .i64 v] h = some (.i .i64 (.ofNat 0), ⟨h.next, Tr.set (.big M.n (M.t.set (cM o M.pl + 3 + i) v)) M.wb h.bl⟩) := by
 have b0 : Nat.beq (cM o M.pl) 0 = false := by
  cases hb : Nat.beq (cM o M.pl) 0 with
  | true => exact absurd (Nat.eq_of_beq_eq_true hb) ho
  | false => rfl
 have b1 : Nat.blt (Nat.add (cM o M.pl) 1) M.n = true := by
  rw [gL]; exact decide_eq_true (show cM o M.pl + 1 < M.n by omega)
 have b2 : Nat.blt hd 1000000000000 = true := by rw [gL]; exact decide_eq_true hb
 have b3 : Nat.ble (Nat.div hd 4) i = false := by rw [iX]; exact decide_eq_false (show ¬ hd / 4 ≤ i by omega)
 have b4 : Nat.blt (Nat.add (Nat.add (cM o M.pl) 3) i) M.n = true := by rw [gL]; exact decide_eq_true (show cM o M.pl + 3 + i < M.n by omega)
 simp only [sH, jM, W.mem, gU, b0, cond_false, iO, b1, cond_true, hh, b2, b3, b4]
 show (match hd % 4 with
  | 0 => bif dX v M.pl then mB M (cM o M.pl + 3 + i) v h else some (.i .i64 (.ofNat 6), h)
  | 2 => (match (generalizing := false) v with
   | .ofNat c => bif Nat.ble c 255 then mB M (cM o M.pl + 3 + i) v h else some (.i .i64 (.ofNat 6), h)
   | .negSucc _ => some (.i .i64 (.ofNat 6), h))
  | _ => mB M (cM o M.pl + 3 + i) v h) = _
 have hm : hd % 4 < 4 := Nat.mod_lt _ (by omega)
 generalize hd % 4 = f at hv hm
 match f, hv with
 | 0, hv =>
  change dX v M.pl = true at hv
  simp only [hv, cond_true]
  rfl
 | 1, hv => rfl
 | 2, hv =>
  change 0 ≤ v ∧ v ≤ 255 at hv
  cases v with
  | negSucc c => omega
  | ofNat c =>
   have : Nat.ble c 255 = true := by rw [iX]; exact decide_eq_true (by have := hv.2; simp at this; omega)
   simp only [this, cond_true]
   rfl
 | 3, hv => rfl
 | n + 4, hv => omega
end
theorem fill {R : List Int} {es : List (DV × DV)} {o : Int} {x : DV} {a hd n : Nat} {pl : WT} {rec : FuncId → List DV → Hp → aI} (ha : cM o pl = a) (h0 : a ≠ 0) (hb : hd < 1000000000000) : ∀ (l2 done : List Int) (m : Nat) (M : MemV) (h : Hp), Wd h M R es → SlI x (done ++ l2) h →
  M.pl = pl → M.t.get a = .ofNat hd → hd / 4 = (done ++ l2).length → a + 3 + hd / 4 ≤ M.n → M.n ≤ 131072 → (∀ v ∈ l2, okV (hd % 4) pl v) → l2.length < m →
  ∃ h' t', nT rec n m (.p (aU 7) 0) (.i .i64 o) x (iD (done ++ l2).length) (.i .i64 (.ofNat done.length)) h = some (.t [.i .i64 o, .i .i64 (.ofNat 0)], h') ∧ Wd h' { M with t := t' } R es ∧ Up h h' ∧ h'.next = h.next ∧
   ∀ j, t'.get j = if a + 3 + done.length ≤ j ∧ j < a + 3 + (done ++ l2).length then l2.getD (j - (a + 3 + done.length)) 0 else M.t.get j
 | [], done, m + 1, M, h, W, S, e1, e2, e3, e4, e5, e6, e7 => by
  refine ⟨h, M.t, ?_, W, Up.refl h, rfl, fun j => by rw [if_neg (by simp)]⟩
  show rK rec n (nT rec n m) _ _ _ _ _ h = _
  unfold rK
  have hl : decide (Int.ofNat done.length < ((done ++ []).length : Int)) = false := by simp
  simp only [cE, aN, hl, bF]
  rfl
 | v :: l2, done, m + 1, M, h, W, S, e1, e2, e3, e4, e5, e6, e7 => by
  subst e1
  obtain ⟨ad, q1, q2⟩ := S.at (i := done.length) (v := v) (by simp)
  have hp := W.put (o := o) (v := v) (i := done.length) (hd := hd) (by rw [ha]; exact h0) (by rw [ha]; exact e2) hb (by rw [e3]; simp) (by rw [ha]; exact e4) (e6 v (by simp))
  rw [ha] at hp
  obtain ⟨W1, U1⟩ := W.setT (M.t.set (a + 3 + done.length) v)
  have hlen : (done ++ v :: l2).length = done.length + 1 + l2.length := by simp; omega
  have hset : ∀ j, (M.t.set (a + 3 + done.length) v).get j = if j = a + 3 + done.length then v else M.t.get j := fun j => WT.get_set _ _ _ _ (by omega)
  obtain ⟨h', t', r1, r2, r3, r4, r5⟩ := fill ha h0 hb l2 (done ++ [v]) m { M with t := M.t.set (a + 3 + done.length) v } _ W1 (by rw [List.append_assoc]; exact S.up U1) rfl (by
   show (M.t.set (a + 3 + done.length) v).get a = _
   rw [hset, if_neg (by omega)]; exact e2) (by rw [e3]; simp) e4 e5 (fun u hu => e6 u (by simp [hu])) (by simp at e7; omega)
  refine ⟨h', t', ?_, r2, U1.trans r3, r4, fun j => ?_⟩
  ·show rK rec n (nT rec n m) _ _ _ _ _ h = _
   unfold rK
   have hl : decide (Int.ofNat done.length < ((done ++ v :: l2).length : Int)) = true := by simp; omega
   simp only [cE, aN, hl, aY, q1, q2, hC, qD, W.l00, hp]
   rw [gC _ _ _ (by simp; omega), aN]
   have el : (Int.ofNat done.length + Int.ofNat 1) = Int.ofNat (done ++ [v]).length := by simp
   rw [el]
   have el2 : (done ++ v :: l2) = done ++ [v] ++ l2 := by simp
   rw [el2]
   exact r1
  ·rw [r5 j]
   simp only [hset, laE, lcE, lnE]
   by_cases c1 : a + 3 + done.length + 1 ≤ j ∧ j < a + 3 + (done.length + 1 + l2.length)
   ·rw [if_pos (by omega), if_pos (by omega)]
    have : j - (a + 3 + done.length) = (j - (a + 3 + (done.length + (0 + 1)))) + 1 := by omega
    rw [this]
    simp
   ·rw [if_neg (by omega)]
    by_cases c2 : j = a + 3 + done.length
    ·rw [if_pos c2, if_pos (by omega)]
     subst c2
     simp
    ·rw [if_neg c2, if_neg (by omega)]
end Go.Dd

namespace Go.Dd
open Go.Proofs
structure Grown (M M' : MemV) (f : Nat) (cls : Int) (l : List Int) : Prop where
 n : M'.n = M.n
 fin : M'.fin = M.fin + (l.length + 3)
 made : M'.made = M.made + 1
 pl : M'.pl = M.pl.set M.fin (.ofNat 1)
 hd : M'.t.get M.fin = .ofNat (l.length * 4 + f)
 cl : M'.t.get (M.fin + 1) = cls
 old : ∀ j, j < M.fin → M'.t.get j = M.t.get j
 new : ∀ i v, l[i]? = some v → M'.t.get (M.fin + 3 + i) = v
theorem cIy {a : Nat} (h3 : 3 ≤ a) (hi : a ≤ 131072) : iI (.ofNat (a * 2)) = a := by
 obtain ⟨h1, h2, _⟩ := yL (.ofNat (a * 2))
 have h0 : iI (.ofNat (a * 2)) ≠ 0 := h1.2 (by simp; omega)
 have h4 := h2 h0
 have h5 : (Int.ofNat (a * 2)) / 2 = (a : Int) := by rw [Int.ofNat_eq_natCast]; omega
 rw [h5] at h4
 exact Int.ofNat.inj h4
theorem rL (pl : WT) {k : Nat} (hk : k < 16000000) (j : Nat) : (pl.set k (.ofNat 1)).get j = if j = k then 1 else pl.get j := WT.get_set _ _ _ _ hk
theorem qU {w : Int} {pl : WT} {k : Nat} (hk : k < 16000000) (h : cM w pl ≠ 0) : cM w (pl.set k (.ofNat 1)) = cM w pl := by
 have h1 := atN_pos.1 h
 have h2 : cM w (pl.set k (.ofNat 1)) ≠ 0 := atN_pos.2 ⟨h1.1, by rw [rL _ hk]; split <;> simp [h1.2]⟩
 rcases nP w pl with e | ⟨e, _⟩
 ·exact absurd e h
 ·rcases nP w (pl.set k (.ofNat 1)) with e' | ⟨e', _⟩
  ·exact absurd e' h2
  ·rw [e, e']
theorem aBd {pl : WT} {a : Nat} (h3 : 3 ≤ a) (hi : a ≤ 131072) : cM (.ofNat (a * 2)) (pl.set a (.ofNat 1)) = a := by
 have hp := cIy h3 hi
 have h2 : cM (.ofNat (a * 2)) (pl.set a (.ofNat 1)) ≠ 0 := atN_pos.2 ⟨by rw [hp]; omega, by rw [hp, rL _ (by omega), if_pos rfl]; decide⟩
 rcases nP (.ofNat (a * 2)) (pl.set a (.ofNat 1)) with e' | ⟨e', _⟩
 ·exact absurd e' h2
 ·rw [e', hp]
theorem Grown.good {M M' : MemV} {f : Nat} {cls : Int} {l : List Int} (g : Grown M M' f cls l) (G : Good M) (hc : cM cls M.pl ≠ 0) (hf : f ≤ 2) (h256 : l.length ≤ 256) (room : M.fin + l.length + 3 ≤ M.n) (hm : M.made < 899999) : Good M' := by
 have h1 := G.le
 have h2 := G.lo
 have h3 := G.hi
 refine ⟨by rw [g.n]; exact G.n, by rw [g.n, g.fin]; omega, by rw [g.fin]; omega, by rw [g.n]; exact G.hi, by rw [g.made]; omega, fun a ha => ?_⟩
 rw [g.pl, rL _ (by omega)] at ha
 by_cases e : a = M.fin
 ·subst e
  refine ⟨h2, l.length * 4 + f, g.hd, by omega, by rw [g.fin]; omega, ?_⟩
  rw [g.cl, g.pl, qU (by omega) hc]
  exact hc
 ·rw [if_neg e] at ha
  obtain ⟨p1, hd, p2, p3, p4, p5⟩ := G.ob a ha
  refine ⟨p1, hd, by rw [g.old _ (by omega)]; exact p2, p3, by rw [g.fin]; omega, ?_⟩
  rw [g.old _ (by omega), g.pl, qU (by omega) p5]
  exact p5
section
theorem Wd.make61 {h : Hp} {M : MemV} {R : List Int} {es : List (DV × DV)} (W : Wd h M R es) (G : Good M) {cls : Int} (hc : cM cls M.pl ≠ 0) {f : Nat} (hf : f ≤ 2) {x : DV} {l : List Int} (S : SlI x l h) (h256 : l.length ≤ 256) (room : M.fin + l.length + 3 ≤ M.n)
  (hv : ∀ v ∈ l, okV f (M.pl.set M.fin (.ofNat 1)) v) {n : Nat} (hn : 256 < n) :
  ∃ h' M', cQ (n + 1) 82 [.p (aU 7) 0, .i .i64 cls, .i .i64 (.ofNat f), x] h = some (.t [.i .i64 (.ofNat (M.fin * 2)), .i .i64 (.ofNat 0)], h') ∧ Wd h' M' R es ∧ Up h h' ∧ h'.next = h.next ∧ Grown M M' f cls l := by
 have h1 := G.le
 have h2 := G.lo
 have h3 := G.hi
 obtain ⟨gg, e1, W1, U1, N1⟩ := W.make G hc hf h256 room
 have t1 : ∀ j, (M.mk1 f l.length cls).t.get j = if M.fin + 3 ≤ j ∧ j < M.fin + 3 + l.length then 0 else if j = M.fin + 2 then .ofNat (M.made + 1) else if j = M.fin + 1 then cls else if j = M.fin then .ofNat (l.length * 4 + f) else M.t.get j := fun j => by
  show (kV _ l.length (M.fin + 3)).get j = _
  rw [mY _ _ _ _ (by omega), WT.get_set _ _ _ _ (by omega), WT.get_set _ _ _ _ (by omega), WT.get_set _ _ _ _ (by omega)]
 have ha : cM (.ofNat (M.fin * 2)) (M.mk1 f l.length cls).pl = M.fin := aBd h2 (by omega)
 have hq : (l.length * 4 + f) / 4 = l.length := by omega
 have hr : (l.length * 4 + f) % 4 = f := by omega
 obtain ⟨h', t', e2, W2, U2, N2, q⟩ := fill (n := n) (rec := cQ n) (o := .ofNat (M.fin * 2)) (x := x) (a := M.fin) (hd := l.length * 4 + f) (pl := (M.mk1 f l.length cls).pl) ha (by omega) (by omega) l [] n (M.mk1 f l.length cls) gg W1
  (S.up U1) rfl (by rw [t1, if_neg (by omega), if_neg (by omega), if_neg (by omega), if_pos rfl]) (by rw [hq]; rfl) (by rw [hq]; show M.fin + 3 + l.length ≤ M.n; omega) h3 (by rw [hr]; exact hv) (by omega)
 refine ⟨h', _, ?_, W2, U1.trans U2, N2.trans N1, ?_⟩
 ·rw [jP 82 rfl, cSc]
  unfold s82 aVs aUg aXc aZw bIl
  have kR : ∀ (a b : DV) (h : Hp), aB 0 (.t [a, b]) h = some (a, h) := fun a b h => rfl
  have kI : ∀ (a b : DV) (h : Hp), aB 1 (.t [a, b]) h = some (b, h) := fun a b h => rfl
  have hne : (Int.ofNat 0 != Int.ofNat 0) = false := rfl
  have el : iD (l.length : Int) = .i .i64 (.ofNat l.length) := rfl
  simp only [g0, g1, g2, g3, hC, qD, aN, W.l00, S.len (h' := h), el, e1, kR, kI, gE, hne, bF, S.len (h' := gg)]
  exact e2
 ·have q' : ∀ j, t'.get j = if M.fin + 3 ≤ j ∧ j < M.fin + 3 + l.length then l.getD (j - (M.fin + 3)) 0 else (M.mk1 f l.length cls).t.get j := q
  refine ⟨rfl, rfl, rfl, rfl, ?_, ?_, fun j hj => ?_, fun i v hi => ?_⟩
  ·show t'.get M.fin = _
   rw [q', if_neg (by omega), t1, if_neg (by omega), if_neg (by omega), if_neg (by omega), if_pos rfl]
  ·show t'.get (M.fin + 1) = _
   rw [q', if_neg (by omega), t1, if_neg (by omega), if_neg (by omega), if_pos rfl]
  ·show t'.get j = _
   rw [q', if_neg (by omega), t1, if_neg (by omega), if_neg (by omega), if_neg (by omega), if_neg (by omega)]
  ·show t'.get (M.fin + 3 + i) = _
   have hl : i < l.length := by
    rcases Nat.lt_or_ge i l.length with q | q
    ·exact q
    ·rw [List.getElem?_eq_none q] at hi; cases hi
   rw [q', if_pos (by omega), show M.fin + 3 + i - (M.fin + 3) = i by omega]
   simp [List.getD, hi]
end
end Go.Dd

namespace Go.Dd
open Go.Proofs
def wsW : List Nat := [22, 204, 584, 80, 111, 105, 110, 116, 8, 168, 585, 8642, 8370, 6, 204, 586, 120, 8, 168, 587, 8668, 8658, 6, 204, 588, 121, 8, 168, 589, 8686, 8676, 8, 168, 590, 8668, 8686, 24, 24, 591, 8642, 6, 5, 8704, 0, 1, 8, 168, 592, 8714, 1096]
def plW : List Nat := [4321, 4329, 4334, 4338, 4343, 4347, 4352, 4357, 4366]
def syW : List (List Nat × Nat) := [([80, 111, 105, 110, 116], 8642), ([120], 8668), ([121], 8686)]
def clW : List (List Nat × Nat) := [([80, 111, 105, 110, 116], 8714)]
def RWr : List Nat := [8694, 8732, 6, 24, 42, 60, 78, 96, 114, 132, 150, 168, 186, 204, 222, 240, 258, 276]
noncomputable def MWt : WT := mkW wsW 4321 (bKm [] (mkW (pU wsF 4321) 0 .e))
noncomputable def MWp : WT := mkP plW (mkP (pU plF 583) .e)
noncomputable def esW : List (DV × DV) := bDj (bVv syF 80 ++ syW)
noncomputable def csW : List (DV × DV) := bDj (clF ++ clW)
noncomputable def HLW : List (Pos × Ob) :=
 (aU 7, .row .ex [.p (aU 3) 0, .l (aU 4) 0 18 18, .m (aU 5), .m (aU 6)]) :: (aU 6, .mp csW) :: (aU 5, .mp esW) :: (aU 4, .row .ex (dKs RWr)) ::
 (aU 3, .row .ex [.l (aU 1) 0 30000 30000, .i .i64 (.ofNat 4371), .i .i64 (.ofNat 592), .m (aU 2)]) :: (aU 2, .mi MWp) :: (aU 1, .big 30000 MWt) :: []
noncomputable def hW : Hp := gX 26889 HLW
def nxW : Nat := 26889
noncomputable def cVv (r : aI) (v : DV) (nx : Nat) (l : List (Pos × Ob)) : Bool := match r with
 | some (u, g) => dvE u v && (lB g.next (aU nx) && aXz g.bl l)
 | none => false
theorem dBy : cVv (s12 (bDd 900) 900 hS) (.p (aU 7) 0) 26889 HLW = true := by kernel_rfl
end Go.Dd

namespace Go.Dd
open Go.Proofs
theorem tQ : ∀ (l : List Nat) (t : WT) (a : Nat), (∀ x ∈ l, x < 16000000) → (mkP l t).get a ≠ 0 → a ∈ l ∨ t.get a ≠ 0
 | [], t, a, _, h => .inr h
 | x :: l, t, a, hx, h => by
  rcases tQ l (t.set x (.ofNat 1)) a (fun y hy => hx y (by simp [hy])) h with h1 | h1
  ·exact .inl (by simp [h1])
  ·rw [WT.get_set _ _ _ _ (hx x (by simp))] at h1
   by_cases e : a = x
   ·exact .inl (by simp [e])
   ·rw [if_neg e] at h1
    exact .inr h1
noncomputable def cIp (M : MemV) (a : Nat) : Bool := Nat.ble 3 a && (Nat.ble a 131072 && (match M.t.get a with
 | .ofNat hd => Nat.blt hd 1000000000000 && (Nat.ble (Nat.add (Nat.add a 3) (Nat.div hd 4)) M.fin && !(Nat.beq (cM (M.t.get (Nat.add a 1)) M.pl) 0))
 | .negSucc _ => false))
noncomputable def aLo (p : Nat → Bool) (l : List Nat) : Bool := List.rec (motive := fun _ => Bool) true (fun x _ ih => p x && ih) l
theorem jI {p : Nat → Bool} : ∀ {l : List Nat}, aLo p l = true → ∀ a ∈ l, p a = true
 | [], _, a, h => by cases h
 | x :: l, hl, a, h => by
  change (p x && aLo p l) = true at hl
  simp only [Bool.and_eq_true] at hl
  simp only [List.mem_cons] at h
  rcases h with rfl | h
  ·exact hl.1
  ·exact jI hl.2 a h
theorem cOq {M : MemV} {l : List Nat} (hp : M.pl = mkP l .e) (hc : aLo (cIp M) l = true) (hn : M.n ≤ 131072) (hf : M.fin ≤ M.n) (h3 : 3 ≤ M.fin) (hm : M.made < 900000) : Good M := by
 have ha : ∀ a ∈ l, cIp M a = true := jI hc
 refine ⟨by omega, hf, h3, hn, hm, fun a h => ?_⟩
 have hl : ∀ x ∈ l, x < 16000000 := fun x hx => by
  have := ha x hx
  simp only [cIp, Bool.and_eq_true, iX, decide_eq_true_eq] at this
  omega
 have hm : a ∈ l := by
  rw [hp] at h
  rcases tQ l .e a hl h with h1 | h1
  ·exact h1
  ·exact absurd rfl h1
 have := ha a hm
 simp only [cIp, Bool.and_eq_true, iX, decide_eq_true_eq] at this
 obtain ⟨p1, p2, p3⟩ := this
 refine ⟨p1, ?_⟩
 cases ht : M.t.get a with
 | negSucc x => rw [ht] at p3; cases p3
 | ofNat hd =>
  rw [ht] at p3
  simp only [Bool.and_eq_true, gL, iX, decide_eq_true_eq] at p3
  obtain ⟨q1, q2, q3⟩ := p3
  refine ⟨hd, rfl, q1, q2, fun e => ?_⟩
  change (!(Nat.beq (cM (M.t.get (a + 1)) M.pl) 0)) = true at q3
  rw [e] at q3
  cases q3
noncomputable def MN : MemV := ⟨aU 1, 30000, 4371, 592, aU 2, MWt, MWp⟩
def RN : List Int := [8694, 8732, 6, 24, 42, 60, 78, 96, 114, 132, 150, 168, 186, 204, 222, 240, 258, 276]
noncomputable def esN : List (DV × DV) := esW
noncomputable def plN : List Nat := pU plF 583 ++ plW
noncomputable def syN : List (List Nat × Nat) := bVv syF 80 ++ syW
theorem WN : Wd hW MN RN esN where
 w := by kernel_rfl
 r := by kernel_rfl
 rl := by kernel_rfl
 sy := by kernel_rfl
 mem := by kernel_rfl
 nx := by
  have : hW.next.toNat = 27912 := by kernel_rfl
  omega
 wb := rfl
 pb := rfl
theorem aUz : ∀ (l m : List Nat) (t : WT), mkP (l ++ m) t = mkP m (mkP l t)
 | [], m, t => rfl
 | x :: l, m, t => aUz l m (t.set x (.ofNat 1))
theorem cSd : MN.pl = mkP (pU plF 583 ++ plW) .e := show mkP plW (mkP (pU plF 583) .e) = _ from (aUz (pU plF 583) plW .e).symm
theorem GN : Good MN := cOq (l := pU plF 583 ++ plW) cSd (by kernel_rfl) (by show 30000 ≤ 131072; omega) (by show 4371 ≤ 30000; omega) (by show 3 ≤ 4371; omega) (by show 592 < 900000; omega)
theorem RNb : aLo (fun i => !(Nat.beq (cM (RN.getD (2 + i) 0) MN.pl) 0)) [0, 1, 2, 3, 4, 5, 6, 7, 8, 9, 10, 11, 12, 13, 14, 15] = true := by kernel_rfl
theorem dIe (i : Nat) (hi : i < 16) : cM (RN.getD (2 + i) 0) MN.pl ≠ 0 := fun e => by
 have := jI RNb i (by simp only [List.mem_cons, List.not_mem_nil, or_false]; omega)
 rw [e] at this
 cases this
end Go.Dd

namespace Go.Dd
open Go.Proofs
theorem rg0 (rec : FuncId → List DV → Hp → aI) (k : K) (env : aW) (h : Hp) : iT CF0 rec 49 (fT (cL (cf Tryz.f159))) (fT (cL (cf Tryz.f159))).toList k env h = (
 bnd (bX (env 1) h) fun v1 h1 =>
 k (bN (bN env (some 3) v1) (some 4) (.i .i64 (Int.ofNat 0))) h1) := by kernel_rfl
theorem rg1 (rec : FuncId → List DV → Hp → aI) (k : K) (env : aW) (h : Hp) : iT CF0 rec 49 (fT (cL (cR (cf Tryz.f159)))) (fT (cL (cR (cf Tryz.f159)))).toList k env h = (
 bnd (aO (env 0) h) fun v1 h1 =>
 bnd (aC 0 v1 h1) fun v2 h2 =>
 bnd (aC 4 v2 h2) fun v3 h3 =>
 bnd (aA v3 h3) fun v4 h4 =>
 bnd (rec 187 [v4, (.f 188 [] [(env 3)])] h4) fun v5 h5 =>
 k (bN (bN (bN (bN (bN (bN (bN (bN env (some 6) (env 0)) (some 7) v1) (some 8) v2) (some 9) v3) (some 10) v4) (some 11) (.f 188 [] [(env 3)])) (some 12) v5) (some 5) v5) h5) := by kernel_rfl
theorem rg2 (rec : FuncId → List DV → Hp → aI) (k : K) (env : aW) (h : Hp) : iT CF0 rec 49 (fT (cL (cL (cR (cR (cf Tryz.f159)))))) (fT (cL (cL (cR (cR (cf Tryz.f159)))))).toList k env h = (
 bnd (aD .lss (env 5) (.i .i64 (Int.ofNat 0)) h) fun v1 h1 =>
 k (bN (bN env (some 13) (env 5)) (some 14) v1) h1) := by kernel_rfl
theorem rg3 (rec : FuncId → List DV → Hp → aI) (k : K) (env : aW) (h : Hp) : iT CF0 rec 49 (fT (cL (cL (cR (cL (cR (cR (cf Tryz.f159)))))))) (fT (cL (cL (cR (cL (cR (cR (cf Tryz.f159)))))))).toList k env h = (
 bnd (aO (env 0) h) fun v1 h1 =>
 bnd (aC 0 v1 h1) fun v2 h2 =>
 bnd (aC 4 v2 h2) fun v3 h3 =>
 bnd (aA v3 h3) fun v4 h4 =>
 bnd (cJ v4 h4) fun v5 h5 =>
 k (bN (bN (bN (bN (bN (bN (bN env (some 15) (env 0)) (some 16) v1) (some 17) v2) (some 18) v3) (some 19) v4) (some 20) v5) (some 5) v5) h5) := by kernel_rfl
theorem rg5 (rec : FuncId → List DV → Hp → aI) (k : K) (env : aW) (h : Hp) : iT CF0 rec 49 (fT (cL (cL (cR (cR (cL (cR (cL (cR (cR (cf Tryz.f159))))))))))) (fT (cL (cL (cR (cR (cL (cR (cL (cR (cR (cf Tryz.f159))))))))))).toList k env h = (
 bnd (aO (env 0) h) fun v1 h1 =>
 bnd (aC 0 v1 h1) fun v2 h2 =>
 bnd (aC 4 v2 h2) fun v3 h3 =>
 bnd (aA v3 h3) fun v4 h4 =>
 bnd (cJ v4 h4) fun v5 h5 =>
 bnd (aL [(.i .i64 (Int.ofNat 0)), (.s []), (.i .i64 (Int.ofNat 0)), .l0] 1 [(0, 4, (.a [(.i .i64 (Int.ofNat 0)), (.s []), (.i .i64 (Int.ofNat 0)), .l0]))] h5) fun v6 h6 =>
 bnd (bB 4 56 v4 v6 h6) fun v7 h7 =>
 bnd (aO (env 0) h7) fun v8 h8 =>
 bnd (aC 0 v8 h8) fun v9 h9 =>
 bnd (aC 4 v9 h9) fun v10 h10 =>
 bnd (aH 1 v10 v7 h10) fun _ h11 =>
 k (bN (bN (bN (bN (bN (bN (bN (bN (bN (bN (bN env (some 23) (env 0)) (some 24) v1) (some 25) v2) (some 26) v3) (some 27) v4) (some 28) v5) (some 29) v6) (some 30) v7) (some 31) v8) (some 32) v9) (some 33) v10) h11) := by kernel_rfl
theorem rg6 (rec : FuncId → List DV → Hp → aI) (k : K) (env : aW) (h : Hp) : iT CF0 rec 49 (fT (cR (cL (cR (cR (cL (cR (cL (cR (cR (cf Tryz.f159))))))))))) (fT (cR (cL (cR (cR (cL (cR (cL (cR (cR (cf Tryz.f159))))))))))).toList k env h = (
 bnd (aK 4 (env 3) h) fun v1 h1 =>
 bnd (aJ 4 (env 30) (env 28) h1) fun v2 h2 =>
 bnd (aH 4 v2 v1 h2) fun _ h3 =>
 k (bN (bN env (some 34) v1) (some 35) v2) h3) := by kernel_rfl
theorem rg7 (rec : FuncId → List DV → Hp → aI) (k : K) (env : aW) (h : Hp) : iH CF0 rec 49 (fT (cR (cR (cR (cL (cR (cL (cR (cR (cf Tryz.f159)))))))))) k env h = (
 bnd (aO (env 0) (resv 1 h)) fun v1 h1 =>
 bnd (aC 0 v1 h1) fun v2 h2 =>
 bnd (aC 4 v2 h2) fun v3 h3 =>
 bnd (aA v3 h3) fun v4 h4 =>
 bnd (aK 4 (env 3) h4) fun v5 h5 =>
 bnd (bL (bW 0 h.next) [(.i .i64 (Int.ofNat 0)), (.s []), (.i .i64 (Int.ofNat 0)), .l0] 1 [(0, 4, v5)] h5) fun v6 h6 =>
 bnd (bB 4 56 v4 v6 h6) fun v7 h7 =>
 bnd (aO (env 0) h7) fun v8 h8 =>
 bnd (aC 0 v8 h8) fun v9 h9 =>
 bnd (aC 4 v9 h9) fun v10 h10 =>
 bnd (aH 1 v10 v7 h10) fun v11 h11 =>
 k (bN (bN (bN (bN (bN (bN (bN (bN (bN (bN (bN (bN env (some 36) (env 0)) (some 37) (env 0)) (some 38) v1) (some 39) v2) (some 40) v3) (some 41) v4) (some 42) v5) (some 43) v6) (some 44) v7) (some 45) v8) (some 46) v9) (some 47) v10) h11) := by kernel_rfl
theorem rg8 (rec : FuncId → List DV → Hp → aI) (k : K) (env : aW) (h : Hp) : iT CF0 rec 49 (fT (cL (cR (cR (cR (cf Tryz.f159)))))) (fT (cL (cR (cR (cR (cf Tryz.f159)))))).toList k env h = (
 k (bN (bN env (some 48) (env 5)) (some 4) (env 5)) h) := by kernel_rfl
end Go.Dd

namespace Go.Dd
open Go.Proofs
theorem HR.sub {G : Gd} {ρ : dB} {h h' : Hp} {w : World} (S : Sim true h h') (H : HR G ρ h' w) : HR G ρ h w := by
 have hg : ∀ b o, h.bl.get b = some o → h'.bl.get b = some o := fun b o hb => by
  obtain ⟨o', h1, h2⟩ := S.get b o hb
  rw [h1, jV h2]
 have hc : ∀ b a, Claims ρ h b a → Claims ρ h' b a := fun b a ⟨k, l, L, h1, h2, h3⟩ => ⟨k, l, L, hg _ _ h1, h2, h3⟩
 have hro : ∀ b a, Claims ρ h b a → ¬ isRo h b → ¬ isRo h' b := fun b a ⟨k, l, L, h1, h2, h3⟩ hn ⟨l', hl⟩ => by
  rw [hg _ _ h1] at hl
  simp only [bG, Ob.row.injEq] at hl
  exact hn ⟨l, by rw [h1, hl.1]⟩
 exact ⟨H.gl, H.sz, by rw [← S.next]; exact H.nx, fun b a h1 ⟨l, h2⟩ => H.ro b a (hc b a h1) ⟨l, hg _ _ h2⟩, fun b o hb => H.dom b o (hg b o hb), fun b L hb => by rw [← S.next]; exact H.lt b L hb,
  fun b k l L i v h1 => H.cell b k l L i v (hg _ _ h1), fun b l L es j h1 => H.spare b l L es j (hg _ _ h1), fun b a h1 h2 => H.free b a (hc b a h1) (hro b a h1 h2),
  fun b b' a h1 h2 h3 => H.inj b b' a (hc b a h1) (hc b' a h2) (hro b a h1 h3),
  fun b l L h1 => H.ex b l L (h1.elim (fun q => .inl (hg _ _ q)) (fun q => .inr (hg _ _ q))), fun b es l i v h1 => H.grone b es l i v (hg _ _ h1),
  fun b o L h1 h2 => H.itr b o L h1 (hg _ _ h2), fun b o b' o' L L' h1 h2 h3 h4 => H.itj b o b' o' L L' h1 h2 (hg _ _ h3) (hg _ _ h4)⟩
theorem pY : ∀ p : Pos, lB p p = true
 | .h => rfl
 | .o p => pY p
 | .i p => pY p
theorem aUv {p q : Pos} (h : lB p q = false) : p ≠ q := fun e => by subst e; rw [pY] at h; cases h
open Classical in
noncomputable def kk (N : aW → Hp → Prop) : K := fun env h => if N env h then some (aV, h) else none
theorem rT {N : aW → Hp → Prop} {env : aW} {h : Hp} (hn : N env h) : ∃ r, kk N env h = some r := ⟨_, if_pos hn⟩
theorem cRs {N : aW → Hp → Prop} {env : aW} {h : Hp} {r} (hn : kk N env h = some r) : N env h := by
 unfold kk at hn
 split at hn
 ·assumption
 ·cases hn
section
variable {C : Cfg} {rec : FuncId → List DV → Hp → aI} {nt : Nat} {X : Nat → aW → Hp → Prop} {R N : aW → Hp → Prop} {env : aW} {h : Hp}
theorem wpS {a b : Code} (H : qO C rec nt a X R (qO C rec nt b X R N) env h) : qO C rec nt (.seq a b) X R N env h := H
theorem aQv {id : Nat} {ops : Array Oper} (H : ∃ r, iT C rec nt ops ops.toList (kk fun e h => nD h → N e h) env h = some r) : qO C rec nt (.region id ops false) X R N env h := by
 obtain ⟨r, hr⟩ := H
 obtain ⟨env', h', h1, h2⟩ := vU _ _ _ _ _ hr
 simp only [qO, Bool.false_eq_true, if_false]
 exact ⟨env', h', h1, cRs h2⟩
theorem dPf {id : Nat} {ops : Array Oper} (hd : fE C.P ops = true) (H : ∃ r, iH C rec nt ops (kk fun e h => nD h → N e h) env h = some r) : qO C rec nt (.region id ops true) X R N env h := by
 obtain ⟨r, hr⟩ := H
 simp only [qO, if_true]
 exact .inr ⟨hd, _, r, hr, fun env' h' h1 h2 => cRs h1 h2⟩
theorem dQz {id : Nat} {ops : Array Oper} (H : aKx C rec nt ops (fun e h => nD h → N e h) ops.size (Array.replicate ops.size false) env h) : qO C rec nt (.region id ops true) X R N env h := by
 simp only [qO, if_true]
 exact .inl H
theorem wpC {c : Operand} {a b : Code} {t : Bool} (hc : opr env c = .b t) (H : (t = true → qO C rec nt a X R N env h) ∧ (t = false → qO C rec nt b X R N env h)) : qO C rec nt (.cond c a b) X R N env h := by
 cases t with
 | true => exact .inl ⟨hc, H.1 rfl⟩
 | false => exact .inr ⟨hc, H.2 rfl⟩
end
noncomputable def dTl : Code := cL (cR (cL (cR (cL (cR (cR (cf Tryz.f159)))))))
noncomputable def R4 : Array Oper := fT dTl
theorem dGw : cf Tryz.f159 = .seq (.region 0 (fT (cL (cf Tryz.f159))) false) (.seq (.region 1 (fT (cL (cR (cf Tryz.f159)))) false) (.seq (.seq (.region 2 (fT (cL (cL (cR (cR (cf Tryz.f159)))))) false)
 (.cond (.tmp 14) (.seq (.region 3 (fT (cL (cL (cR (cL (cR (cR (cf Tryz.f159)))))))) false) (.seq (.region 4 R4 true) (.cond (.tmp 22)
  (.seq (.region 5 (fT (cL (cL (cR (cR (cL (cR (cL (cR (cR (cf Tryz.f159))))))))))) false) (.region 6 (fT (cR (cL (cR (cR (cL (cR (cL (cR (cR (cf Tryz.f159))))))))))) false))
  (.region 7 (fT (cR (cR (cR (cL (cR (cL (cR (cR (cf Tryz.f159)))))))))) true)))) .skip)) (.seq (.region 8 (fT (cL (cR (cR (cR (cf Tryz.f159)))))) false) .ret))) := by kernel_rfl
noncomputable def o4 (i : Nat) : Oper := (R4.toList[i]?).getD (Oper.mk none (.move (.tmp 0)) 0 "" #[] none)
theorem dTb : R4[0]? = some (o4 0) := by kernel_rfl
theorem dHq : R4[1]? = some (o4 1) := by kernel_rfl
theorem dKg : R4[2]? = some (o4 2) := by kernel_rfl
theorem dTu : R4[3]? = some (o4 3) := by kernel_rfl
theorem dRu (rec : FuncId → List DV → Hp → aI) (env : aW) (h : Hp) : bM CF0 rec R4 (o4 0) env h = bR [.b false] h := by kernel_rfl
theorem dFr (rec : FuncId → List DV → Hp → aI) (env : aW) (h : Hp) : bM CF0 rec R4 (o4 1) env h = aH 1 (env 21) (.b true) h := by kernel_rfl
theorem dOj (rec : FuncId → List DV → Hp → aI) (env : aW) (h : Hp) : bM CF0 rec R4 (o4 2) env h = aH 1 (env 21) (.b false) h := by kernel_rfl
theorem dRe (rec : FuncId → List DV → Hp → aI) (env : aW) (h : Hp) : bM CF0 rec R4 (o4 3) env h = aA (env 21) h := by kernel_rfl
theorem dNi : (o4 0).dst = some 21 := by kernel_rfl
theorem cEr : (o4 1).dst = none := by kernel_rfl
theorem cJt : (o4 2).dst = none := by kernel_rfl
theorem dGu : (o4 3).dst = some 22 := by kernel_rfl
theorem z4 : Array.replicate R4.size false = #[false, false, false, false] := by kernel_rfl
theorem y4 : R4.size = 4 := by kernel_rfl
theorem dOt : Region.ready .any R4 #[false, false, false, false] = [0] := by kernel_rfl
theorem dOg : Region.ready .any R4 #[true, false, false, false] = [1, 2] := by kernel_rfl
theorem dPh : Region.ready .any R4 #[true, true, false, false] = [2] := by kernel_rfl
theorem dRr : Region.ready .any R4 #[true, false, true, false] = [1] := by kernel_rfl
theorem dTw : Region.ready .any R4 #[true, true, true, false] = [3] := by kernel_rfl
theorem dPe : Region.ready .any R4 #[true, true, true, true] = [] := by kernel_rfl
theorem dSi : (#[false, false, false, false] : Array Bool).setIfInBounds 0 true = #[true, false, false, false] := by kernel_rfl
theorem dPd : (#[true, false, false, false] : Array Bool).setIfInBounds 1 true = #[true, true, false, false] := by kernel_rfl
theorem dSr : (#[true, false, false, false] : Array Bool).setIfInBounds 2 true = #[true, false, true, false] := by kernel_rfl
theorem dOw : (#[true, true, false, false] : Array Bool).setIfInBounds 2 true = #[true, true, true, false] := by kernel_rfl
theorem dRc : (#[true, false, true, false] : Array Bool).setIfInBounds 1 true = #[true, true, true, false] := by kernel_rfl
theorem dOu : (#[true, true, true, false] : Array Bool).setIfInBounds 3 true = #[true, true, true, true] := by kernel_rfl
theorem cJc {C : Cfg} {rec : FuncId → List DV → Hp → aI} {nt f i : Nat} {ops : Array Oper} {lQ : aW → Hp → Prop} {listed l' : Array Bool} {env : aW} {h h' : Hp} {o : Oper} {v : DV} (hr : Region.ready .any ops listed = [i])
  (ho : ops[i]? = some o) (hf : cZ nt o.dst = true) (hs : bM C rec ops o env h = some (v, h')) (hl : listed.setIfInBounds i true = l') (hn : aKx C rec nt ops lQ f l' (bN env o.dst v) h') : aKx C rec nt ops lQ (f + 1) listed env h := by
 refine ⟨fun e => ?_, fun j hj => ?_⟩
 ·rw [hr] at e; cases e
 ·rw [hr] at hj
  simp only [List.mem_singleton] at hj
  subst hj
  exact ⟨o, v, h', ho, hf, hs, by rw [hl]; exact hn⟩
structure After (h h' : Hp) : Prop where
 next : h'.next = h.next.succ
 get : ∀ b, b ≠ h.next → h'.bl.get b = h.bl.get b
theorem dTd {rec : FuncId → List DV → Hp → aI} {lQ : aW → Hp → Prop} {env : aW} {h : Hp} (H : ∀ x h', After h h' → lQ (bN (bN env (some 21) (.p h.next 0)) (some 22) (.b x)) h') :
  aKx CF0 rec 49 R4 lQ R4.size (Array.replicate R4.size false) env h := by
 rw [z4, y4]
 have st : ∀ (n : Pos) (bl : Tr Ob) (x y : Bool), bl.get h.next = some (.row .ex [.b y]) → aH 1 (.p h.next 0) (.b x) ⟨n, bl⟩ = some (aV, ⟨n, Tr.set (.row .ex [.b x]) h.next bl⟩) := fun n bl x y e => by
  simp only [aH, cY, cX, e, Kind.writable, List.length_singleton, if_true, gH, kZ, DV.one, Bool.and_self, Option.map_some]
 have ld : ∀ (n : Pos) (bl : Tr Ob) (x : Bool), bl.get h.next = some (.row .ex [.b x]) → aA (.p h.next 0) ⟨n, bl⟩ = some (.b x, ⟨n, bl⟩) := fun n bl x e => by
  simp only [aA, cellD, rowOf, e, List.getElem?_cons_zero, DV.one, if_true]
 have g0 : ∀ (t : Tr Ob) (x : Bool), (Tr.set (.row .ex [.b x]) h.next t).get h.next = some (.row .ex [.b x]) := fun t x => dUm _ _ _
 have go : ∀ (t : Tr Ob) (x : Bool) (b : Pos), b ≠ h.next → (Tr.set (.row .ex [.b x]) h.next t).get b = t.get b := fun t x b e => dUl _ _ _ _ e
 have fin : ∀ (t : Tr Ob) (x : Bool), (∀ b, b ≠ h.next → t.get b = h.bl.get b) → t.get h.next = some (.row .ex [.b x]) →
   aKx CF0 rec 49 R4 lQ 1 #[true, true, true, false] (bN env (some 21) (.p h.next 0)) ⟨h.next.succ, t⟩ := fun t x e1 e2 => by
  refine cJc dTw dTu (by rw [dGu]; rfl) ((dRe _ _ _).trans (ld _ _ x e2)) dOu ?_
  rw [dGu]
  exact ⟨dPe, H x _ ⟨rfl, e1⟩⟩
 refine cJc dOt dTb (by rw [dNi]; rfl) (dRu _ _ _) dSi ?_
 rw [dNi]
 refine ⟨fun e => (by rw [dOg] at e; cases e), fun j hj => ?_⟩
 rw [dOg] at hj
 simp only [List.mem_cons, List.not_mem_nil, or_false] at hj
 rcases hj with rfl | rfl
 ·refine ⟨_, _, _, dHq, by rw [cEr]; rfl, (dFr _ _ _).trans (st _ _ true false (g0 _ _)), ?_⟩
  rw [dPd, cEr]
  refine cJc dPh dKg (by rw [cJt]; rfl) ((dOj _ _ _).trans (st _ _ false true (g0 _ _))) dOw ?_
  rw [cJt]
  exact fin _ false (fun b e => by rw [go _ _ _ e, go _ _ _ e, go _ _ _ e]) (g0 _ _)
 ·refine ⟨_, _, _, dKg, by rw [cJt]; rfl, (dOj _ _ _).trans (st _ _ false false (g0 _ _)), ?_⟩
  rw [dSr, cJt]
  refine cJc dRr dHq (by rw [cEr]; rfl) ((dFr _ _ _).trans (st _ _ true false (g0 _ _))) dRc ?_
  rw [cEr]
  exact fin _ true (fun b e => by rw [go _ _ _ e, go _ _ _ e, go _ _ _ e]) (g0 _ _)
end Go.Dd

namespace Go.Dd
open Go.Proofs
theorem bWb {h h' g : Hp} {x v : DV} (hg : ∀ b o, h.bl.get b = some o → h'.bl.get b = some o) (e : aA x h = some (v, g)) : aA x h' = some (v, h') := by
 have S : Sim true ⟨h'.next, h.bl⟩ h' := ⟨rfl, fun b o hb => ⟨o, hg b o hb, jJ o⟩⟩
 have e' : aA x ⟨h'.next, h.bl⟩ = some (v, ⟨h'.next, h.bl⟩) := by
  unfold aA at e ⊢
  split at e <;> (try (cases e; done))
  rename_i b o
  change (match cellD b o ⟨h'.next, h.bl⟩ with
   | some v => some (v, (⟨h'.next, h.bl⟩ : Hp))
   | none => none) = _
  change (match cellD b o ⟨h'.next, h.bl⟩ with
   | some v => some (v, h)
   | none => none) = _ at e
  split at e <;> (try (cases e; done))
  rename_i u hu
  simp only [bG, bQ] at e
  rw [e.1]
 obtain ⟨k, e1, e2⟩ := kK x _ _ S v _ e'
 obtain ⟨rfl, _⟩ := (show k = h' ∧ True by
  unfold aA at e1
  split at e1 <;> (try (cases e1; done))
  split at e1 <;> (try (cases e1; done))
  simp only [bG, bQ] at e1
  exact ⟨e1.2.symm, trivial⟩)
 exact e1
theorem bYb {h h' g : Hp} {n : Nat} {x v : DV} (hg : ∀ b o, h.bl.get b = some o → h'.bl.get b = some o) (e : aK n x h = some (v, g)) : aK n x h' = some (v, h') := by
 have S : Sim true ⟨h'.next, h.bl⟩ h' := ⟨rfl, fun b o hb => ⟨o, hg b o hb, jJ o⟩⟩
 have e' : aK n x ⟨h'.next, h.bl⟩ = some (v, ⟨h'.next, h.bl⟩) := by
  unfold aK at e ⊢
  split at e <;> (try (cases e; done))
  rename_i b o
  change (match cellsAt b o n ⟨h'.next, h.bl⟩ with
   | some v => some (DV.a v, (⟨h'.next, h.bl⟩ : Hp))
   | none => none) = _
  change (match cellsAt b o n ⟨h'.next, h.bl⟩ with
   | some v => some (DV.a v, h)
   | none => none) = _ at e
  split at e <;> (try (cases e; done))
  rename_i u hu
  simp only [bG, bQ] at e
  rw [← e.1]
 obtain ⟨k, e1, e2⟩ := kM n x _ _ S v _ e'
 obtain ⟨rfl, _⟩ := (show k = h' ∧ True by
  unfold aK at e1
  split at e1 <;> (try (cases e1; done))
  split at e1 <;> (try (cases e1; done))
  simp only [bG, bQ] at e1
  exact ⟨e1.2.symm, trivial⟩)
 exact e1
theorem bMd {q : Pos} {l1 v : DV} {cs : List DV} {h k : Hp} (e : jC q l1 cs h = some (v, k)) : ∃ (n : Nat) (old : List DV) (t : Tr Ob), v = .l h.next 0 (n + 1) (n + 1) ∧ (∀ g, cJ l1 g = some (.i .i64 (n : Int), g)) ∧
  old.length = n * 4 ∧ (∀ v ∈ old, v.one = true) ∧ k = ⟨h.next.succ, Tr.set (.row (.gr 4) (old ++ cs)) h.next t⟩ ∧ t.get q = h.bl.get q ∧ (∀ b, t.get b ≠ none → h.bl.get b ≠ none) ∧
  ∀ zs, jC q l1 zs h = some (v, ⟨h.next.succ, Tr.set (.row (.gr 4) (old ++ zs)) h.next t⟩) := by
 unfold jC at e
 split at e <;> (try (cases e; done))
 ·simp only [bG, bQ] at e
  obtain ⟨rfl, rfl⟩ := e
  exact ⟨0, [], h.bl, rfl, fun g => rfl, rfl, by simp, rfl, rfl, fun b hb => hb, fun zs => rfl⟩
 ·rename_i b o len cap
  cases hc : (Nat.ble cap len && !(lB b q)) with
  | false => rw [hc] at e; cases e
  | true =>
   rw [hc] at e
   simp only [cnd] at e
   split at e <;> (try (cases e; done))
   rename_i es l old hb hold
   split at e <;> (try (cases e; done))
   rename_i hr
   simp only [bG, bQ] at e
   obtain ⟨rfl, rfl⟩ := e
   have hq : q ≠ b := by
    simp only [Bool.and_eq_true, Bool.not_eq_true'] at hc
    exact Ne.symm (aUv hc.2)
   have hl : old.length = len * 4 ∧ ∀ v ∈ old, v.one = true := by
    unfold cellsAt at hold
    split at hold <;> (try (cases hold; done))
    obtain ⟨h1, _, _, h4⟩ := lE _ _ _ hold
    exact ⟨h1, h4⟩
   refine ⟨len, old, Tr.set (.row .sp (bT o l)) b h.bl, rfl, fun g => rfl, hl.1, hl.2, rfl, dUl _ _ _ _ hq, fun x hx => ?_, fun zs => ?_⟩
   ·by_cases e : x = b
    ·rw [e, hb]; simp
    ·rwa [dUl _ _ _ _ e] at hx
   ·unfold jC
    dsimp only
    rw [hc]
    simp only [cnd, hb, hold, if_pos hr]
theorem aVi {q : Pos} {l1 x v : DV} {cs : List DV} {h h' k : Hp} (S : Sim true h h') (hx : sI 4 x h' = some (1, cs)) (e : jC q l1 cs h = some (v, k)) : ∃ k', bB 4 56 l1 x h' = some (v, k') ∧ Sim true k k' := by
 unfold jC at e
 split at e <;> (try (cases e; done))
 ·simp only [bG, bQ] at e
  obtain ⟨rfl, rfl⟩ := e
  refine ⟨⟨h'.next.succ, Tr.set (.row (.gr 4) cs) h'.next h'.bl⟩, ?_, ?_⟩
  ·unfold bB
   rw [hx]
   dsimp only
   rw [if_neg (by simp), if_pos (by decide), S.next]
  ·rw [S.next]; exact S.setR _ _ _ _
 ·rename_i b o len cap
  cases hc : (Nat.ble cap len && !(lB b q)) with
  | false => rw [hc] at e; cases e
  | true =>
   rw [hc] at e
   simp only [cnd] at e
   split at e <;> (try (cases e; done))
   rename_i es l old hb hold
   split at e <;> (try (cases e; done))
   rename_i hr
   simp only [bG, bQ] at e
   obtain ⟨rfl, rfl⟩ := e
   have hle : cap ≤ len := by
    simp only [Bool.and_eq_true] at hc
    exact Nat.le_of_ble_eq_true hc.1
   refine ⟨⟨h'.next.succ, Tr.set (.row (.gr 4) (old ++ cs)) h'.next (Tr.set (.row .sp (bT o l)) b h'.bl)⟩, ?_, ?_⟩
   ·unfold bB
    rw [hx]
    dsimp only
    rw [if_neg (by omega), S.row hb, S.cellsAt hold]
    dsimp only
    rw [if_pos hr.2.2, if_pos ⟨hr.1, hr.2.1⟩, S.next]
   ·rw [S.next]
    exact (S.setR .sp (bT o l) b h.next).setR _ _ _ _
theorem bBt : ∀ (old zs cs : List DV), zs.length = cs.length → (∀ v ∈ zs, v.one = true) → (∀ v ∈ cs, v.one = true) → gH old.length (old ++ zs) cs = some (old ++ cs)
 | [], zs, cs, hl, hz, hc => by
  show kZ zs cs = some cs
  induction cs generalizing zs with
  | nil => cases zs with
   | nil => rfl
   | cons z zs => simp at hl
  | cons c cs ih => cases zs with
   | nil => simp at hl
   | cons z zs =>
    simp only [kZ, hz z (by simp), hc c (by simp), Bool.and_self, if_true]
    rw [ih zs (by simpa using hl) (fun v hv => hz v (by simp [hv])) (fun v hv => hc v (by simp [hv]))]
    rfl
 | x :: old, zs, cs, hl, hz, hc => by
  show (gH old.length (old ++ zs) cs).map (x :: ·) = _
  rw [bBt old zs cs hl hz hc]
  rfl
end Go.Dd

namespace Go.Dd
open Go.Proofs
theorem bDw : (Tryz.prog.funcs.toList.all fun fn => !(fn.name == "runtime.NumGoroutine")) = true := by kernel_rfl
theorem Try_ok : POk Tryz.prog where
 mixed := by kernel_rfl
 names := by
  intro f fn hf
  have h := List.all_eq_true.1 bDw fn (by
   obtain ⟨hlt, rfl⟩ := Array.getElem?_eq_some_iff.1 hf
   simp)
  simpa using h
theorem KC0 : OkC CF0 (fnD CF0 60) := ⟨fun G g F h => (by cases h), fun G g => bWd (C := CF0) Try_ok (fun G g F h => (by cases h)) 60 G g⟩
theorem dAh (e : aW) (h : Hp) : aP CF0 Tryz.f159 e h = some (e 4, h) := by kernel_rfl
theorem dLg : Tryz.f159.ntmps = 49 := by kernel_rfl
theorem dNk : Tryz.prog.funcs[159]? = some Tryz.f159 := by kernel_rfl
theorem cJa : Tryz.f159.body = some (cf Tryz.f159) := by kernel_rfl
theorem dGb : fE CF0.P (fT (cR (cR (cR (cL (cR (cL (cR (cR (cf Tryz.f159)))))))))) = true := by kernel_rfl
theorem bAz {X : Nat → aW → Hp → Prop} {N : aW → Hp → Prop} {env : aW} {v : DV} {h h1 : Hp} (he : env 5 = v) (S : Sim true h1 h) :
  qO CF0 (fnD CF0 60) 49 (.seq (.region 8 (fT (cL (cR (cR (cR (cf Tryz.f159)))))) false) .ret) X (fun env h' => ∃ h2, aP CF0 Tryz.f159 env h' = some (v, h2) ∧ Le h2 h1) N env h := by
 refine wpS (aQv ?_)
 rw [rg8]
 refine rT fun _ => ?_
 exact ⟨h, (dAh _ _).trans (by rw [show (bN (bN env (some 48) (env 5)) (some 4) (env 5)) 4 = env 5 from rfl, he]), fun G ρ w H => H.sub S⟩
theorem wV {F : Hp → aI} (hF : PureP F) {h g : Hp} {v : DV} (e : F h = some (v, g)) : g = h ∧ ∀ h', F h' = some (v, h') := hF h v g e
theorem rB {h g : Hp} {c : Pos} {o : Nat} {v : DV} (e : aA (.p c o) h = some (v, g)) : g = h ∧ ∃ u, h.bl.get c = some u := by
 change (match cellD c o h with
  | some v => some (v, h)
  | none => none) = _ at e
 split at e <;> (try (cases e; done))
 rename_i u hu
 simp only [bG, bQ] at e
 refine ⟨e.2.symm, ?_⟩
 unfold cellD rowOf at hu
 cases hc : h.bl.get c with
 | none => rw [hc] at hu; cases hu
 | some u => exact ⟨u, rfl⟩
theorem qQ {h g : Hp} {c : Pos} {o n : Nat} {v : DV} (e : aK n (.p c o) h = some (v, g)) : g = h ∧ (∃ u, h.bl.get c = some u) ∧ ∃ cs, v = .a cs ∧ cs.length = n ∧ ∀ x ∈ cs, x.one = true := by
 change (match cellsAt c o n h with
  | some cs => some (DV.a cs, h)
  | none => none) = _ at e
 split at e <;> (try (cases e; done))
 rename_i u hu
 simp only [bG, bQ] at e
 refine ⟨e.2.symm, ?_⟩
 unfold cellsAt rowOf at hu
 cases hc : h.bl.get c with
 | none => rw [hc] at hu; cases hu
 | some ob =>
  refine ⟨⟨ob, rfl⟩, u, e.1.symm, ?_⟩
  rw [hc] at hu
  split at hu <;> (try (cases hu; done))
  obtain ⟨h1, _, _, h4⟩ := lE _ _ _ hu
  exact ⟨h1, h4⟩
theorem Sim.of_get {h h' : Hp} (e : h'.next = h.next) (g : ∀ b o, h.bl.get b = some o → h'.bl.get b = some o) : Sim true h h' := ⟨e, fun b o hb => ⟨o, g b o hb, jJ o⟩⟩
theorem bXh (c : Pos) (h : Hp) : aO (.p c 0) h = some (.p c 0, h) := rfl
theorem dAm (c : Pos) (h : Hp) : aC 0 (.p c 0) h = some (.p c 0, h) := rfl
theorem dFc (c : Pos) (h : Hp) : aC 4 (.p c 0) h = some (.p c 4, h) := rfl
theorem aLt (env : aW) (i : Nat) (v : DV) (j : Nat) (h : Nat.beq j i = false) : bN env (some i) v j = env j := by
 show (bif Nat.beq j i then v else env j) = _
 rw [h]; rfl
theorem bOe (env : aW) (i : Nat) (v : DV) : bN env (some i) v i = v := by
 show (bif Nat.beq i i then v else env i) = _
 rw [Nat.beq_refl]; rfl
theorem yG : ∀ cs : List DV, (∀ v ∈ cs, v.one = true) → kG cs.length cs = some cs
 | [], _ => rfl
 | c :: cs, h => by
  show (if c.one then (kG cs.length cs).map (c :: ·) else none) = _
  rw [if_pos (h c (by simp)), yG cs fun v hv => h v (by simp [hv])]
  rfl
theorem aVh {cs : List DV} (h4 : cs.length = 4) (ho : ∀ v ∈ cs, v.one = true) (p n : Pos) (t : Tr Ob) : sI 4 (.l p 0 1 1) ⟨n, Tr.set (.row .ex cs) p t⟩ = some (1, cs) := by
 have e : cellsAt p 0 (1 * 4) ⟨n, Tr.set (.row .ex cs) p t⟩ = some cs := by
  unfold cellsAt rowOf
  simp only [dUm, List.drop_zero]
  rw [show 1 * 4 = cs.length by rw [h4]]
  exact yG cs ho
 simp only [sI, e]
theorem bWx {h h' : Hp} {n o : Nat} {q : Pos} {v : DV} (hg : h'.bl.get q = h.bl.get q) (e : aK n (.p q o) h = some (v, h)) : aK n (.p q o) h' = some (v, h') := by
 have e1 : cellsAt q o n h' = cellsAt q o n h := by
  unfold cellsAt rowOf
  rw [hg]
 change (match cellsAt q o n h with
  | some cs => some (DV.a cs, h)
  | none => none) = _ at e
 show (match cellsAt q o n h' with
  | some cs => some (DV.a cs, h')
  | none => none) = _
 rw [e1]
 split at e <;> (try (cases e; done))
 simp only [bG, bQ] at e
 rw [e.1]
structure Way (g3 h5 : Hp) (c q : Pos) (l1 l2 n u : DV) (cs : List DV) (k3 k4 : Hp) (env : aW) : Prop where
 fr : nD g3
 af : After g3 h5
 hl : aA (.p c 4) g3 = some (l1, g3)
 hx : aK 4 (.p q 0) g3 = some (.a cs, g3)
 ne : c ≠ q
 hn : cJ l1 g3 = some (n, g3)
 ap : jC q l1 cs ⟨g3.next.succ.succ, g3.bl⟩ = some (l2, k3)
 st : aH 1 (.p c 4) l2 k3 = some (u, k4)
 e0 : env 0 = .p c 0
 e3 : env 3 = .p q 0
 e5 : env 5 = n
section
theorem Way.up {g3 h5 : Hp} {c q : Pos} {l1 l2 n u : DV} {cs : List DV} {k3 k4 : Hp} {env : aW} (W : Way g3 h5 c q l1 l2 n u cs k3 k4 env) : ∀ b o, g3.bl.get b = some o → h5.bl.get b = some o := fun b o hb => by
 rw [W.af.get b (fun e => ?_)]
 ·exact hb
 ·subst e; exact Nat.lt_irrefl _ (W.fr _ _ hb)
theorem Way.c5 {g3 h5 : Hp} {c q : Pos} {l1 l2 n u : DV} {cs : List DV} {k3 k4 : Hp} {env : aW} (W : Way g3 h5 c q l1 l2 n u cs k3 k4 env) (n' : Pos) : aA (.p c 4) ⟨n', h5.bl⟩ = some (l1, ⟨n', h5.bl⟩) := bWb W.up W.hl
theorem Way.q5 {g3 h5 : Hp} {c q : Pos} {l1 l2 n u : DV} {cs : List DV} {k3 k4 : Hp} {env : aW} (W : Way g3 h5 c q l1 l2 n u cs k3 k4 env) (n' : Pos) : aK 4 (.p q 0) ⟨n', h5.bl⟩ = some (.a cs, ⟨n', h5.bl⟩) := bYb W.up W.hx
theorem Way.len {g3 h5 : Hp} {c q : Pos} {l1 l2 n u : DV} {cs : List DV} {k3 k4 : Hp} {env : aW} (W : Way g3 h5 c q l1 l2 n u cs k3 k4 env) (h : Hp) : cJ l1 h = some (n, h) := (wV (lZ l1) W.hn).2 h
theorem Way.base {g3 h5 : Hp} {c q : Pos} {l1 l2 n u : DV} {cs : List DV} {k3 k4 : Hp} {env : aW} (W : Way g3 h5 c q l1 l2 n u cs k3 k4 env) (o : Ob) : Sim true ⟨g3.next.succ.succ, g3.bl⟩ ⟨h5.next.succ, Tr.set o h5.next h5.bl⟩ := Sim.of_get (by rw [W.af.next]) fun b ob hb => by
 show (Tr.set o h5.next h5.bl).get b = _
 rw [dUl, W.up b ob hb]
 intro e
 have h1 := W.fr b ob hb
 have s1 := dUo g3.next
 rw [e, W.af.next] at h1
 omega
theorem Way.app {g3 h5 : Hp} {c q : Pos} {l1 l2 n u : DV} {cs : List DV} {k3 k4 : Hp} {env : aW} (W : Way g3 h5 c q l1 l2 n u cs k3 k4 env) {hh : Hp} (S : Sim true ⟨g3.next.succ.succ, g3.bl⟩ hh) {y : DV} (hy : sI 4 y hh = some (1, cs)) : ∃ k', bB 4 56 l1 y hh = some (l2, k') ∧ ∃ k'', aH 1 (.p c 4) l2 k' = some (u, k'') ∧ Sim true k4 k'' := by
 obtain ⟨k', h1, h2⟩ := aVi S hy W.ap
 obtain ⟨k'', h3, h4⟩ := kS 1 _ _ _ _ h2 _ _ W.st
 exact ⟨k', h1, k'', h3, h4⟩
theorem Way.one {g3 h5 : Hp} {c q : Pos} {l1 l2 n u : DV} {cs : List DV} {k3 k4 : Hp} {env : aW} (W : Way g3 h5 c q l1 l2 n u cs k3 k4 env) : cs.length = 4 ∧ ∀ v ∈ cs, v.one = true := by
 obtain ⟨_, _, cs', e, h1, h2⟩ := qQ W.hx
 cases e
 exact ⟨h1, h2⟩
theorem Way.B {g3 h5 : Hp} {c q : Pos} {l1 l2 n u : DV} {cs : List DV} {k3 k4 : Hp} {env : aW} (W : Way g3 h5 c q l1 l2 n u cs k3 k4 env) {X : Nat → aW → Hp → Prop} {R N : aW → Hp → Prop} (hN : ∀ env' h', env' 5 = n → Sim true k4 h' → N env' h') : qO CF0 (fnD CF0 60) 49 (.region 7 (fT (cR (cR (cR (cL (cR (cL (cR (cR (cf Tryz.f159)))))))))) true) X R N env h5 := by
 obtain ⟨k', h1, k'', h2, h3⟩ := W.app (W.base (.row .ex cs)) (aVh W.one.1 W.one.2 h5.next h5.next.succ h5.bl)
 have fl : bL (bW 0 h5.next) [(.i .i64 (Int.ofNat 0)), (.s []), (.i .i64 (Int.ofNat 0)), .l0] 1 [(0, 4, .a cs)] ⟨h5.next.succ, h5.bl⟩ = some (.l h5.next 0 1 1, ⟨h5.next.succ, Tr.set (.row .ex cs) h5.next h5.bl⟩) := by
  simp only [bL, iQ, cY, W.one.1]
  simp [bW]
 refine dPf dGb ?_
 rw [rg7]
 simp only [W.e0, W.e3, bXh, aN, dAm, dFc, show resv 1 h5 = ⟨h5.next.succ, h5.bl⟩ from rfl, W.c5, W.q5, fl, h1, h2]
 refine rT fun _ => hN _ _ ?_ h3
 simp only [aLt, Nat.beq]
 exact W.e5
theorem Way.A {g3 h5 : Hp} {c q : Pos} {l1 l2 n u : DV} {cs : List DV} {k3 k4 : Hp} {env : aW} (W : Way g3 h5 c q l1 l2 n u cs k3 k4 env) {X : Nat → aW → Hp → Prop} {R N : aW → Hp → Prop} (hN : ∀ env' h', env' 5 = n → Sim true k4 h' → N env' h') : qO CF0 (fnD CF0 60) 49 (.seq (.region 5 (fT (cL (cL (cR (cR (cL (cR (cL (cR (cR (cf Tryz.f159))))))))))) false)
  (.region 6 (fT (cR (cL (cR (cR (cL (cR (cL (cR (cR (cf Tryz.f159))))))))))) false)) X R N env h5 := by
 obtain ⟨m, old, t, hl2, hm, hol, hoo, hk3, htq, htd, hz⟩ := bMd W.ap
 have hzz := hz [.i .i64 (Int.ofNat 0), .s [], .i .i64 (Int.ofNat 0), .l0]
 have hn : n = .i .i64 (m : Int) := by
  have e1 := W.len g3
  rw [hm] at e1
  simp only [bG, bQ, and_true] at e1
  exact e1.symm
 dsimp only at hl2 hk3 htq htd hzz
 obtain ⟨_, uc, huc⟩ := rB W.hl
 have hcs : c ≠ g3.next.succ.succ := fun e => by
  have h1 := W.fr _ _ huc
  have s1 := dUo g3.next
  have s2 := dUo g3.next.succ
  rw [e] at h1
  omega
 obtain ⟨_, ⟨uq, huq⟩, _⟩ := qQ W.hx
 have hqs : q ≠ g3.next.succ.succ := fun e => by
  have h1 := W.fr _ _ huq
  have s1 := dUo g3.next
  have s2 := dUo g3.next.succ
  rw [e] at h1
  omega
 have hst := W.st
 rw [hk3] at hst
 have hst2 : ∃ kd l l', t.get c = some (.row kd l) ∧ k4 = ⟨g3.next.succ.succ.succ, Tr.set (.row kd l') c (Tr.set (.row (.gr 4) (old ++ cs)) g3.next.succ.succ t)⟩ ∧
   ∀ zs, aH 1 (.p c 4) l2 ⟨g3.next.succ.succ.succ, Tr.set (.row (.gr 4) zs) g3.next.succ.succ t⟩ = some (u, ⟨g3.next.succ.succ.succ, Tr.set (.row kd l') c (Tr.set (.row (.gr 4) zs) g3.next.succ.succ t)⟩) := by
  rw [hl2] at hst ⊢
  simp only [aH, cY, List.length_singleton, if_true, cX, dUl _ _ _ _ hcs] at hst ⊢
  cases htc : t.get c with
  | none => rw [htc] at hst; cases hst
  | some o =>
   rw [htc] at hst
   cases o with
   | row kd l =>
    dsimp only at hst ⊢
    cases hw : kd.writable with
    | false => rw [hw] at hst; cases hst
    | true =>
     rw [hw, if_pos rfl] at hst
     cases hp : gH 4 l [.l g3.next.succ.succ 0 (m + 1) (m + 1)] with
     | none => rw [hp] at hst; cases hst
     | some l' =>
      rw [hp] at hst
      simp only [bG, bQ] at hst
      exact ⟨kd, l, l', rfl, hst.2.symm, fun zs => by simp only [hw, if_true, hp, hst.1]⟩
   | it s p => cases hst
   | mp es => cases hst
   | big n t => cases hst
   | mi t => cases hst
 obtain ⟨kd, l, l', htc, hk4, hstz⟩ := hst2
 obtain ⟨k6, h6, S6⟩ := aVi (W.base (.row .ex [.i .i64 (Int.ofNat 0), .s [], .i .i64 (Int.ofNat 0), .l0])) (aVh rfl (by simp [DV.one]) h5.next h5.next.succ h5.bl) hzz
 obtain ⟨k7, h7, S7⟩ := kS 1 _ _ _ _ S6 _ _ (hstz _)
 have hqz := bWx (h' := ⟨g3.next.succ.succ.succ, Tr.set (.row kd l') c (Tr.set (.row (.gr 4) (old ++ [.i .i64 (Int.ofNat 0), .s [], .i .i64 (Int.ofNat 0), .l0])) g3.next.succ.succ t)⟩) (by
  show (Tr.set _ c (Tr.set _ _ t)).get q = _
  rw [dUl _ _ _ _ (Ne.symm W.ne), dUl _ _ _ _ hqs, htq]) W.hx
 obtain ⟨k8, h8, S8⟩ := kM 4 _ _ _ S7 _ _ hqz
 have hfin : aH 4 (.p g3.next.succ.succ (0 + m * 4)) (.a cs) ⟨g3.next.succ.succ.succ, Tr.set (.row kd l') c (Tr.set (.row (.gr 4) (old ++ [.i .i64 (Int.ofNat 0), .s [], .i .i64 (Int.ofNat 0), .l0])) g3.next.succ.succ t)⟩ =
   some (aV, ⟨g3.next.succ.succ.succ, Tr.set (.row (.gr 4) (old ++ cs)) g3.next.succ.succ (Tr.set (.row kd l') c (Tr.set (.row (.gr 4) (old ++ [.i .i64 (Int.ofNat 0), .s [], .i .i64 (Int.ofNat 0), .l0])) g3.next.succ.succ t))⟩) := by
  have hp := bBt old [.i .i64 (Int.ofNat 0), .s [], .i .i64 (Int.ofNat 0), .l0] cs (by rw [W.one.1]; rfl) (by simp [DV.one]) W.one.2
  simp only [aH, cY, W.one.1, if_true, cX, dUl _ _ _ _ (Ne.symm hcs), dUm, Kind.writable, Nat.zero_add, ← hol, hp]
 obtain ⟨k9, h9, S9⟩ := kS 4 _ _ _ _ S8 _ _ hfin
 have S10 : Sim true k4 k9 := by
  refine Sim.trans ?_ S9
  rw [hk4]
  refine Sim.of_get rfl fun b o hb => ?_
  change (Tr.set (.row kd l') c (Tr.set _ g3.next.succ.succ t)).get b = some o at hb
  show (Tr.set _ g3.next.succ.succ (Tr.set (.row kd l') c (Tr.set _ g3.next.succ.succ t))).get b = some o
  by_cases e1 : b = g3.next.succ.succ
  ·rw [e1] at hb ⊢
   rw [dUl _ _ _ _ (Ne.symm hcs), dUm] at hb
   rw [dUm, hb]
  ·rw [dUl _ _ _ _ e1]
   by_cases e2 : b = c
   ·rw [e2] at hb ⊢
    rw [dUm] at hb ⊢
    exact hb
   ·rw [dUl _ _ _ _ e2, dUl _ _ _ _ e1] at hb ⊢
    exact hb
 have fl : aL [(.i .i64 (Int.ofNat 0)), (.s []), (.i .i64 (Int.ofNat 0)), .l0] 1 [(0, 4, (.a [(.i .i64 (Int.ofNat 0)), (.s []), (.i .i64 (Int.ofNat 0)), .l0]))] h5 = some (.l h5.next 0 1 1, ⟨h5.next.succ, Tr.set (.row .ex [.i .i64 (Int.ofNat 0), .s [], .i .i64 (Int.ofNat 0), .l0]) h5.next h5.bl⟩) := by
  simp [aL, iQ, cY]
 refine wpS (aQv ?_)
 rw [rg5]
 have c5 : aA (.p c 4) h5 = some (l1, h5) := W.c5 h5.next
 have ix : aJ 4 l2 n k8 = some (.p g3.next.succ.succ (0 + m * 4), k8) := by
  rw [hl2, hn]
  show (if (0 : Int) ≤ (m : Int) ∧ (m : Int) < ((m + 1 : Nat) : Int) then some (DV.p g3.next.succ.succ (0 + (m : Int).toNat * 4), k8) else none) = _
  rw [if_pos (by omega)]
  simp
 simp only [W.e0, W.e3, bXh, aN, dAm, dFc, c5, W.len, fl, h6, h7]
 refine rT fun _ => aQv ?_
 rw [rg6]
 simp only [aLt, bOe, Nat.beq, W.e3, h8, aN, ix, h9]
 refine rT fun _ => hN _ _ ?_ S10
 simp only [aLt, Nat.beq]
 exact W.e5
end
theorem cAv {h h1 : Hp} {c q : Pos} {v : DV} (hr : qM c q h = some (v, h1)) (hf : nD h) {env : aW} (e0 : env 0 = .p c 0) (e3 : env 3 = .p q 0)
  {X : Nat → aW → Hp → Prop} {R N : aW → Hp → Prop} (hN : ∀ env' h', env' 5 = v → Sim true h1 h' → N env' h') :
  qO CF0 (fnD CF0 60) 49 (.seq (.region 3 (fT (cL (cL (cR (cL (cR (cR (cf Tryz.f159)))))))) false) (.seq (.region 4 R4 true) (.cond (.tmp 22)
   (.seq (.region 5 (fT (cL (cL (cR (cR (cL (cR (cL (cR (cR (cf Tryz.f159))))))))))) false) (.region 6 (fT (cR (cL (cR (cR (cL (cR (cL (cR (cR (cf Tryz.f159))))))))))) false))
   (.region 7 (fT (cR (cR (cR (cL (cR (cL (cR (cR (cf Tryz.f159)))))))))) true)))) X R N env h := by
 unfold qM at hr
 obtain ⟨l1, g1, hl1, hr⟩ := dK hr
 obtain ⟨n, g2, hn, hr⟩ := dK hr
 obtain ⟨x, g3, hx, hr⟩ := dK hr
 obtain ⟨rfl, uc, huc⟩ := rB hl1
 have hn0 := hn
 obtain ⟨rfl, hn⟩ := wV (lZ l1) hn
 obtain ⟨rfl, ⟨uq, huq⟩, cs, rfl, hcl, hco⟩ := qQ hx
 dsimp only at hr
 cases hcq : lB c q with
 | true => rw [hcq] at hr; cases hr
 | false =>
 rw [hcq] at hr
 have hcq' : c ≠ q := aUv hcq
 simp only [cnd, Bool.not_false] at hr
 obtain ⟨l2, k3, ha, hr⟩ := dK hr
 obtain ⟨u, k4, hs, hr⟩ := dK hr
 simp only [bG, bQ] at hr
 obtain ⟨rfl, rfl⟩ := hr
 refine wpS (aQv ?_)
 rw [rg3]
 rw [show aO (env 0) g3 = some (.p c 0, g3) from by rw [e0]; rfl]
 show ∃ r, bnd (aA (.p c 4) g3) _ = some r
 rw [hl1]
 show ∃ r, bnd (cJ l1 g3) _ = some r
 rw [hn0, aN]
 refine rT fun _ => ?_
 refine wpS (dQz (dTd fun x h5 A F5 => ?_))
 have W : Way g3 h5 c q l1 l2 n u cs k3 k4 (bN (bN (bN (bN (bN (bN (bN (bN (bN env (some 15) (env 0)) (some 16) (DV.p c 0)) (some 17) (DV.p c (0 + 0))) (some 18) (DV.p c (0 + 0 + 4))) (some 19) l1) (some 20) n) (some 5) n) (some 21) (DV.p g3.next 0)) (some 22) (DV.b x)) :=
  ⟨hf, A, hl1, hx, hcq', hn0, ha, hs, e0, e3, rfl⟩
 refine wpC (t := x) rfl ⟨fun _ => ?_, fun _ => ?_⟩
 ·exact W.A hN
 ·exact W.B hN
theorem bEd (c : Pos) (lit : List DV) (h : Hp) : bX (aG [.p c 0, .a lit] 1) h = some (.p h.next 0, ⟨h.next.succ, Tr.set (.row .ex lit) h.next h.bl⟩) := rfl
theorem cTw (G : Gd) : mL Tryz.prog G 159 lL := by
 refine cXm (C := CF0) (rec := fnD CF0 60) KC0 Try_ok dNk cJa fun args h v h1 hr hf => ?_
 unfold lL at hr
 split at hr <;> (try (cases hr; done))
 rename_i c lit
 obtain ⟨vb, hb, h0, hr⟩ := dK hr
 simp only [bR, bG, bQ] at h0
 obtain ⟨rfl, rfl⟩ := h0
 obtain ⟨ls, h2, hl, hr⟩ := dK hr
 obtain ⟨rfl, _⟩ := rB hl
 obtain ⟨i, h3, hi, hr⟩ := dK hr
 obtain ⟨tt, h4, ht, hif⟩ := dK hr
 clear hr
 obtain ⟨rfl, hlt⟩ := wV (xV _ _ _) ht
 rw [dGw, dLg]
 refine wpS (aQv ?_)
 rw [rg0, bEd, aN]
 refine rT fun _ => ?_
 refine wpS (aQv ?_)
 rw [rg1]
 simp only [aLt, bOe, Nat.beq, show aG [.p c 0, .a lit] 0 = .p c 0 from rfl, bXh, aN, dAm, dFc, hl, hi]
 refine rT fun F4 => ?_
 refine wpS (wpS (aQv ?_))
 rw [rg2]
 simp only [aLt, bOe, Nat.beq, ht, aN]
 refine rT fun _ => ?_
 unfold aT at hif
 split at hif <;> (try (cases hif; done))
 ·refine wpC (t := true) rfl ⟨fun _ => ?_, fun e => (by cases e)⟩
  refine cAv hif F4 ?_ ?_ ?_
  ·rfl
  ·rfl
  ·intro env' h' e5 S
   exact bAz e5 S
 ·simp only [bG, bQ] at hif
  obtain ⟨rfl, rfl⟩ := hif
  refine wpC (t := false) rfl ⟨fun e => (by cases e), fun _ => ?_⟩
  exact bAz rfl (Sim.refl _)
end Go.Dd

namespace Go.Dd
open Go.Proofs Go.Lib Go.RowKit
theorem aKa (c : Nat) (hc : c < 256) : ∀ (l : List UInt8) (i : Nat), aLu c (l.map (·.toNat)) i = if indexByte l c.toUInt8 = -1 then -1 else indexByte l c.toUInt8 + i
 | [], i => rfl
 | b :: l, i => by
  have hb : Nat.beq b.toNat c = (b == c.toUInt8) := by
   rw [Bool.eq_iff_iff]
   constructor
   ·intro h
    have := Nat.eq_of_beq_eq_true h
    simp [← this]
   ·intro h
    have h2 : b = c.toUInt8 := by simpa using h
    rw [h2]
    have : (c.toUInt8).toNat = c := by simp [Nat.toUInt8]; omega
    rw [this]; simp
  show (bif Nat.beq b.toNat c then Int.ofNat i else aLu c (l.map (·.toNat)) (i + 1)) = _
  rw [hb]
  unfold indexByte
  cases h : (b == c.toUInt8) with
  | true => simp
  | false =>
   have ih := aKa c hc l (i + 1)
   have hge := indexByte_ge l c.toUInt8
   simp only [cond_false, Bool.false_eq_true, if_false]
   rw [ih]
   by_cases h1 : indexByte l c.toUInt8 = -1
   ·simp [h1]
   ·simp only [h1, if_false, beq_iff_eq]
    rw [if_neg (by omega)]
    omega
theorem dDu (G : Gd) : mL Tryz.prog G 176 lS := by
 intro args h v h1 hr ρ w args' H hargs
 unfold lS at hr
 split at hr <;> (try (cases hr; done))
 rename_i l c
 cases hc : Nat.blt c 256 with
 | false => rw [hc] at hr; cases hr
 | true =>
  rw [hc] at hr
  have hc' : c < 256 := by simpa using hc
  simp only [cond_true, bG, bQ] at hr
  obtain ⟨rfl, rfl⟩ := hr
  obtain ⟨a⟩ := args'
  cases hargs with
  | cons x x' l1 l1' hx hxs =>
  cases hxs with
  | cons y y' l2 l2' hy hys =>
  cases hys
  cases hx with
  | s l bs hbs =>
  cases hy with
  | i k n =>
  refine .inr ⟨ρ, w, .int .i64 (indexByte bs.data.toList c.toUInt8), ?_, Ex.refl _ _, ?_, H, Kp.refl _ _⟩
  ·rw [run_callFunc_extern (fn := Tryz.f176) (e := Extern.BytealgIndexByte.indexByte) (by kernel_rfl) (by kernel_rfl) (by kernel_rfl) (by kernel_rfl) (by kernel_rfl)]
   rw [run_indexByteString bs (Int.ofNat c) w]
   rfl
  ·have e := aKa c hc' bs.data.toList 0
   rw [hbs] at e
   have e2 : aLu c l 0 = indexByte bs.data.toList c.toUInt8 := by
    rw [e]
    split
    ·rename_i h; exact h.symm
    ·simp
   rw [e2]
   exact .i _ _
theorem sX (G : Gd) (g : FuncId) (F : List DV → Hp → aI) (h : CF1.I g = some F) : mL CF1.P G g F := by
 have e : CF1.I g = bif Nat.beq g 176 then some lS else bif Nat.beq g 159 then some lL else none := rfl
 rw [e] at h
 cases hg : Nat.beq g 176 with
 | true => rw [hg] at h; cases h; cases Nat.eq_of_beq_eq_true hg; exact dDu G
 | false =>
 rw [hg, cond_false] at h
 cases hg : Nat.beq g 159 with
 | true => rw [hg] at h; cases h; cases Nat.eq_of_beq_eq_true hg; exact cTw G
 | false => rw [hg] at h; cases h
theorem aEv : ∀ (n : Nat) (G : Gd) (f : FuncId), mL Tryz.prog G f (fS CF1 n f)
 | 0, G, f => fun args h v h1 hr => by cases hr
 | n + 1, G, f => oM (C := CF1) (rec := fS CF1 n) ⟨sX, fun G g => aEv n G g⟩ Try_ok n f
end Go.Dd

namespace Go.Dd
open Go.Proofs
noncomputable def aWv (args : List DV) : Bool := match args with
 | [] => true
 | _ => false
noncomputable def aNn : List DV → Hp → aI := xC aWv (.p (aU 7) 0) nxW HLW
noncomputable def vN (n : Nat) : RT := fun g args h => bif Nat.beq g 12 then aNn args h else cQ n g args h
theorem dBw : okB (s13 (vN 900) 900 hS) = true := by kernel_rfl
end Go.Dd

namespace Go.Dd
open Go.RowKit (Below)
theorem HR.later {G : Gd} {ρ : dB} {h : Hp} {w w' : World} (H : HR G ρ h w) (e : Below w.heap.size w w') : HR G ρ h w' where
 gl := fun k hk => (e.block k (Nat.lt_of_lt_of_le hk H.sz.1)).trans (H.gl k hk)
 sz := ⟨Nat.le_trans H.sz.1 e.size, fun k hk => Nat.lt_of_lt_of_le (H.sz.2 k hk) e.size⟩
 nx := H.nx
 ro := H.ro
 dom := H.dom
 lt := H.lt
 cell := fun b k l L i v h1 h2 h3 h4 => by
  obtain ⟨v', h5, h6⟩ := H.cell b k l L i v h1 h2 h3 h4
  exact ⟨v', by rw [e.cell (fI h5)]; exact h5, h6⟩
 spare := fun b l L es j h1 h2 h3 => by
  obtain ⟨v', h5⟩ := H.spare b l L es j h1 h2 h3
  exact ⟨v', by rw [e.cell (fI h5)]; exact h5⟩
 free := fun b a h1 h2 => by
  obtain ⟨v, hv⟩ := H.lt_cell h1
  rw [e.frozen (fI hv)]
  exact H.free b a h1 h2
 inj := H.inj
 ex := H.ex
 grone := H.grone
 itr := fun b o L h1 h2 h3 => by
  obtain ⟨a, b, x, c, d⟩ := H.itr b o L h1 h2 h3
  refine ⟨a, b, x, ?_, d⟩
  rw [e.block _ (Array.getElem?_eq_some_iff.1 c).1]
  exact c
 itj := H.itj
theorem Kp.later {G : Gd} {ρ : dB} {h : Hp} {w w' : World} (H : HR G ρ h w) (e : Below w.heap.size w w') : Kp G w w' :=
 ⟨e.mono H.sz.1, fun k hk => e.block k (H.sz.2 k hk)⟩
def kN (ρ ρ2 : dB) : dB := fun b => match ρ b with
 | some L => some L
 | none => ρ2 b
section
variable {G G2 : Gd} {ρ ρ2 : dB} {h g : Hp} {w w' : World} {J : Tr Ob}
theorem HR.join (H : HR G ρ h w) (hb : Below w.heap.size w w') (H2 : HR G2 ρ2 g w') (hG2 : G2.B = w.heap.size) (low : ∀ b L, ρ2 b = some L → h.next.toNat ≤ b.toNat)
  (hk : ∀ b o, g.bl.get b = some o → o.sg = true ∨ ∃ l, o = .row .ex l) (hn : h.next.toNat ≤ g.next.toNat)
  (hJ : ∀ b, J.get b = match h.bl.get b with
   | some o => some o
   | none => g.bl.get b) : HR G (kN ρ ρ2) ⟨g.next, J⟩ w' ∧ Ex G ρ (kN ρ ρ2) ∧ Ext ρ2 (kN ρ ρ2) := by
 have H' := H.later hb
 have e1 : Ext ρ (kN ρ ρ2) := fun b L hL => by unfold kN; rw [hL]
 have no : ∀ b, h.next.toNat ≤ b.toNat → ρ b = none := fun b hb => by
  cases e : ρ b with
  | none => rfl
  | some L => have := H.lt b L e; omega
 have e2 : Ext ρ2 (kN ρ ρ2) := fun b L hL => by unfold kN; rw [no b (low b L hL)]; exact hL
 have two : ∀ b o, J.get b = some o → (h.bl.get b = some o ∧ ∃ L, ρ b = some L ∧ kN ρ ρ2 b = some L) ∨ (g.bl.get b = some o ∧ ∃ L, ρ2 b = some L ∧ kN ρ ρ2 b = some L) := fun b o ho => by
  rw [hJ] at ho
  cases hh : h.bl.get b with
  | some o' =>
   rw [hh] at ho
   cases ho
   obtain ⟨L, hL⟩ := H.dom b _ hh
   exact .inl ⟨rfl, L, hL, e1 _ _ hL⟩
  | none =>
   rw [hh] at ho
   obtain ⟨L, hL⟩ := H2.dom b o ho
   exact .inr ⟨ho, L, hL, e2 _ _ hL⟩
 have cl : ∀ {b a}, Claims (kN ρ ρ2) ⟨g.next, J⟩ b a → (Claims ρ h b a ∧ ∀ l, J.get b = some (.row .ro l) → h.bl.get b = some (.row .ro l)) ∨ (Claims ρ2 g b a ∧ ¬ isRo g b ∧ ∀ l, J.get b ≠ some (.row .ro l)) := by
  rintro b a ⟨k, l, L, q1, q2, q3⟩
  change J.get b = some (.row k l) at q1
  rcases two b _ q1 with ⟨c1, L', c2, c3⟩ | ⟨c1, L', c2, c3⟩
  ·have c3' := c3.symm.trans q2
   cases c3'
   exact .inl ⟨⟨k, l, L, c1, c2, q3⟩, fun l' hl' => by rw [q1] at hl'; rw [c1]; exact hl'⟩
  ·have c3' := c3.symm.trans q2
   cases c3'
   refine .inr ⟨⟨k, l, L, c1, c2, q3⟩, ?_, ?_⟩
   ·rintro ⟨l', hl'⟩
    rw [c1] at hl'
    cases hl'
    rcases hk b _ c1 with hs | ⟨_, hs⟩ <;> cases hs
   ·intro l' hl'
    rw [q1] at hl'
    cases hl'
    rcases hk b _ c1 with hs | ⟨_, hs⟩ <;> cases hs
 have old : ∀ {b a}, Claims ρ h b a → a.block < w.heap.size := fun hc => by
  obtain ⟨v, hv⟩ := H.lt_cell hc
  exact fI hv
 have own2 : ∀ {k}, Own G2 k → Own G k ∧ w.heap.size ≤ k := fun {k} ho => by
  have h1 := ho.1
  rw [hG2] at h1
  exact ⟨⟨Nat.le_trans H.sz.1 h1, fun hX => by have := H.sz.2 k hX; omega⟩, h1⟩
 refine ⟨⟨H'.gl, H'.sz, Nat.le_trans H.nx hn, ?_, ?_, ?_, ?_, ?_, ?_, ?_, ?_, ?_, ?_, ?_⟩, ⟨e1, fun b L hL => ?_⟩, e2⟩
 ·rintro b a hc ⟨l, hl⟩
  rcases cl hc with ⟨c, hr⟩ | ⟨_, _, hr⟩
  ·exact H'.ro b a c ⟨l, hr l hl⟩
  ·exact absurd hl (hr l)
 ·intro b o ho
  rcases two b o ho with ⟨_, L, _, c⟩ | ⟨_, L, _, c⟩
  ·exact ⟨L, c⟩
  ·exact ⟨L, c⟩
 ·intro b L hL
  unfold kN at hL
  cases e : ρ b with
  | some L' => have := H.lt b L' e; show b.toNat < g.next.toNat; omega
  | none => rw [e] at hL; exact H2.lt b L hL
 ·intro b k l L i v ho hL hi hv
  rcases two b _ ho with ⟨c1, L', c2, c3⟩ | ⟨c1, L', c2, c3⟩
  ·have c3' := c3.symm.trans hL
   cases c3'
   obtain ⟨v', q1, q2⟩ := H'.cell b k l L i v c1 c2 hi hv
   exact ⟨v', q1, q2.mono e1⟩
  ·have c3' := c3.symm.trans hL
   cases c3'
   obtain ⟨v', q1, q2⟩ := H2.cell b k l L i v c1 c2 hi hv
   exact ⟨v', q1, q2.mono e2⟩
 ·intro b l L es j ho hL hj
  rcases two b _ ho with ⟨c1, L', c2, c3⟩ | ⟨c1, L', c2, c3⟩
  ·have c3' := c3.symm.trans hL
   cases c3'
   exact H'.spare b l L es j c1 c2 hj
  ·have c3' := c3.symm.trans hL
   cases c3'
   exact H2.spare b l L es j c1 c2 hj
 ·intro b a hc hr
  rcases cl hc with ⟨c, hro⟩ | ⟨c, hnr, _⟩
  ·refine H'.free b a c fun ⟨l, hl⟩ => hr ⟨l, ?_⟩
   show J.get b = _
   rw [hJ, hl]
  ·obtain ⟨q1, q2⟩ := H2.free b a c hnr
   exact ⟨q1, (own2 q2).1⟩
 ·intro b b' a hc hc' hr
  rcases cl hc with ⟨c, _⟩ | ⟨c, hnr, _⟩
  ·rcases cl hc' with ⟨c', _⟩ | ⟨c', hnr', _⟩
   ·refine H'.inj b b' a c c' fun ⟨l, hl⟩ => hr ⟨l, ?_⟩
    show J.get b = _
    rw [hJ, hl]
   ·have h1 := old c
    have h2 := (own2 (H2.free b' a c' hnr').2).2
    omega
  ·rcases cl hc' with ⟨c', _⟩ | ⟨c', hnr', _⟩
   ·have h1 := old c'
    have h2 := (own2 (H2.free b a c hnr).2).2
    omega
   ·exact H2.inj b b' a c c' hnr
 ·intro b l L ho hL
  have key : ∀ o, J.get b = some o → (o = .row .ro l ∨ o = .row .ex l) → L.sp = 0 := fun o ho' hor => by
   rcases two b o ho' with ⟨c1, L', c2, c3⟩ | ⟨c1, L', c2, c3⟩
   ·have c3' := c3.symm.trans hL
    cases c3'
    rcases hor with rfl | rfl
    ·exact H'.ex b l L (.inl c1) c2
    ·exact H'.ex b l L (.inr c1) c2
   ·have c3' := c3.symm.trans hL
    cases c3'
    rcases hor with rfl | rfl
    ·exact H2.ex b l L (.inl c1) c2
    ·exact H2.ex b l L (.inr c1) c2
  rcases ho with ho | ho
  ·exact key _ ho (.inl rfl)
  ·exact key _ ho (.inr rfl)
 ·intro b es l i v ho hi
  rcases two b _ ho with ⟨c1, _⟩ | ⟨c1, _⟩
  ·exact H'.grone b es l i v c1 hi
  ·exact H2.grone b es l i v c1 hi
 ·intro b o L h0 ho hL
  rcases two b o ho with ⟨c1, L', c2, c3⟩ | ⟨c1, L', c2, c3⟩
  ·have c3' := c3.symm.trans hL
   cases c3'
   obtain ⟨q1, q2, x, q3, q4⟩ := H'.itr b o L h0 c1 c2
   exact ⟨q1, q2, x, q3, q4.mono e1⟩
  ·have c3' := c3.symm.trans hL
   cases c3'
   obtain ⟨q1, q2, x, q3, q4⟩ := H2.itr b o L h0 c1 c2
   exact ⟨(own2 q1).1, q2, x, q3, q4.mono e2⟩
 ·intro b o b' o' L L' h0 h0' ho ho' hL hL' he
  have lo : ∀ {b o L}, o.sg = true → h.bl.get b = some o → ρ b = some L → L.bl < w.heap.size := fun {b o L} s1 s2 s3 => by
   obtain ⟨_, _, x, q, _⟩ := H.itr b o L s1 s2 s3
   exact (Array.getElem?_eq_some_iff.1 q).1
  rcases two b o ho with ⟨c1, K, c2, c3⟩ | ⟨c1, K, c2, c3⟩ <;> (have c3' := c3.symm.trans hL; cases c3') <;>
   rcases two b' o' ho' with ⟨d1, K', d2, d3⟩ | ⟨d1, K', d2, d3⟩ <;> (have d3' := d3.symm.trans hL'; cases d3')
  ·exact H'.itj b o b' o' L L' h0 h0' c1 d1 c2 d2 he
  ·have q1 := lo h0 c1 c2
   have q2 := (own2 (H2.itr b' o' L' h0' d1 d2).1).2
   omega
  ·have q1 := lo h0' d1 d2
   have q2 := (own2 (H2.itr b o L h0 c1 c2).1).2
   omega
  ·exact H2.itj b o b' o' L L' h0 h0' c1 d1 c2 d2 he
 ·unfold kN at hL
  cases e : ρ b with
  | some L' => rw [e] at hL; exact .inl hL
  | none =>
   rw [e] at hL
   exact .inr (Nat.le_trans H.nx (low b L hL))
end
end Go.Dd

namespace Go.Dd
open Go.Proofs Go.RowKit
def gdS (w : World) (N : Nat) : Gd := ⟨w.heap.size, fun _ => False, N, w.heap, fun _ _ => trivial⟩
theorem HR.empty (w : World) (N : Nat) (p : Pos) (hN : N ≤ p.toNat) : HR (gdS w N) (fun _ => none) ⟨p, .e⟩ w := by
 constructor
 ·exact fun _ _ => rfl
 ·exact ⟨Nat.le_refl _, fun _ h => h.elim⟩
 ·exact hN
 ·rintro b a ⟨k, l, L, _, h2, _⟩; cases h2
 ·intro b o h; cases b <;> cases h
 ·intro b L h; cases h
 ·intro b k l L i v h h2; cases h2
 ·intro b l L es j h h2; cases h2
 ·rintro b a ⟨k, l, L, _, h2, _⟩; cases h2
 ·rintro b b' a ⟨k, l, L, _, h2, _⟩; cases h2
 ·intro b l L h h2; cases h2
 ·intro b es l i v h; cases b <;> cases h
 ·intro b s pos L h h2; cases h2
 ·intro b s pos b' s' pos' L L' h h' h2; cases h2
theorem aKk {f : FuncId} {args : List DV} {F : List DV → Hp → aI} {v : DV} {g1 : Hp} (hF : ∀ G, mL Tryz.prog G f F) (hr : F args hS = some (v, g1)) (fn : Func) (hf : Tryz.prog.funcs[f]? = some fn) (hb : fn.body.isSome = true)
  (w : World) (args' : Array Value) (hargs : VRs (fun _ => none) args args'.toList) :
  Calls Tryz.prog f args' w fun e w' => ∃ ρ' v', e = .returned v' ∧ VR ρ' v v' ∧ HR (gdS w 1024) ρ' g1 w' ∧ Below w.heap.size w w' ∧ ∀ b L, ρ' b = some L → 1024 ≤ b.toNat := by
 have hp : (aU 1).toNat = 1024 := by kernel_rfl
 have H : HR (gdS w 1024) (fun _ => none) hS w := HR.empty w 1024 (aU 1) (by rw [hp]; exact Nat.le_refl _)
 rcases hF (gdS w 1024) args hS v g1 hr _ w args' H hargs with ⟨_, h⟩ | ⟨ρ', w', v', h, _⟩
 ·refine h.mono ?_
  rintro e w' ⟨ρ', v', h1, h2, h3, h4, h5⟩
  exact ⟨ρ', v', h1, h3, h4, h5.low, fun b L hL => (h2.new b L hL).resolve_left (fun e => by cases e)⟩
 ·exfalso
  have hn : ¬ fn.name = "runtime.NumGoroutine" := by simpa using Try_ok.names f fn hf
  have hbn : fn.body ≠ none := by intro e; rw [e] at hb; cases hb
  unfold callFunc at h
  simp [hf, hn, hbn] at h
theorem aKq {f : FuncId} {fn : Func} (hf : Tryz.prog.funcs[f]? = some fn) (hb : fn.body.isSome = true) (args : Array Value) (w : World) : (callFunc f args).run Tryz.prog w = .ok (.enter f args) w := by
 have hn : ¬ fn.name = "runtime.NumGoroutine" := by simpa using Try_ok.names f fn hf
 have hbn : fn.body ≠ none := by intro e; rw [e] at hb; cases hb
 unfold callFunc
 simp [hf, hn, hbn]
theorem bFo {f : FuncId} {F : List DV → Hp → aI} {r : Bool} {h1 : Hp} (hF : ∀ G, mL Tryz.prog G f F) (hr : F [] hS = some (.b r, h1)) (fn : Func) (hf : Tryz.prog.funcs[f]? = some fn) (hb : fn.body.isSome = true) (G : Gd) :
  mL Tryz.prog G f (fun args h => match args with
   | [] => some (.b r, h)
   | _ => none) := by
 intro args h v h2 he ρ w args' H hargs
 cases args with
 | cons _ _ => cases he
 | nil =>
  simp only [bG, bQ] at he
  obtain ⟨rfl, rfl⟩ := he
  have e0 : args' = #[] := by
   obtain ⟨a⟩ := args'
   cases hargs
   rfl
  subst e0
  refine .inl ⟨aKq hf hb _ _, ?_⟩
  refine (aKk hF hr fn hf hb w #[] .nil).mono ?_
  rintro e w' ⟨ρ', v', rfl, hv, _, hbel, _⟩
  cases hv
  exact ⟨ρ, _, rfl, Ex.refl _ _, .b _, H.later hbel, Kp.later H hbel⟩
theorem Sim.tf {a b c : Hp} (h : Sim true a b) (k : Sim false b c) : Sim false a c := ⟨k.next.trans h.next, fun p o hp => by
 obtain ⟨o', h1, h2⟩ := h.get p o hp
 rw [jV h2] at h1
 exact k.get p o h1⟩
theorem zR (o : Ob) : tB true o o := by cases o <;> simp [tB]
theorem dVl : Sim false hS hS := ⟨rfl, fun b o hb => by cases b <;> cases hb⟩
theorem aTi (g : FuncId) (F : List DV → Hp → aI) (hg : CF.I g = some F) (n : Nat) (args : List DV) : SimP false (F args) (bP CF1 (fS CF1 (n + 12)) g args) := by
 change (bif Nat.beq g 176 then some lS else bif Nat.beq g 159 then some lL else zQ g) = some F at hg
 have hcall : bP CF1 (fS CF1 (n + 12)) g args = fun h => match (bif Nat.beq g 176 then some lS else bif Nat.beq g 159 then some lL else none : Option (List DV → Hp → aI)) with
  | some F => F args h
  | none => fS CF1 (n + 12) g args h := rfl
 rw [hcall]
 cases h1 : Nat.beq g 176 with
 | true => rw [h1] at hg; cases hg; exact aCf args
 | false =>
  cases h2 : Nat.beq g 159 with
  | true => rw [h1, h2] at hg; cases hg; exact aDw args
  | false =>
   rw [h1, h2] at hg
   exact aLp g F hg n args
theorem yI {g : FuncId} (hg : CF.I g = none) : CF1.I g = none := by
 show (bif Nat.beq g 176 then some lS else bif Nat.beq g 159 then some lL else none) = none
 change (bif Nat.beq g 176 then some lS else bif Nat.beq g 159 then some lL else zQ g) = none at hg
 cases h1 : Nat.beq g 176 with
 | true => rw [h1] at hg; cases hg
 | false =>
  cases h2 : Nat.beq g 159 with
  | true => rw [h1, h2] at hg; cases hg
  | false => rfl
theorem aPn : ∃ g', fS CF1 912 40 [.i .i64 (.ofNat 30000)] hS = some (.t [.p (aU 7) 0, .i .i64 (.ofNat 0)], g') ∧ Sim false hN g' := by
 obtain ⟨g, h1, h2⟩ := dFa
 rw [vM] at h1
 obtain ⟨g', h3, h4⟩ := aRm 900 40 [.i .i64 (.ofNat 30000)] hS hS dVl _ _ h1
 exact ⟨g', h3, h2.tf h4⟩
section known
variable {g1 : Hp} {HL : List (Pos × Ob)} {nx0 : Nat}
noncomputable def exL (g1 : Hp) (l : List (Pos × Ob)) : List (Pos × Ob) := l.map fun x => (x.1, (g1.bl.get x.1).getD x.2)
theorem aLa (l : List (Pos × Ob)) (t : Tr Ob) (b : Pos) : (eS l t).get b = match (eS l .e).get b with
  | some o => some o
  | none => t.get b := by
 induction l with
 | nil => rw [show eS [] t = t from rfl, show eS [] .e = .e from rfl, Tr.get_e]
 | cons x l ih =>
  show (Tr.set x.2 x.1 (eS l t)).get b = match (Tr.set x.2 x.1 (eS l .e)).get b with
   | some o => some o
   | none => t.get b
  by_cases e : b = x.1
  ·rw [e, dUm, dUm]
  ·rw [dUl _ _ _ _ e, dUl _ _ _ _ e]
   exact ih
theorem bRm (l : List (Pos × Ob)) (b : Pos) (o : Ob) (h : (eS l .e).get b = some o) : (b, o) ∈ l := by
 induction l with
 | nil => rw [show eS [] .e = .e from rfl, Tr.get_e] at h; cases h
 | cons x l ih =>
  change (Tr.set x.2 x.1 (eS l .e)).get b = some o at h
  by_cases e : b = x.1
  ·rw [e, dUm] at h
   cases h
   rw [e]
   exact List.mem_cons_self
  ·rw [dUl _ _ _ _ e] at h
   exact List.mem_cons_of_mem _ (ih h)
theorem mZ (g1 : Hp) (l : List (Pos × Ob)) (b : Pos) : (eS (exL g1 l) .e).get b = ((eS l .e).get b).map fun o => (g1.bl.get b).getD o := by
 induction l with
 | nil => rw [show exL g1 [] = [] from rfl, show eS [] .e = .e from rfl, Tr.get_e]; rfl
 | cons x l ih =>
  show (Tr.set ((g1.bl.get x.1).getD x.2) x.1 (eS (exL g1 l) .e)).get b = ((Tr.set x.2 x.1 (eS l .e)).get b).map _
  by_cases e : b = x.1
  ·rw [e, dUm, dUm]
   rfl
  ·rw [dUl _ _ _ _ e, dUl _ _ _ _ e]
   exact ih
theorem aIs (S : Sim false (gX nx0 HL) g1) {b : Pos} {o : Ob} (h : (eS HL .e).get b = some o) : ∃ o', g1.bl.get b = some o' ∧ tB false o o' ∧ (eS (exL g1 HL) .e).get b = some o' := by
 obtain ⟨o', h1, h2⟩ := S.get b o h
 refine ⟨o', h1, h2, ?_⟩
 rw [mZ, h, h1]
 rfl
noncomputable def aLc (o : Ob) : Bool := match o with
 | .row .ex _ => true
 | .mp _ => true
 | .big _ _ => true
 | .mi _ => true
 | _ => false
noncomputable def bHj (l : List (Pos × Ob)) : Bool := List.rec (motive := fun _ => Bool) true (fun x _ ih => aLc x.2 && ih) l
theorem aMs : ∀ {l : List (Pos × Ob)}, bHj l = true → ∀ x ∈ l, aLc x.2 = true
 | [], _, x, h => by cases h
 | y :: l, hl, x, h => by
  change (aLc y.2 && bHj l) = true at hl
  simp only [Bool.and_eq_true] at hl
  simp only [List.mem_cons] at h
  rcases h with rfl | h
  ·exact hl.1
  ·exact aMs hl.2 x h
theorem bEk {o o' : Ob} (hk : aLc o = true) (h : tB false o o') : o'.sg = true ∨ ∃ l, o' = .row .ex l := by
 unfold aLc at hk
 split at hk
 ·have : o' = _ := h
  exact .inr ⟨_, this⟩
 ·have : o' = _ := h
  rw [this]
  exact .inl rfl
 ·exact .inr ⟨_, h⟩
 ·obtain ⟨es, h1, _⟩ := h
  rw [h1]
  exact .inl rfl
 ·cases hk
noncomputable def qV (p : List DV → Bool) (v0 : DV) (nx0 : Nat) (HL : List (Pos × Ob)) (g1 : Hp) (args : List DV) (h : Hp) : aI :=
 bif p args && lB h.next (aU 1) then some (v0, ⟨aU nx0, eS (exL g1 HL) h.bl⟩) else none
theorem aAq (S1 : Sim false (gX nx0 HL) g1) (p : List DV → Bool) (v0 : DV) (args : List DV) : SimP false (xC p v0 nx0 HL args) (qV p v0 nx0 HL g1 args) := by
 intro h h' S
 unfold xC qV
 rw [S.next]
 cases (p args && lB h.next (aU 1)) with
 | false => exact SimR.none _
 | true =>
  intro v k e
  simp only [cond_true, bG, bQ] at e
  obtain ⟨rfl, rfl⟩ := e
  refine ⟨⟨aU nx0, eS (exL g1 HL) h'.bl⟩, rfl, rfl, fun b o ho => ?_⟩
  change (eS HL h.bl).get b = some o at ho
  show ∃ o', (eS (exL g1 HL) h'.bl).get b = some o' ∧ tB false o o'
  rw [aLa] at ho ⊢
  cases hb : (eS HL .e).get b with
  | some o1 =>
   rw [hb] at ho
   cases ho
   obtain ⟨o', _, h2, h3⟩ := aIs S1 hb
   exact ⟨o', by rw [h3], h2⟩
  | none =>
   rw [hb] at ho
   rw [mZ, hb]
   exact S.get b o ho
theorem aKu {f : FuncId} {F : List DV → Hp → aI} (hF : ∀ G, mL Tryz.prog G f F) {args0 : List DV} {v0 : DV} (hr0 : F args0 hS = some (v0, g1)) (S1 : Sim false (gX nx0 HL) g1) (hk : bHj HL = true) (hnx0 : 1024 ≤ (aU nx0).toNat)
  (fn : Func) (hf : Tryz.prog.funcs[f]? = some fn) (hb : fn.body.isSome = true) {p : List DV → Bool} (hp : ∀ args, p args = true → args = args0) (h0 : ∀ ρ l, VRs ρ args0 l → VRs (fun _ => none) args0 l) (G : Gd) : mL Tryz.prog G f (qV p v0 nx0 HL g1) := by
 intro args h v h1 hr ρ w args' H hargs
 unfold qV at hr
 cases hc : (p args && lB h.next (aU 1)) with
 | false => rw [hc] at hr; cases hr
 | true =>
  rw [hc] at hr
  simp only [cond_true, bG, bQ] at hr
  obtain ⟨rfl, rfl⟩ := hr
  simp only [Bool.and_eq_true] at hc
  have ha := hp _ hc.1
  subst ha
  have hnx := jU _ _ hc.2
  have hp1 : (aU 1).toNat = 1024 := by kernel_rfl
  refine .inl ⟨aKq hf hb _ _, ?_⟩
  refine (aKk hF hr0 fn hf hb w args' (h0 _ _ hargs)).mono ?_
  rintro e w' ⟨ρ2, v', rfl, hv, H2, hbel, hlow⟩
  have S2 : Sim true ⟨g1.next, eS (exL g1 HL) .e⟩ g1 := ⟨rfl, fun b o ho => by
   change (eS (exL g1 HL) .e).get b = some o at ho
   rw [mZ] at ho
   cases hb : (eS HL .e).get b with
   | none => rw [hb] at ho; cases ho
   | some o1 =>
    obtain ⟨o', q1, _, q3⟩ := aIs S1 hb
    rw [mZ] at q3
    rw [q3] at ho
    cases ho
    exact ⟨_, q1, zR _⟩⟩
  have hgn : g1.next = aU nx0 := S1.next
  have H3 := HR.sub S2 H2
  obtain ⟨j1, j2, j3⟩ := H.join (J := eS (exL g1 HL) h.bl) hbel H3 rfl (fun b L hL => by rw [hnx, hp1]; exact hlow b L hL) (fun b o ho => by
    change (eS (exL g1 HL) .e).get b = some o at ho
    rw [mZ] at ho
    cases hb : (eS HL .e).get b with
    | none => rw [hb] at ho; cases ho
    | some o1 =>
     obtain ⟨o', q1, q2, q3⟩ := aIs S1 hb
     rw [mZ] at q3
     rw [q3] at ho
     cases ho
     exact bEk (aMs hk _ (bRm _ _ _ hb)) q2) (by
    show h.next.toNat ≤ g1.next.toNat
    rw [hnx, hgn, hp1]
    exact hnx0) (fun b => by
    rw [aLa]
    cases hb : (eS (exL g1 HL) .e).get b with
    | none => cases h.bl.get b <;> rfl
    | some o =>
     cases hh : h.bl.get b with
     | none => rfl
     | some o1 =>
      exfalso
      obtain ⟨L, hL⟩ := H.dom b o1 hh
      have q1 := H.lt b L hL
      obtain ⟨L2, hL2⟩ := H3.dom b o hb
      have q2 := hlow b L2 hL2
      rw [hnx, hp1] at q1
      omega)
  rw [hgn] at j1
  exact ⟨kN ρ ρ2, v', rfl, j2, hv.mono j3, j1, Kp.later H hbel⟩
end known
noncomputable def gN1 : Hp := Classical.choose aPn
theorem cPf : fS CF1 912 40 [.i .i64 (.ofNat 30000)] hS = some (.t [.p (aU 7) 0, .i .i64 (.ofNat 0)], gN1) := (Classical.choose_spec aPn).1
theorem aYm : Sim false hN gN1 := (Classical.choose_spec aPn).2
theorem bEn : bHj HLN = true := by kernel_rfl
noncomputable def bJf : List DV → Hp → aI := qV aZi (.t [.p (aU 7) 0, .i .i64 (.ofNat 0)]) 26855 HLN gN1
theorem bTa (args : List DV) : SimP false (newK args) (bJf args) := aAq aYm _ _ _
theorem bLj (args : List DV) (h : aZi args = true) : args = [.i .i64 (.ofNat 30000)] := by
 unfold aZi at h
 split at h
 ·rw [Nat.eq_of_beq_eq_true h]
 ·cases h
theorem cPo {k : IntKind} {n : Int} (ρ : dB) (l : List Value) (h : VRs ρ [.i k n] l) : VRs (fun _ => none) [.i k n] l := by
 cases h with
 | cons _ _ _ _ q1 q2 =>
  cases q1
  cases q2
  exact .cons _ _ _ _ (.i _ _) .nil
theorem bVa (G : Gd) : mL Tryz.prog G 40 bJf :=
 aKu (fun G => aEv 912 G 40) cPf aYm bEn (by rw [show (aU 26855).toNat = 27878 from by kernel_rfl]; decide) Tryz.f40 Tryz.func40 (by kernel_rfl) bLj cPo G
noncomputable def pR : RT := fun g => bif Nat.beq g 40 then bJf else fS CF1 912 g
theorem bJy : OkC CF1 pR := by
 refine ⟨sX, fun G g => ?_⟩
 unfold pR
 cases hg : Nat.beq g 40 with
 | true => cases Nat.eq_of_beq_eq_true hg; exact bVa G
 | false => exact aEv 912 G g
theorem cCz (n : Nat) (g : FuncId) (args : List DV) (h : Hp) : bDd n g args h = bif Nat.beq g 40 then newK args h else cQ n g args h := rfl
theorem cHy (g : FuncId) (args : List DV) : SimP false (bDd 900 g args) (pR g args) := by
 intro h h' S
 rw [cCz]
 unfold pR
 cases hg : Nat.beq g 40 with
 | false =>
  rw [cond_false, cond_false, vM]
  exact aRm 900 g args h h' S
 | true => exact bTa args h h' S
theorem HCN (g : FuncId) (args : List DV) : SimP false (bP CF (bDd 900) g args) (bP CF1 pR g args) := by
 cases hg : CF.I g with
 | none => rw [hZ hg, hZ (yI hg)]; exact cHy g args
 | some F =>
  have e : bP CF (bDd 900) g args = F args := by funext k; unfold bP; rw [hg]
  rw [e]
  have e1 : bP CF1 pR g args = bP CF1 (fS CF1 912) g args := by
   cases h10 : Nat.beq g 40 with
   | true =>
    cases Nat.eq_of_beq_eq_true h10
    exact absurd hg (by show ¬ CF.I 40 = some F; exact fun e => by cases e)
   | false =>
    funext k
    unfold bP pR
    rw [h10]
    rfl
  rw [e1]
  exact aTi g F hg 900 args
theorem bOr {r : aI} {v : DV} {nx : Nat} {l : List (Pos × Ob)} (h : cVv r v nx l = true) : ∃ g, r = some (v, g) ∧ Sim true (gX nx l) g := by
 unfold cVv at h
 split at h <;> (try (cases h; done))
 rename_i u g
 simp only [Bool.and_eq_true] at h
 refine ⟨g, by rw [aBx _ _ h.1], ?_, fun b o hb => ⟨o, ?_, jJ o⟩⟩
 ·exact jU _ _ h.2.1
 ·exact vB _ _ h.2.2 (b, o) (yU _ _ _ hb)
theorem yM : ∃ g', aE CF1 pR 912 12 [] hS = some (.p (aU 7) 0, g') ∧ Sim false hW g' := by
 obtain ⟨g, h1, h2⟩ := bOr dBy
 obtain ⟨g', h3, h4⟩ := mP (P := Tryz.prog) (I2 := CF.I) (I1 := CF1.I) HCN 900 12 12 [] hS hS dVl _ _ ((cRp (bDd 900) 900 [] hS).trans h1)
 exact ⟨g', h3, h2.tf h4⟩
noncomputable def gW1 : Hp := Classical.choose yM
theorem cBy : aE CF1 pR 912 12 [] hS = some (.p (aU 7) 0, gW1) := (Classical.choose_spec yM).1
theorem aYx : Sim false hW gW1 := (Classical.choose_spec yM).2
theorem bFt : bHj HLW = true := by kernel_rfl
noncomputable def aUx : List DV → Hp → aI := qV aWv (.p (aU 7) 0) nxW HLW gW1
theorem bVk (args : List DV) (h : aWv args = true) : args = [] := by
 cases args with
 | nil => rfl
 | cons _ _ => cases h
theorem aTc (G : Gd) : mL Tryz.prog G 12 aUx :=
 aKu (fun G => oM bJy Try_ok 912 12) cBy aYx bFt (by rw [show (aU 26889).toNat = 27912 from by kernel_rfl]; decide) Tryz.f12 Tryz.func12 (by kernel_rfl) bVk (fun ρ l h => by cases h; exact .nil) G
noncomputable def mF : RT := fun g => bif Nat.beq g 12 then aUx else fS CF1 912 g
theorem recW1_ok : OkC CF1 mF := by
 refine ⟨sX, fun G g => ?_⟩
 unfold mF
 cases hg : Nat.beq g 12 with
 | true => cases Nat.eq_of_beq_eq_true hg; exact aTc G
 | false => exact aEv 912 G g
theorem aVc (n : Nat) (g : FuncId) (args : List DV) (h : Hp) : vN n g args h = bif Nat.beq g 12 then aNn args h else cQ n g args h := rfl
theorem aMq (g : FuncId) (args : List DV) : SimP false (vN 900 g args) (mF g args) := by
 intro h h' S
 rw [aVc]
 unfold mF
 cases hg : Nat.beq g 12 with
 | false =>
  rw [cond_false, cond_false, vM]
  exact aRm 900 g args h h' S
 | true => exact aAq aYx _ _ _ h h' S
theorem HCW (g : FuncId) (args : List DV) : SimP false (bP CF (vN 900) g args) (bP CF1 mF g args) := by
 cases hg : CF.I g with
 | none => rw [hZ hg, hZ (yI hg)]; exact aMq g args
 | some F =>
  have e : bP CF (vN 900) g args = F args := by funext k; unfold bP; rw [hg]
  rw [e]
  have e1 : bP CF1 mF g args = bP CF1 (fS CF1 912) g args := by
   cases h10 : Nat.beq g 12 with
   | true =>
    cases Nat.eq_of_beq_eq_true h10
    exact absurd hg (by show ¬ CF.I 12 = some F; exact fun e => by cases e)
   | false =>
    funext k
    unfold bP mF
    rw [h10]
    rfl
  rw [e1]
  exact aTi g F hg 900 args
theorem bSy : ∃ g, aE CF1 mF 912 13 [] hS = some (.b true, g) := by
 have hl := dBw
 cases hr : s13 (vN 900) 900 hS with
 | none => rw [hr] at hl; cases hl
 | some p =>
  obtain ⟨v, k⟩ := p
  rw [hr] at hl
  cases v <;> (try (cases hl; done))
  rename_i b
  change b = true at hl
  subst hl
  obtain ⟨g, h1, h2⟩ := mP (P := Tryz.prog) (I2 := CF.I) (I1 := CF1.I) HCW 900 12 13 [] hS hS dVl _ _ ((cQr (vN 900) 900 [] hS).trans hr)
  exact ⟨g, h1⟩
noncomputable def jO : RT := fun g args h => bif Nat.beq g 13 then (match args with
 | [] => some (.b true, h)
 | _ => none) else vN 900 g args h
noncomputable def aKd : RT := fun g => bif Nat.beq g 13 then (fun args h => match args with
 | [] => some (.b true, h)
 | _ => none) else mF g
theorem bUh : OkC CF1 aKd := by
 refine ⟨sX, fun G g => ?_⟩
 unfold aKd
 cases hg : Nat.beq g 13 with
 | true =>
  cases Nat.eq_of_beq_eq_true hg
  obtain ⟨k, hk⟩ := bSy
  exact bFo (fun G => oM recW1_ok Try_ok 912 13) hk Tryz.f13 Tryz.func13 (by kernel_rfl) G
 | false => exact recW1_ok.fns G g
theorem HCX (g : FuncId) (args : List DV) : SimP false (bP CF jO g args) (bP CF1 aKd g args) := by
 cases hg : CF.I g with
 | none =>
  rw [hZ hg, hZ (yI hg)]
  intro h h' S
  show SimR false (bif Nat.beq g 13 then (match args with
   | [] => some (.b true, h)
   | _ => none) else vN 900 g args h) ((bif Nat.beq g 13 then (fun args h => match args with
   | [] => some (.b true, h)
   | _ => none : List DV → Hp → aI) else mF g) args h')
  cases h16 : Nat.beq g 13 with
  | true =>
   rw [cond_true, cond_true]
   cases args with
   | nil => exact SimR.some S _
   | cons a l => exact SimR.none _
  | false => rw [cond_false, cond_false]; exact aMq g args h h' S
 | some F =>
  have e : bP CF jO g args = F args := by funext k; unfold bP; rw [hg]
  have e0 : bP CF (vN 900) g args = F args := by funext k; unfold bP; rw [hg]
  have e1 : bP CF1 aKd g args = bP CF1 mF g args := by
   cases h16 : Nat.beq g 13 with
   | true =>
    cases Nat.eq_of_beq_eq_true h16
    exact absurd hg (by show ¬ CF.I 13 = some F; exact fun e => by cases e)
   | false =>
    funext k
    unfold bP aKd
    rw [h16]
    rfl
  rw [e, e1, ← e0]
  exact HCW g args
structure Ro (w : World) (ρ : dB) (h : Hp) : Prop where
 dom : ∀ b o, h.bl.get b = some o → ∃ L, ρ b = some L
 lt : ∀ b L, ρ b = some L → b.toNat < h.next.toNat
 row : ∀ b o, h.bl.get b = some o → ∃ l, o = .row .ro l
 cell : ∀ b l L i v, h.bl.get b = some (.row .ro l) → ρ b = some L → l[i]? = some v → ∃ v', w.cell? (fK L i) = some v' ∧ VR ρ v v'
 sp : ∀ b o L, h.bl.get b = some o → ρ b = some L → L.sp = 0
theorem Ro.isRo {w : World} {ρ : dB} {h : Hp} (R : Ro w ρ h) {b : Pos} {a : Addr} (c : Claims ρ h b a) : isRo h b := by
 obtain ⟨k, l, L, h1, h2, _⟩ := c
 obtain ⟨l', e⟩ := R.row b _ h1
 exact ⟨l', by rw [h1, e]⟩
theorem Ro.hr {w : World} {ρ : dB} {h : Hp} (R : Ro w ρ h) : HR (gdS w 0) ρ h w where
 gl := fun _ _ => rfl
 sz := ⟨Nat.le_refl _, fun _ hh => hh.elim⟩
 nx := Nat.zero_le _
 ro := fun b a c _ => by
  obtain ⟨k, l, L, h1, h2, h3⟩ := c
  obtain ⟨l', e⟩ := R.row b _ h1
  cases e
  rcases h3 with ⟨i, v, h4, h5, rfl⟩ | ⟨es, j, h4, _⟩
  ·obtain ⟨v', h6, _⟩ := R.cell b _ L i v h1 h2 h4
   exact fI h6
  ·cases h4
 dom := R.dom
 lt := R.lt
 cell := fun b k l L i v h1 h2 h3 h4 => by
  obtain ⟨l', e⟩ := R.row b _ h1
  cases e
  exact R.cell b _ L i v h1 h2 h3
 spare := fun b l L es j h1 => by
  obtain ⟨l', e⟩ := R.row b _ h1
  cases e
 free := fun b a c hn => absurd (R.isRo c) hn
 inj := fun b b' a c c' hn => absurd (R.isRo c) hn
 ex := fun b l L h1 h2 => by
  rcases h1 with h1 | h1
  ·exact R.sp b _ L h1 h2
  ·exact R.sp b _ L h1 h2
 grone := fun b es l i v h1 => by
  obtain ⟨l', e⟩ := R.row b _ h1
  cases e
 itr := fun b o L hs h1 _ => by
  obtain ⟨l', rfl⟩ := R.row b _ h1
  cases hs
 itj := fun b o b' o' L L' hs hs' h1 _ _ _ _ => by
  obtain ⟨l', rfl⟩ := R.row b _ h1
  cases hs
theorem Ro.none (w : World) (p : Pos) : Ro w (fun _ => none) ⟨p, .e⟩ where
 dom := fun b o h => by cases b <;> cases h
 lt := fun b L h => by cases h
 row := fun b o h => by cases b <;> cases h
 cell := fun b l L i v h => by cases b <;> cases h
 sp := fun b o L h => by cases b <;> cases h
theorem Ro.sim {w : World} {ρ : dB} {h : Hp} (R : Ro w ρ h) : Sim false h h := ⟨rfl, fun b o e => by
 obtain ⟨l, rfl⟩ := R.row b o e
 exact ⟨_, e, rfl⟩⟩
theorem dDx {f : FuncId} {args : List DV} {h0 : Hp} {ρ : dB} (hr : ∃ k, aE CF jO 900 f args h0 = some (.b true, k)) (fn : Func) (hf : Tryz.prog.funcs[f]? = some fn) (hb : fn.body.isSome = true)
  (w : World) (R : Ro w ρ h0) (args' : Array Value) (hargs : VRs ρ args args'.toList) :
  Calls Tryz.prog f args' w fun e w' => e = .returned (.bool true) ∧ Below w.heap.size w w' := by
 obtain ⟨k, hk⟩ := hr
 obtain ⟨g, h1, _⟩ := mP (P := Tryz.prog) (I2 := CF.I) (I1 := CF1.I) HCX 900 12 f args h0 h0 R.sim _ _ hk
 have H := R.hr
 rcases oM bUh Try_ok 912 f args h0 _ g h1 _ w args' H hargs with ⟨_, h⟩ | ⟨ρ', w', v', h, _⟩
 ·refine h.mono ?_
  rintro e w' ⟨ρ', v', rfl, h2, h3, h4, h5⟩
  cases h3
  exact ⟨rfl, h5.low⟩
 ·exfalso
  have hn : ¬ fn.name = "runtime.NumGoroutine" := by simpa using Try_ok.names f fn hf
  have hbn : fn.body ≠ none := by intro e; rw [e] at hb; cases hb
  unfold callFunc at h
  simp [show CF1.P.funcs[f]? = some fn from hf, hn, hbn] at h
end Go.Dd

namespace Go.Dd
open Go.Proofs
theorem kR (a b : DV) (h : Hp) : aB 0 (.t [a, b]) h = some (a, h) := Eq.trans rfl rfl
theorem kI (a b : DV) (h : Hp) : aB 1 (.t [a, b]) h = some (b, h) := Eq.trans rfl rfl
theorem dPl (p q : Bool) (h : Hp) : pEq .bool false (.b p) (.b q) h = some (.b (p != q), h) := by cases p <;> cases q <;> rfl
theorem cId {a : Nat} (h : a ≠ 0) : Nat.beq a 0 = false := by
 cases hb : Nat.beq a 0 with
 | true => exact absurd (Nat.eq_of_beq_eq_true hb) h
 | false => rfl
section
inductive NumA (M M' : MemV) (R : List Int) (n : Int) : Int → Int → Prop
 | out : ¬ (-1152921504606846976 ≤ n ∧ n ≤ 1152921504606846976) → M' = M → NumA M M' R n 0 2
 | small (a : Int) : -1073741824 ≤ n ∧ n ≤ 1073741823 → dO a = true → pM a = n → M' = M → NumA M M' R n a 0
 | big : (-1152921504606846976 ≤ n ∧ n ≤ 1152921504606846976) → ¬ (-1073741824 ≤ n ∧ n ≤ 1073741823) → Grown M M' 1 (R.getD 10 0) [n] → NumA M M' R n (.ofNat (M.fin * 2)) 0
theorem Wd.number {h : Hp} {M : MemV} {R : List Int} {es : List (DV × DV)} (W : Wd h M R es) (G : Good M) (hR : ∀ i, i < 16 → cM (R.getD (2 + i) 0) M.pl ≠ 0) (room : M.fin + 4 ≤ M.n) (hm : M.made < 899999) (n : Int) {k : Nat} (hk : 256 < k) :
  ∃ a e h' M', cQ (k + 2) 42 [.p (aU 7) 0, .i .i64 n] h = some (.t [iD a, iD e], h') ∧ Wd h' M' R es ∧ Good M' ∧ Up h h' ∧ NumA M M' R n a e := by
 have hl : (Int.negSucc 1152921504606846975) = -1152921504606846976 := rfl
 rw [jP 42 rfl, cPy]
 unfold s42
 by_cases c1 : n < -1152921504606846976
 ·refine ⟨0, 2, h, M, ?_, W, G, Up.refl h, .out (by omega) rfl⟩
  have d1 : decide (n < Int.negSucc 1152921504606846975) = true := decide_eq_true (by rw [hl]; exact c1)
  simp only [g0, g1, cE, aN, d1, dG, jN, bS, aY]
  rfl
 ·have d1 : decide (n < Int.negSucc 1152921504606846975) = false := decide_eq_false (by rw [hl]; exact c1)
  by_cases c2 : n > 1152921504606846976
  ·refine ⟨0, 2, h, M, ?_, W, G, Up.refl h, .out (by omega) rfl⟩
   have d2 : decide (n > Int.ofNat 1152921504606846976) = true := decide_eq_true c2
   simp only [g0, g1, cE, eV, aN, d1, d2, eF, bO, aY]
   rfl
  ·have d2 : decide (n > Int.ofNat 1152921504606846976) = false := decide_eq_false c2
   simp only [g0, g1, cE, eV, aN, d1, d2, eF, bO, bF]
   by_cases c3 : -1073741824 ≤ n ∧ n ≤ 1073741823
   ·
    have hs : ∃ a, gJ [.i .i64 n] h = some (.t [iD a, .b true], h) ∧ dO a = true ∧ pM a = n := by
     cases n with
     | ofNat m =>
      have hb : Nat.blt m 1073741824 = true := by rw [gL]; exact decide_eq_true (by have := c3.2; simp at this; omega)
      refine ⟨.ofNat (Nat.succ (Nat.mul m 2)), by simp only [gJ, hb, cond_true], ?_, ?_⟩
      ·rw [lM]
       refine decide_eq_true ?_
       have e : (Int.ofNat (Nat.succ (Nat.mul m 2))) = 2 * (m : Int) + 1 := by show (((m * 2).succ : Nat) : Int) = _; omega
       rw [e]
       have := c3.2
       simp at this
       omega
      ·rw [qS]
       have e : (Int.ofNat (Nat.succ (Nat.mul m 2))) = 2 * (m : Int) + 1 := by show (((m * 2).succ : Nat) : Int) = _; omega
       rw [e]
       show _ = (m : Int)
       omega
     | negSucc m =>
      have hb : Nat.blt m 1073741824 = true := by rw [gL]; exact decide_eq_true (by have := c3.1; omega)
      have e : (Int.negSucc (Nat.mul m 2)) = -2 * (m : Int) - 1 := by show Int.negSucc (m * 2) = _; omega
      refine ⟨.negSucc (Nat.mul m 2), by simp only [gJ, hb, cond_true], ?_, ?_⟩
      ·rw [lM]
       refine decide_eq_true ?_
       rw [e]
       have := c3.1
       omega
      ·rw [qS, e]
       omega
    obtain ⟨a, h1, h2, h3⟩ := hs
    refine ⟨a, 0, h, M, ?_, W, G, Up.refl h, .small a c3 h2 h3 rfl⟩
    simp only [h1, aN, kR, kI, aY]
    rfl
   ·
    have hs : gJ [.i .i64 n] h = some (.t [.i .i64 (.ofNat 0), .b false], h) := by
     cases n with
     | ofNat m =>
      have hb : Nat.blt m 1073741824 = false := by rw [gL]; exact decide_eq_false (fun q => c3 (by simp; omega))
      simp only [gJ, hb, cond_false]
     | negSucc m =>
      have hb : Nat.blt m 1073741824 = false := by rw [gL]; exact decide_eq_false (fun q => c3 (by omega))
      simp only [gJ, hb, cond_false]
    have fl : aL [.i .i64 (Int.ofNat 0)] 1 [(0, 1, .i .i64 n)] h = some (.l h.next 0 1 1, ⟨h.next.succ, Tr.set (.row .ex ([n].map iD)) h.next h.bl⟩) := by
     simp [aL, iQ, cY]
    obtain ⟨U1, W1⟩ := W.new (.row .ex ([n].map iD))
    have S : SlI (.l h.next 0 1 1) [n] ⟨h.next.succ, Tr.set (.row .ex ([n].map iD)) h.next h.bl⟩ := .inr ⟨h.next, 1, .ex, rfl, dUm _ _ _, .inr (Nat.le_trans (by decide) W.nx), by show _ < (h.next.succ).toNat; rw [dUo]; omega⟩
    obtain ⟨h', M', e1, W2, U2, _, g⟩ := W1.make61 G (hR 8 (by omega)) (f := 1) (by omega) S (by simp) (by simpa using room) (fun v hv => trivial) hk
    refine ⟨_, _, h', M', ?_, W2, g.good G (hR 8 (by omega)) (by omega) (by simp) (by simpa using room) hm, U1.trans U2, .big (by omega) c3 g⟩
    simp only [hs, aN, kR, kI, bF, W.known (show 8 < 16 by omega), fl]
    rw [show (2 : Nat) + 8 = 10 from rfl] at e1 ⊢
    rw [e1]
    simp only [aN, kR, kI]
    rfl
end
end Go.Dd

namespace Go.Dd
open Go.Proofs
section
theorem Wd.memory {h : Hp} {M : MemV} {R : List Int} {es : List (DV × DV)} (W : Wd h M R es) (n : Nat) : cQ (n + 1) 23 [.p (aU 7) 0] h = some (.p (aU 3) 0, h) := by
 rw [jP 23 rfl, cQu]
 unfold s23
 simp only [g0, hC, qD, aN, W.l00]
end
end Go.Dd

namespace Go.Dd
open Go.Proofs
def GrS (x : DV) (l : List DV) (lo : Nat) (h : Hp) : Prop := (x = .l0 ∧ l = []) ∨ ∃ b, x = .l b 0 l.length l.length ∧ h.bl.get b = some (.row (.gr 1) l) ∧ lo ≤ b.toNat ∧ b.toNat < h.next.toNat
structure Lo (lo : Nat) (h h' : Hp) : Prop where
 next : h.next.toNat ≤ h'.next.toNat
 get : ∀ b : Pos, b.toNat < lo → h'.bl.get b = h.bl.get b
theorem Lo.refl (lo : Nat) (h : Hp) : Lo lo h h := ⟨Nat.le_refl _, fun _ _ => rfl⟩
theorem Lo.trans {lo : Nat} {a b c : Hp} (u : Lo lo a b) (v : Lo lo b c) : Lo lo a c := ⟨Nat.le_trans u.next v.next, fun p h => (v.get p h).trans (u.get p h)⟩
theorem Lo.up {h h' : Hp} (u : Lo h.next.toNat h h') : Up h h' := ⟨u.next, fun b _ h2 => u.get b h2⟩
theorem Wd.lo {h h' : Hp} {M : MemV} {R : List Int} {es : List (DV × DV)} (W : Wd h M R es) (u : Lo h.next.toNat h h') : Wd h' M R es := W.up u.up fun b hb => u.get b (Nat.lt_of_lt_of_le hb W.nx)
theorem bQg : ∀ l : List DV, (∀ v ∈ l, v.one = true) → kG l.length l = some l := yG
theorem GrS.app {x : DV} {l : List DV} {lo : Nat} {h : Hp} (S : GrS x l lo h) (hlo : lo ≤ h.next.toNat) (hl : ∀ v ∈ l, v.one = true) {z v : DV} (hz : cY v = some [v]) (hv : v.one = true) {bytes : Nat} (hb : (l.length + 1) * bytes ≤ mG) :
  ∃ y g, aL [z] 1 [(0, 1, v)] h = some (y, g) ∧ ∃ x' h', bB 1 bytes x y g = some (x', h') ∧ GrS x' (l ++ [v]) lo h' ∧ Lo lo h h' := by
 refine ⟨.l h.next 0 1 1, ⟨h.next.succ, Tr.set (.row .ex [v]) h.next h.bl⟩, ?_, ?_⟩
 ·simp [aL, iQ, hz]
 ·have src : sI 1 (.l h.next 0 1 1) ⟨h.next.succ, Tr.set (.row .ex [v]) h.next h.bl⟩ = some (1, [v]) := by
   have : cellsAt h.next 0 (1 * 1) ⟨h.next.succ, Tr.set (.row .ex [v]) h.next h.bl⟩ = some [v] := by
    simp [cellsAt, rowOf, dUm, kG, hv]
   simp only [sI, this]
  have ns := dUo h.next
  have ns2 := dUo h.next.succ
  rcases S with ⟨rfl, rfl⟩ | ⟨b, rfl, hbg, h1, h2⟩
  ·refine ⟨.l h.next.succ 0 1 1, ⟨h.next.succ.succ, Tr.set (.row (.gr 1) [v]) h.next.succ (Tr.set (.row .ex [v]) h.next h.bl)⟩, ?_, ?_, ?_⟩
   ·unfold bB
    rw [src]
    dsimp only
    rw [if_neg (by simp), if_pos (by simpa using hb)]
   ·exact .inr ⟨h.next.succ, rfl, dUm _ _ _, by omega, by show _ < h.next.succ.succ.toNat; omega⟩
   ·refine ⟨by show _ ≤ h.next.succ.succ.toNat; omega, fun p hp => ?_⟩
    show (Tr.set _ h.next.succ (Tr.set _ h.next h.bl)).get p = _
    rw [dUl _ _ _ _ (fun e => by subst e; omega), dUl _ _ _ _ (fun e => by subst e; omega)]
  ·have hne : b ≠ h.next := fun e => by subst e; omega
   have hget : (Tr.set (.row .ex [v]) h.next h.bl).get b = some (.row (.gr 1) l) := by rw [dUl _ _ _ _ hne]; exact hbg
   have hcells : cellsAt b 0 (l.length * 1) ⟨h.next.succ, Tr.set (.row .ex [v]) h.next h.bl⟩ = some l := by
    simp only [cellsAt, rowOf, hget, List.drop_zero, Nat.mul_one]
    exact bQg l hl
   refine ⟨.l h.next.succ 0 (l.length + 1) (l.length + 1), ⟨h.next.succ.succ, Tr.set (.row (.gr 1) (l ++ [v])) h.next.succ (Tr.set (.row .sp (bT 0 l)) b (Tr.set (.row .ex [v]) h.next h.bl))⟩, ?_, ?_, ?_⟩
   ·unfold bB
    rw [src]
    dsimp only
    rw [if_neg (by omega), hget, hcells]
    dsimp only
    rw [if_pos hb, if_pos (by simp)]
   ·exact .inr ⟨h.next.succ, by simp, dUm _ _ _, by omega, by show _ < h.next.succ.succ.toNat; omega⟩
   ·refine ⟨by show _ ≤ h.next.succ.succ.toNat; omega, fun p hp => ?_⟩
    show (Tr.set _ h.next.succ (Tr.set _ b (Tr.set _ h.next h.bl))).get p = _
    rw [dUl _ _ _ _ (fun e => by subst e; omega), dUl _ _ _ _ (fun e => by subst e; omega), dUl _ _ _ _ (fun e => by subst e; omega)]
theorem bOu (k : IntKind) (hk : k = .i64 ∨ k = .u8) {c : Nat} (hc : c < 256) : k.wrap (c : Int) = (c : Int) := by
 rcases hk with rfl | rfl
 ·exact eR _ (by omega)
 ·have : (IntKind.u8.wrap (c : Int)) = (c : Int) % 256 := by
   simp [IntKind.wrap, IntKind.bits, IntKind.signed]
  rw [this]
  omega
end Go.Dd

namespace Go.Dd
open Go.Proofs
def iN (c : Nat) : DV := .i .i64 (Int.ofNat c)
theorem cXk (l : List Nat) : ∀ v ∈ l.map iN, v.one = true := by
 intro v hv
 obtain ⟨c, _, rfl⟩ := List.mem_map.1 hv
 rfl
theorem xL {rec : FuncId → List DV → Hp → aI} {n lo : Nat} {x0 x1 : DV} : ∀ (rest done : List Nat) (m : Nat) (x : DV) (h : Hp), GrS x (done.map iN) lo h → lo ≤ h.next.toNat → (∀ c ∈ done ++ rest, c < 256) → (done ++ rest).length ≤ 300 → rest.length < m →
  ∃ x' h', nM rec n m x0 x1 (.s (done ++ rest)) x (.i .i64 ((done ++ rest).length : Int)) (.i .i64 (Int.ofNat done.length)) h = fQ rec n x0 x1 x' h' ∧ GrS x' ((done ++ rest).map iN) lo h' ∧ Lo lo h h'
 | [], done, m + 1, x, h, S, hlo, hc, hl, hm => by
  refine ⟨x, h, ?_, by rw [List.append_nil]; exact S, Lo.refl lo h⟩
  show nO rec n (nM rec n m) _ _ _ _ _ _ h = _
  unfold nO
  have hl : decide (Int.ofNat done.length < ((done ++ []).length : Int)) = false := by simp
  simp only [cE, aN, hl, bF]
 | c :: rest, done, m + 1, x, h, S, hlo, hc, hl, hm => by
  have hc1 : c < 256 := hc c (by simp)
  obtain ⟨y, g, e1, x', h', e2, S', L'⟩ := S.app hlo (cXk done) (z := .i .i64 (Int.ofNat 0)) (v := iN c) rfl rfl (bytes := 8) (by simp at hl ⊢; unfold mG; omega)
  have S2 : GrS x' ((done ++ [c]).map iN) lo h' := by rw [List.map_append]; exact S'
  obtain ⟨x2, h2, e3, S3, L3⟩ := xL (rec := rec) (n := n) (lo := lo) (x0 := x0) (x1 := x1) rest (done ++ [c]) m x' h' S2 (Nat.le_trans hlo L'.next) (by simpa using hc) (by simpa using hl) (by simp at hm; omega)
  refine ⟨x2, h2, ?_, by simpa using S3, L'.trans L3⟩
  rw [← e3]
  show nO rec n (nM rec n m) _ _ _ _ _ _ h = _
  unfold nO
  have hl1 : decide (Int.ofNat done.length < ((done ++ c :: rest).length : Int)) = true := by simp; omega
  have hix : fJ (.s (done ++ c :: rest)) (.i .i64 (Int.ofNat done.length)) h = some (.i .u8 (c : Int), h) := by
   show (if (0 : Int) ≤ Int.ofNat done.length then (match (done ++ c :: rest)[(Int.ofNat done.length).toNat]? with
    | some c => some (DV.i .u8 (c : Int), h)
    | none => none) else none) = _
   rw [if_pos (by simp), show (Int.ofNat done.length).toNat = done.length from rfl]
   simp
  have hcv : cW .i64 (.i .u8 (c : Int)) h = some (iN c, h) := by
   show some (DV.i .i64 (IntKind.i64.wrap (c : Int)), h) = _
   rw [bOu .i64 (.inl rfl) hc1]
   rfl
  have hadd : aD .add (.i .i64 (Int.ofNat done.length)) (.i .i64 (Int.ofNat 1)) h' = some (.i .i64 (Int.ofNat (done ++ [c]).length), h') := by
   rw [gC _ _ _ (by simp at hl ⊢; omega)]
   simp
  simp only [cE, aN, hl1, aY, hix, hcv, e1, e2, hadd]
  simp
structure TxO (M : MemV) (cls o : Int) (s : List Nat) : Prop where
 at0 : cM o M.pl ≠ 0
 hd : M.t.get (cM o M.pl) = .ofNat (s.length * 4 + 2)
 cls : M.t.get (cM o M.pl + 1) = cls
 by8 : ∀ c ∈ s, c < 256
 len : s.length ≤ 256
 get : ∀ i c, s[i]? = some c → M.t.get (cM o M.pl + 3 + i) = .ofNat c
theorem Grown.txo {M M' : MemV} {f : Nat} {k : Int} {l : List Int} (g : Grown M M' f k l) (G : Good M) {cls o : Int} {s : List Nat} (T : TxO M cls o s) : TxO M' cls o s := by
 have h1 := G.le
 have h3 := G.hi
 have hp : M.pl.get (cM o M.pl) ≠ 0 := by
  rcases nP o M.pl with e | ⟨e, _⟩
  ·exact absurd e T.at0
  ·rw [e]; exact (atN_pos.1 T.at0).2
 obtain ⟨_, hd, e1, e2, e3, _⟩ := G.ob _ hp
 rw [T.hd] at e1
 cases e1
 have ea : cM o M'.pl = cM o M.pl := by rw [g.pl]; exact qU (by omega) T.at0
 refine ⟨by rw [ea]; exact T.at0, by rw [ea, g.old _ (by omega)]; exact T.hd, by rw [ea, g.old _ (by omega)]; exact T.cls, T.by8, T.len, fun i c hi => ?_⟩
 have hil : i < s.length := by
  rcases Nat.lt_or_ge i s.length with q | q
  ·exact q
  ·rw [List.getElem?_eq_none q] at hi; cases hi
 rw [ea, g.old _ (by omega)]
 exact T.get i c hi
theorem Grown.new_txo {M M' : MemV} {cls : Int} {s : List Nat} (g : Grown M M' 2 cls (s.map Int.ofNat)) (G : Good M) (hs : ∀ c ∈ s, c < 256) (hl : s.length ≤ 256) : TxO M' cls (.ofNat (M.fin * 2)) s := by
 have h1 := G.le
 have h2 := G.lo
 have h3 := G.hi
 have ha : cM (.ofNat (M.fin * 2)) M'.pl = M.fin := by rw [g.pl]; exact aBd h2 (by omega)
 refine ⟨by rw [ha]; omega, by rw [ha, g.hd]; simp, by rw [ha, g.cl], hs, hl, fun i c hi => ?_⟩
 rw [ha]
 exact g.new i _ (by rw [List.getElem?_map, hi]; rfl)
section
variable {h : Hp} {M : MemV} {R : List Int} {es : List (DV × DV)}
theorem Wd.bytes49 (W : Wd h M R es) (G : Good M) {cls : Int} (hc : cM cls M.pl ≠ 0) {s : List Nat} (hs : ∀ c ∈ s, c < 256) (h256 : s.length ≤ 256) (room : M.fin + s.length + 3 ≤ M.n) {n : Nat} (hn : 300 < n) :
  ∃ h' M', cQ (n + 2) 83 [.p (aU 7) 0, .i .i64 cls, .s s] h = some (.t [.i .i64 (.ofNat (M.fin * 2)), .i .i64 (.ofNat 0)], h') ∧ Wd h' M' R es ∧ Up h h' ∧ Grown M M' 2 cls (s.map Int.ofNat) := by
 obtain ⟨x', h1, e1, S1, L1⟩ := xL (rec := cQ (n + 1)) (n := n + 1) (lo := h.next.toNat) (x0 := .p (aU 7) 0) (x1 := .i .i64 cls) s [] (n + 1) .l0 h (.inl ⟨rfl, rfl⟩) (Nat.le_refl _) (by simpa using hs) (by simp; omega) (by omega)
 have W1 := W.lo L1
 have S2 : SlI x' (s.map Int.ofNat) h1 := by
  have em : (([] : List Nat) ++ s).map iN = (s.map Int.ofNat).map iD := by simp [iN, iD]
  rcases S1 with ⟨rfl, e⟩ | ⟨b, e, hb, h2, h3⟩
  ·refine .inl ⟨rfl, ?_⟩
   have : s = [] := by simpa using e
   rw [this]; rfl
  ·refine .inr ⟨b, s.length, .gr 1, by rw [e]; simp, by rw [hb, em], .inr (Nat.le_trans (Nat.le_trans (by decide) W.nx) h2), h3⟩
 obtain ⟨h', M', e2, W2, U2, _, g⟩ := W1.make61 G hc (f := 2) (by omega) S2 (by simpa using h256) (by simpa using room) (fun v hv => by
  obtain ⟨c, hc', rfl⟩ := List.mem_map.1 hv
  have := hs c hc'
  show 0 ≤ Int.ofNat c ∧ Int.ofNat c ≤ 255
  simp; omega) (n := n) (by omega)
 refine ⟨h', M', ?_, W2, L1.up.trans U2, g⟩
 rw [jP 83 rfl, cRf]
 unfold s83 bBk aUj aWt bSb
 have el : dV (.s s) h = some (.i .i64 (s.length : Int), h) := rfl
 simp only [g0, g1, g2, el, aN]
 refine Eq.trans e1 ?_
 unfold fQ
 rw [e2]
 simp only [aN, kR, kI]
end
end Go.Dd

namespace Go.Dd
open Go.Proofs
structure ObI (M : MemV) (R : List Int) (CL : List Nat) (a hd : Nat) (z : Prop := True) : Prop where
 len : hd / 4 ≤ 256
 fmt : hd % 4 ≤ 2
 arr : M.t.get (a + 1) = R.getD 11 0 → hd % 4 = 0
 str : M.t.get (a + 1) = R.getD 12 0 ∨ M.t.get (a + 1) = R.getD 13 0 → hd % 4 = 2
 by8 : hd % 4 = 2 → ∀ i, i < hd / 4 → ∃ c : Nat, c < 256 ∧ M.t.get (a + 3 + i) = .ofNat c
 cls : M.t.get (a + 1) = R.getD 3 0 → a ∈ CL
 pl : z → ∀ c ∈ CL, M.t.get (c + 8) = 1 → M.t.get (a + 1) = .ofNat (2 * c) → hd % 4 = 0 ∧ ∀ i, i < hd / 4 → M.t.get (a + 3 + i) = 0
structure ClI (M : MemV) (R : List Int) (c : Nat) : Prop where
 pt : 3 ≤ c ∧ c ≤ 131072
 pl : M.pl.get c ≠ 0
 hd : M.t.get c = .ofNat 24
 cl : M.t.get (c + 1) = R.getD 3 0
 nm : ∃ s, TxO M (R.getD 13 0) (M.t.get (c + 3)) s ∧ 1 ≤ s.length ∧ s.length ≤ 60
 sz : ∃ z : Nat, z ≤ 16 ∧ M.t.get (c + 5) = .ofNat (2 * z + 1)
 kd : ∃ k : Nat, k ≤ 3 ∧ M.t.get (c + 8) = .ofNat (2 * k + 1)
structure GI (M : MemV) (R : List Int) (CL : List Nat) (z : Prop := True) : Prop where
 z0 : M.t.get 0 = 0
 z1 : M.t.get 1 = 0
 ob : ∀ a, M.pl.get a ≠ 0 → ∀ hd : Nat, M.t.get a = .ofNat hd → ObI M R CL a hd z
 dj : ∀ a b, M.pl.get a ≠ 0 → M.pl.get b ≠ 0 → a < b → ∀ hd : Nat, M.t.get a = .ofNat hd → a + 3 + hd / 4 ≤ b
 cl : ∀ c ∈ CL, ClI M R c
 rk : ∀ i, i < 16 → R.getD (2 + i) 0 = .ofNat (6 + 18 * i)
 kn : ∀ i, i < 16 → 3 + 9 * i ∈ CL
 k9 : M.t.get 92 = 3
 k10 : M.t.get 101 = 5
 k11 : M.t.get 110 = 5
 k8 : M.t.get 83 = 7
 k1 : M.t.get 20 = 7
section
variable {M M' : MemV} {R : List Int} {CL : List Nat} {f : Nat} {cls : Int} {l : List Int} {z : Prop}
theorem GI.lt (I : GI M R CL z) (G : Good M) {c : Nat} (hc : c ∈ CL) : c + 9 ≤ M.fin := by
 obtain ⟨_, hd, h1, _, h3, _⟩ := G.ob c (I.cl c hc).pl
 rw [(I.cl c hc).hd] at h1
 have := Int.ofNat.inj h1
 omega
structure NewI (M : MemV) (R : List Int) (CL : List Nat) (f : Nat) (cls : Int) (l : List Int) : Prop where
 len : l.length ≤ 256
 fmt : f ≤ 2
 arr : cls = R.getD 11 0 → f = 0
 str : cls = R.getD 12 0 ∨ cls = R.getD 13 0 → f = 2
 by8 : f = 2 → ∀ v ∈ l, ∃ c : Nat, c < 256 ∧ v = .ofNat c
 ncl : cls ≠ R.getD 3 0
 pl : ∀ c ∈ CL, M.t.get (c + 8) = 1 → cls = .ofNat (2 * c) → f = 0 ∧ ∀ v ∈ l, v = 0
theorem Grown.gi (g : Grown M M' f cls l) (G : Good M) (I : GI M R CL z) (N : NewI M R CL f cls l) : GI M' R CL z where
 z0 := by rw [g.old 0 (by have := G.lo; omega)]; exact I.z0
 z1 := by rw [g.old 1 (by have := G.lo; omega)]; exact I.z1
 rk := I.rk
 kn := I.kn
 k9 := by have := I.lt G (I.kn 15 (by omega)); rw [g.old 92 (by omega)]; exact I.k9
 k10 := by have := I.lt G (I.kn 15 (by omega)); rw [g.old 101 (by omega)]; exact I.k10
 k11 := by have := I.lt G (I.kn 15 (by omega)); rw [g.old 110 (by omega)]; exact I.k11
 k8 := by have := I.lt G (I.kn 15 (by omega)); rw [g.old 83 (by omega)]; exact I.k8
 k1 := by have := I.lt G (I.kn 15 (by omega)); rw [g.old 20 (by omega)]; exact I.k1
 dj := fun a b ha hb hab hd hh => by
  have hk : M.fin < 16000000 := by have := G.le; have := G.hi; omega
  rw [g.pl, rL _ hk] at ha hb
  by_cases eb : b = M.fin
  ·rw [if_neg (by omega)] at ha
   obtain ⟨h3, hd', h1, h2, h4, _⟩ := G.ob a ha
   rw [g.old a (by omega)] at hh
   have e : hd' = hd := Int.ofNat.inj (h1.symm.trans hh)
   omega
  ·rw [if_neg eb] at hb
   obtain ⟨_, _, _, _, h5, _⟩ := G.ob b hb
   rw [if_neg (by omega)] at ha
   rw [g.old a (by omega)] at hh
   exact I.dj a b ha hb hab hd hh
 cl := fun c hc => by
  have hlt := I.lt G hc
  have C := I.cl c hc
  have hk : M.fin < 16000000 := by have := G.le; have := G.hi; omega
  refine ⟨C.pt, ?_, by rw [g.old c (by omega)]; exact C.hd, by rw [g.old (c + 1) (by omega)]; exact C.cl, ?_, by rw [g.old (c + 5) (by omega)]; exact C.sz, by rw [g.old (c + 8) (by omega)]; exact C.kd⟩
  ·rw [g.pl, rL _ hk]
   split
   ·decide
   ·exact C.pl
  ·obtain ⟨s, q1, q2⟩ := C.nm
   rw [g.old (c + 3) (by omega)]
   exact ⟨s, g.txo G q1, q2⟩
 ob := fun a ha hd hh => by
  have hk : M.fin < 16000000 := by have := G.le; have := G.hi; omega
  rw [g.pl, rL _ hk] at ha
  have hcl : ∀ c ∈ CL, M'.t.get (c + 8) = M.t.get (c + 8) := fun c hc => g.old _ (by have := I.lt G hc; omega)
  by_cases ea : a = M.fin
  ·subst ea
   rw [g.hd] at hh
   have e : hd = l.length * 4 + f := (Int.ofNat.inj hh).symm
   have h4 : hd / 4 = l.length := by have := N.fmt; omega
   have hm : hd % 4 = f := by have := N.fmt; omega
   have hnew : ∀ i, i < hd / 4 → ∃ v ∈ l, M'.t.get (M.fin + 3 + i) = v := fun i hi => by
    rw [h4] at hi
    exact ⟨l[i], List.getElem_mem hi, g.new i _ (List.getElem?_eq_getElem hi)⟩
   refine ⟨by rw [h4]; exact N.len, by rw [hm]; exact N.fmt, ?_, ?_, ?_, ?_, ?_⟩
   ·rw [g.cl, hm]; exact N.arr
   ·rw [g.cl, hm]; exact N.str
   ·intro q i hi
    obtain ⟨v, q1, q2⟩ := hnew i hi
    obtain ⟨c, q3, q4⟩ := N.by8 (by rw [← hm]; exact q) v q1
    exact ⟨c, q3, q2.trans q4⟩
   ·rw [g.cl]; exact fun q => absurd q N.ncl
   ·intro _ c hc q1 q2
    rw [hcl c hc] at q1
    rw [g.cl] at q2
    obtain ⟨q3, q4⟩ := N.pl c hc q1 q2
    refine ⟨by rw [hm]; exact q3, fun i hi => ?_⟩
    obtain ⟨v, q5, q6⟩ := hnew i hi
    rw [q6, q4 v q5]
  ·rw [if_neg ea] at ha
   obtain ⟨h3, hd', h1, h2, h4, _⟩ := G.ob a ha
   rw [g.old a (by omega)] at hh
   have e : hd' = hd := Int.ofNat.inj (h1.symm.trans hh)
   subst e
   have O := I.ob a ha hd' hh
   have ho : ∀ j, j < 3 + hd' / 4 → M'.t.get (a + j) = M.t.get (a + j) := fun j hj => g.old _ (by omega)
   have h1' := ho 1 (by omega)
   refine ⟨O.len, O.fmt, by rw [h1']; exact O.arr, by rw [h1']; exact O.str, fun q i hi => ?_, by rw [h1']; exact O.cls, fun hz c hc q1 q2 => ?_⟩
   ·have := ho (3 + i) (by omega)
    rw [show a + 3 + i = a + (3 + i) by omega, this, ← show a + 3 + i = a + (3 + i) by omega]
    exact O.by8 q i hi
   ·rw [hcl c hc] at q1
    rw [h1'] at q2
    obtain ⟨q3, q4⟩ := O.pl hz c hc q1 q2
    refine ⟨q3, fun i hi => ?_⟩
    have := ho (3 + i) (by omega)
    rw [show a + 3 + i = a + (3 + i) by omega, this, ← show a + 3 + i = a + (3 + i) by omega]
    exact q4 i hi
theorem GI.roots {R' : List Int} (I : GI M R CL z) (hR : ∀ i, R'.getD (i + 1) 0 = R.getD (i + 1) 0) : GI M R' CL z where
 z0 := I.z0
 z1 := I.z1
 rk := fun i hi => by rw [show 2 + i = (1 + i) + 1 by omega, hR, show (1 + i) + 1 = 2 + i by omega]; exact I.rk i hi
 kn := I.kn
 dj := I.dj
 k9 := I.k9
 k10 := I.k10
 k11 := I.k11
 k8 := I.k8
 k1 := I.k1
 cl := fun c hc => by
  have C := I.cl c hc
  refine ⟨C.pt, C.pl, C.hd, ?_, ?_, C.sz, C.kd⟩
  ·rw [hR 2]; exact C.cl
  ·rw [hR 12]; exact C.nm
 ob := fun a ha hd hh => by
  have O := I.ob a ha hd hh
  refine ⟨O.len, O.fmt, ?_, ?_, O.by8, ?_, O.pl⟩
  ·rw [hR 10]; exact O.arr
  ·rw [hR 11, hR 12]; exact O.str
  ·rw [hR 2]; exact O.cls
theorem GI.newK (I : GI M R CL z) {i : Nat} (hi : (i = 9 ∧ f = 0) ∨ ((i = 10 ∨ i = 11) ∧ f = 2) ∨ (i = 8 ∧ f = 1)) (hl : l.length ≤ 256) (hb : f = 2 → ∀ v ∈ l, ∃ c : Nat, c < 256 ∧ v = .ofNat c) : NewI M R CL f (R.getD (2 + i) 0) l := by
 have r := fun j hj => I.rk j hj
 have hi16 : i < 16 := by omega
 have ne : ∀ j, j < 16 → (R.getD (2 + i) 0 = R.getD (2 + j) 0 ↔ i = j) := fun j hj => by
  rw [r i hi16, r j hj]
  constructor
  ·intro q
   have := Int.ofNat.inj q
   omega
  ·intro q; rw [q]
 refine ⟨hl, by omega, fun q => ?_, fun q => ?_, hb, fun q => ?_, fun c hc q1 q2 => ?_⟩
 ·have := (ne 9 (by omega)).1 q
  omega
 ·have : i = 10 ∨ i = 11 := q.elim (fun q => .inl ((ne 10 (by omega)).1 q)) (fun q => .inr ((ne 11 (by omega)).1 q))
  omega
 ·have := (ne 1 (by omega)).1 q
  omega
 ·exfalso
  rw [r i hi16] at q2
  have e := Int.ofNat.inj q2
  have hc' : c = 3 + 9 * i := by omega
  subst hc'
  rcases hi with ⟨rfl, _⟩ | ⟨rfl | rfl, _⟩ | ⟨rfl, _⟩
  ·rw [show 3 + 9 * 9 + 8 = 92 from rfl, I.k9] at q1; cases q1
  ·rw [show 3 + 9 * 10 + 8 = 101 from rfl, I.k10] at q1; cases q1
  ·rw [show 3 + 9 * 11 + 8 = 110 from rfl, I.k11] at q1; cases q1
  ·rw [show 3 + 9 * 8 + 8 = 83 from rfl, I.k8] at q1; cases q1
end
end Go.Dd

