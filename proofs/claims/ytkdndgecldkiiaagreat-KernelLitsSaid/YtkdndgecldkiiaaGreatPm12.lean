/- A part of the proof: HD HE OC T0 TL TM TN TP TQ TR HF HG HI W1 W2 W3 W4 W5 LT0 LT1 LT2 LT3 RH R12 NJ W6 FGT FGC FGV HG6 FG0 KL0 PRS: each text has a comment of its own. -/
import Derived.Test.YtkdndgecldkiiaaGreatPm4
import Derived.Test.YtkdndgecldkiiaaGreatPm5
import Derived.Test.YtkdndgecldkiiaaGreatPm6
import Derived.Test.YtkdndgecldkiiaaGreatPm7
import Derived.Test.YtkdndgecldkiiaaGreatPm8
import Derived.Test.YtkdndgecldkiiaaGreatPm9
import Derived.Test.YtkdndgecldkiiaaGreatPm10
import Derived.Test.YtkdndgecldkiiaaGreatPm11
import Derived.Lib.Bytealg
set_option linter.unusedVariables false
set_option linter.unusedSimpArgs false
set_option linter.constructorNameAsVariable false
set_option maxRecDepth 100000
namespace Go.Dd
theorem mP : ∀ p q : Pos, mV p q = true → p = q
 | .h, .h, _ => rfl
 | .h, .o q, h => by cases h
 | .h, .i q, h => by cases h
 | .o p, .h, h => by cases h
 | .o p, .o q, h => by rw [mP p q h]
 | .o p, .i q, h => by cases h
 | .i p, .h, h => by cases h
 | .i p, .o q, h => by cases h
 | .i p, .i q, h => by rw [mP p q h]
theorem nS (x y : Int) (h : gX x y = true) : x = y := by
 cases x <;> cases y <;> simp only [gX] at h
 ·rw [Nat.eq_of_beq_eq_true h]
 ·cases h
 ·cases h
 ·rw [Nat.eq_of_beq_eq_true h]
theorem aHx : ∀ t u : WT, wtE t u = true → t = u
 | .e, .e, _ => rfl
 | .e, .n _ _ _, h => by cases h
 | .n _ _ _, .e, h => by cases h
 | .n l v r, .n l' v' r', h => by
  have h' : (gX v v' && (wtE l l' && wtE r r')) = true := h
  simp only [Bool.and_eq_true] at h'
  rw [nS _ _ h'.1, aHx _ _ h'.2.1, aHx _ _ h'.2.2]
theorem aOo (x y : DV) (h : dvE x y = true) : x = y := by
 unfold dvE at h
 split at h <;> (try (cases h; done)) <;> (try rfl)
 ·rw [nS _ _ h]
 ·rw [(lZ _ _).1 h]
 ·simp only [Bool.and_eq_true] at h
  rw [mP _ _ h.1, Nat.eq_of_beq_eq_true h.2]
 ·simp only [Bool.and_eq_true] at h
  rw [mP _ _ h.1, Nat.eq_of_beq_eq_true h.2.1, Nat.eq_of_beq_eq_true h.2.2.1, Nat.eq_of_beq_eq_true h.2.2.2]
 ·rw [mP _ _ h]
 ·simp at h; rw [h]
theorem aCk : ∀ l m : List DV, cKs l m = true → l = m
 | [], [], _ => rfl
 | [], _ :: _, h => by cases h
 | _ :: _, [], h => by cases h
 | x :: l, y :: m, h => by
  have h' : (dvE x y && cKs l m) = true := h
  simp only [Bool.and_eq_true] at h'
  rw [aOo _ _ h'.1, aCk _ _ h'.2]
theorem aZq : ∀ l m : List (DV × DV), cTd l m = true → l = m
 | [], [], _ => rfl
 | [], _ :: _, h => by cases h
 | _ :: _, [], h => by cases h
 | x :: l, y :: m, h => by
  have h' : (dvE x.1 y.1 && (dvE x.2 y.2 && cTd l m)) = true := h
  simp only [Bool.and_eq_true] at h'
  rw [aZq _ _ h'.2.2]
  congr 1
  exact Prod.ext (aOo _ _ h'.1) (aOo _ _ h'.2.1)
theorem cPr (o p : Ob) (h : obE o p = true) : o = p := by
 unfold obE at h
 split at h <;> (try (cases h; done))
 ·rw [aCk _ _ h]
 ·rw [aZq _ _ h]
 ·simp only [Bool.and_eq_true] at h
  rw [Nat.eq_of_beq_eq_true h.1, aHx _ _ h.2]
 ·rw [aHx _ _ h]
theorem aKn (t : Tr Ob) : ∀ l : List (Pos × Ob), bPo t l = true → ∀ x ∈ l, t.get x.1 = some x.2
 | [], _, x, hx => by cases hx
 | y :: l, h, x, hx => by
  have h' : ((match t.get y.1 with
   | some o => obE o y.2
   | none => false) && bPo t l) = true := h
  simp only [Bool.and_eq_true] at h'
  rcases List.mem_cons.1 hx with rfl | hx
  ·have h1 := h'.1
   split at h1
   ·rename_i o ho
    rw [ho, cPr _ _ h1]
   ·cases h1
  ·exact aKn t l h'.2 x hx
theorem aKc : ∀ (l : List (Pos × Ob)) (b : Pos) (o : Ob), (cSb l).get b = some o → (b, o) ∈ l
 | [], b, o, h => by cases b <;> cases h
 | y :: l, b, o, h => by
  have h' : (Tr.set y.2 y.1 (cSb l)).get b = some o := h
  by_cases e : b = y.1
  ·subst e
   rw [dNc] at h'
   simp only [bC] at h'
   rw [← h']
   exact List.mem_cons_self
  ·rw [dNb _ _ _ _ e] at h'
   exact List.mem_cons_of_mem _ (aKc l b o h')
theorem lT (o : Ob) : vG true o o := by cases o <;> simp [vG]
theorem Sim.refl (h : Hp) : Sim true h h := ⟨rfl, fun b o hb => ⟨o, hb, lT o⟩⟩
theorem kR {o o' : Ob} (h : vG true o o') : o' = o := by cases o <;> simpa [vG] using h
theorem Sim.trans {a b c : Hp} (h : Sim true a b) (k : Sim true b c) : Sim true a c := ⟨k.next.trans h.next, fun p o hp => by
 obtain ⟨o', h1, h2⟩ := h.get p o hp
 rw [kR h2] at h1
 exact k.get p o h1⟩
theorem aJh {r : aH} {vs : List DV} {nx : Nat} {l : List (Pos × Ob)} (h : fP r vs nx l = true) : ∃ g, r = some (.t vs, g) ∧ Sim true (dW nx l) g := by
 unfold fP at h
 split at h <;> (try (cases h; done))
 rename_i us g
 simp only [Bool.and_eq_true] at h
 refine ⟨g, by rw [aCk _ _ h.1], ?_, fun b o hb => ⟨o, ?_, lT o⟩⟩
 ·exact mP _ _ h.2.1
 ·exact aKn _ _ h.2.2 (b, o) (aKc _ _ _ hb)
end Go.Dd

namespace Go.Dd
open Go.Proofs
noncomputable section
def pN0 : Code := cf Tryz.f7
def pN1 : Code := cR pN0
def pN2 : Code := cR pN1
def pN3 : Code := cR pN2
def pN4 : Code := cR pN3
def pN5 : Code := cR pN4
def pN6 : Code := cR pN5
def bEh : Code := .seq (cL pN0) (.seq (cL pN1) (.seq (cL pN2) (.seq (cL pN3) (.seq (cL pN4) (.seq (cL pN5) (cL (cL pN6)))))))
def bPl : Code := cR (cL pN6)
def dBb : Code := cR pN6
def hS : Hp := ⟨aL 1, .e⟩
def cZa : K := fun e h => some (.t [e 5, e 155, e 156, e 157], h)
def bRs (n : Nat) : aH := aP CF (cA 899) 179 899 bEh (fun _ _ _ => none) (fun _ _ => none) cZa (aJ [.i .i64 (.ofNat n)]) hS
end
theorem he0 : fP (bRs 20000) (eU 0) 432 (fY 20000 553 84 18 [1076, 1096, 6, 24, 42, 60, 78, 96, 114, 132, 150, 168, 186, 204, 222, 240, 258, 276] [(10, 0), (19, 0), (46, 0), (55, 0), (64, 0), (91, 0), (100, 0), (109, 0), (118, 0), (127, 0), (145, 0)] 0) = true := by kernel_rfl
end Go.Dd

namespace Go.Dd
inductive Out where
 | n (e : bA) (h : Hp)
 | x (i : Nat) (e : bA) (h : Hp)
 | r (e : bA) (h : Hp)
def dOi (o : Option Out) (X : Nat → K) (kr k : K) : aH :=
 match o with
 | none => none
 | some (.n e h) => k e h
 | some (.x i e h) => X i e h
 | some (.r e h) => kr e h
section
variable {C : Cfg} {rec : FuncId → List DV → Hp → aH} {nt : Nat}
theorem aTi (all : Array Oper) : ∀ l : List Oper, ∃ O : bA → Hp → Option (bA × Hp), ∀ k env h, gW C rec nt all l k env h = match O env h with
  | none => none
  | some (e, h) => k e h
 | [] => ⟨fun e h => some (e, h), fun k env h => rfl⟩
 | o :: l => by
  obtain ⟨O, hO⟩ := aTi all l
  refine ⟨fun env h => bif cZ nt o.dst then (match bI C rec all o env h with
   | some (v, h') => O (bO env o.dst v) h'
   | none => none) else none, fun k env h => ?_⟩
  change cnd (cZ nt o.dst) (bnd (bI C rec all o env h) fun v h' => gW C rec nt all l k (bO env o.dst v) h') = _
  cases cZ nt o.dst with
  | false => rfl
  | true =>
   simp only [cond_true]
   cases hs : bI C rec all o env h with
   | none => rfl
   | some p => exact hO k _ _
theorem aLl (all : Array Oper) (m : Array Nat) (p0 : Pos) : ∀ (l : List Oper) (i c : Nat) (dirty : Bool) (rd : List Seen) (hs : List (Option Nat × Hp)), ∃ O : bA → Hp → Option (bA × Hp),
  ∀ k env h, eG C rec nt all m p0 l k i c dirty rd hs env h = match O env h with
   | none => none
   | some (e, h) => k e h
 | [], i, c, dirty, rd, hs => ⟨fun e h => some (e, h), fun k env h => rfl⟩
 | o :: l, i, c, dirty, rd, hs => by
  have ih := aLl all m p0 l
  cases hc : bW C.P o.op with
  | pure =>
   obtain ⟨O, hO⟩ := ih (i + 1) c dirty rd hs
   refine ⟨fun env h => bif cZ nt o.dst then (match bI C rec all o env h with
    | some (v, h') => O (bO env o.dst v) h'
    | none => none) else none, fun k env h => ?_⟩
   have e : eG C rec nt all m p0 (o :: l) k i c dirty rd hs env h = cnd (cZ nt o.dst) (bnd (bI C rec all o env h) fun v h' => eG C rec nt all m p0 l k (i + 1) c dirty rd hs (bO env o.dst v) h') := by
    change cnd (cZ nt o.dst) (match bW C.P o.op with | .pure => _ | .reads => _ | .makes => _ | .acts => _) = _
    rw [hc]
    rfl
   rw [e]
   cases cZ nt o.dst with
   | false => rfl
   | true =>
    simp only [cond_true]
    cases hs : bI C rec all o env h with
    | none => rfl
    | some p => exact hO k _ _
  | reads =>
   have hex : ∀ (env : bA) (v : DV), ∃ O : bA → Hp → Option (bA × Hp), ∀ k e h, eG C rec nt all m p0 l k (i + 1) c dirty (⟨i, bI C rec all o env, v⟩ :: rd) hs e h = match O e h with
    | none => none
    | some (e, h) => k e h := fun env v => ih (i + 1) c dirty (⟨i, bI C rec all o env, v⟩ :: rd) hs
   refine ⟨fun env h => bif cZ nt o.dst then (match bI C rec all o env h with
    | some (v, h') => bif eH m i v (bI C rec all o env) dirty hs then (hex env v).choose (bO env o.dst v) h' else none
    | none => none) else none, fun k env h => ?_⟩
   have e : eG C rec nt all m p0 (o :: l) k i c dirty rd hs env h = cnd (cZ nt o.dst) (bnd (bI C rec all o env h) fun v h' =>
     cnd (eH m i v (bI C rec all o env) dirty hs) (eG C rec nt all m p0 l k (i + 1) c dirty (⟨i, bI C rec all o env, v⟩ :: rd) hs (bO env o.dst v) h')) := by
    change cnd (cZ nt o.dst) (match bW C.P o.op with | .pure => _ | .reads => _ | .makes => _ | .acts => _) = _
    rw [hc]
    rfl
   rw [e]
   cases cZ nt o.dst with
   | false => rfl
   | true =>
    simp only [cond_true]
    cases hs2 : bI C rec all o env h with
    | none => rfl
    | some p =>
     obtain ⟨v, h'⟩ := p
     show cnd (eH m i v (bI C rec all o env) dirty hs) _ = _
     cases hcc : eH m i v (bI C rec all o env) dirty hs with
     | false => simp only [hcc, cond_false]
     | true => simp only [hcc, cond_true]; exact (hex env v).choose_spec k _ _
  | makes =>
   obtain ⟨O, hO⟩ := ih (i + 1) (c + 1) true rd hs
   refine ⟨fun env h => bif cZ nt o.dst then (match dS C o (cF c p0) env h with
    | some (v, h') => O (bO env o.dst v) h'
    | none => none) else none, fun k env h => ?_⟩
   have e : eG C rec nt all m p0 (o :: l) k i c dirty rd hs env h = cnd (cZ nt o.dst) (bnd (dS C o (cF c p0) env h) fun v h' => eG C rec nt all m p0 l k (i + 1) (c + 1) true rd hs (bO env o.dst v) h') := by
    change cnd (cZ nt o.dst) (match bW C.P o.op with | .pure => _ | .reads => _ | .makes => _ | .acts => _) = _
    rw [hc]
    rfl
   rw [e]
   cases cZ nt o.dst with
   | false => rfl
   | true =>
    simp only [cond_true]
    cases hs : dS C o (cF c p0) env h with
    | none => rfl
    | some p => exact hO k _ _
  | acts =>
   have hex : ∀ h' : Hp, ∃ O : bA → Hp → Option (bA × Hp), ∀ k e h, eG C rec nt all m p0 l k (i + 1) c false rd ((some i, h') :: hs) e h = match O e h with
    | none => none
    | some (e, h) => k e h := fun h' => ih (i + 1) c false rd ((some i, h') :: hs)
   refine ⟨fun env h => bif cZ nt o.dst then (match bI C rec all o env h with
    | some (v, h') => bif rd.all (fun q => gN m q.at_ i || bM (q.look h') q.v) then (hex h').choose (bO env o.dst v) h' else none
    | none => none) else none, fun k env h => ?_⟩
   have e : eG C rec nt all m p0 (o :: l) k i c dirty rd hs env h = cnd (cZ nt o.dst) (bnd (bI C rec all o env h) fun v h' =>
     cnd (rd.all (fun q => gN m q.at_ i || bM (q.look h') q.v)) (eG C rec nt all m p0 l k (i + 1) c false rd ((some i, h') :: hs) (bO env o.dst v) h')) := by
    change cnd (cZ nt o.dst) (match bW C.P o.op with | .pure => _ | .reads => _ | .makes => _ | .acts => _) = _
    rw [hc]
    rfl
   rw [e]
   cases cZ nt o.dst with
   | false => rfl
   | true =>
    simp only [cond_true]
    cases hs2 : bI C rec all o env h with
    | none => rfl
    | some p =>
     obtain ⟨v, h'⟩ := p
     show cnd (rd.all (fun q => gN m q.at_ i || bM (q.look h') q.v)) _ = _
     cases hcc : rd.all (fun q => gN m q.at_ i || bM (q.look h') q.v) with
     | false => simp only [hcc, cond_false]
     | true => simp only [hcc, cond_true]; exact (hex h').choose_spec k _ _
theorem wZ (n : Nat) : ∀ c : Code, ∃ O : bA → Hp → Option Out, ∀ X kr k env h, aP C rec nt n c X kr k env h = dOi (O env h) X kr k := by
 have hfail : ∃ O : bA → Hp → Option Out, ∀ (X : Nat → K) (kr k : K) (env : bA) (h : Hp), cQ env h = dOi (O env h) X kr k := ⟨fun _ _ => none, fun X kr k env h => rfl⟩
 intro c
 induction c with
 | skip => exact ⟨fun e h => some (.n e h), fun X kr k env h => rfl⟩
 | region id ops dr =>
  cases dr with
  | false =>
   obtain ⟨O, hO⟩ := aTi (C := C) (rec := rec) (nt := nt) ops ops.toList
   refine ⟨fun env h => (O env h).map fun p => .n p.1 p.2, fun X kr k env h => ?_⟩
   show gW C rec nt ops ops.toList k env h = _
   rw [hO]
   dsimp only
   cases hh : O env h <;> rfl
  | true =>
   cases hd : eL C.P ops with
   | false =>
    refine ⟨fun _ _ => none, fun X kr k env h => ?_⟩
    show (Bool.rec (motive := fun _ => K) cQ (iO C rec nt ops k) (eL C.P ops)) env h = _
    rw [hd]; rfl
   | true =>
    have hex : ∀ h : Hp, _ := fun h => aLl (C := C) (rec := rec) (nt := nt) ops (Region.before ops) h.next ops.toList 0 0 false [] [(none, resv (cK C.P ops.toList) h)]
    refine ⟨fun env h => ((hex h).choose env (resv (cK C.P ops.toList) h)).map fun p => .n p.1 p.2, fun X kr k env h => ?_⟩
    have e : aP C rec nt n (.region id ops true) X kr k env h = iO C rec nt ops k env h := by
     show (Bool.rec (motive := fun _ => K) cQ (iO C rec nt ops k) (eL C.P ops)) env h = _
     rw [hd]
    rw [e]
    unfold iO
    rw [(hex h).choose_spec k env _]
    dsimp only
    cases hh : (hex h).choose env (resv (cK C.P ops.toList) h) <;> rfl
 | seq x y ihx ihy =>
  obtain ⟨O1, h1⟩ := ihx
  obtain ⟨O2, h2⟩ := ihy
  refine ⟨fun env h => match O1 env h with
   | some (.n e h) => O2 e h
   | o => o, fun X kr k env h => ?_⟩
  show aP C rec nt n x X kr (aP C rec nt n y X kr k) env h = _
  rw [h1]
  dsimp only
  cases ho : O1 env h with
  | none => rfl
  | some o =>
   cases o with
   | n e h' => exact h2 X kr k e h'
   | x i e h' => rfl
   | r e h' => rfl
 | cond c x y ihx ihy =>
  obtain ⟨O1, h1⟩ := ihx
  obtain ⟨O2, h2⟩ := ihy
  refine ⟨fun env h => match opr env c with
   | .b true => O1 env h
   | .b false => O2 env h
   | _ => none, fun X kr k env h => ?_⟩
  show aX (opr env c) (aP C rec nt n x X kr k env h) (aP C rec nt n y X kr k env h) = _
  rw [h1, h2]
  unfold aX
  dsimp only
  cases opr env c <;> try rfl
  rename_i b
  cases b <;> rfl
 | block id x ih =>
  obtain ⟨O1, h1⟩ := ih
  refine ⟨fun env h => match O1 env h with
   | some (.x i e h') => bif Nat.beq i id then some (.n e h') else some (.x i e h')
   | o => o, fun X kr k env h => ?_⟩
  show aP C rec nt n x (fun j => bif Nat.beq j id then k else X j) kr k env h = _
  rw [h1]
  dsimp only
  cases ho : O1 env h with
  | none => rfl
  | some o =>
   cases o with
   | n e h' => rfl
   | r e h' => rfl
   | x i e h' =>
    simp only [dOi]
    cases hb : Nat.beq i id with
    | true => rfl
    | false => rfl
 | loop x ih =>
  obtain ⟨O1, h1⟩ := ih
  have key : ∀ m : Nat, ∃ O : bA → Hp → Option Out, ∀ (X : Nat → K) (kr k : K) env h, aM (fun kk => aP C rec nt n x X kr kk) m env h = dOi (O env h) X kr k := by
   intro m
   induction m with
   | zero => exact ⟨fun _ _ => none, fun X kr k env h => rfl⟩
   | succ m ihm =>
    obtain ⟨O2, h2⟩ := ihm
    refine ⟨fun env h => match O1 env h with
     | some (.n e h) => O2 e h
     | o => o, fun X kr k env h => ?_⟩
    show aP C rec nt n x X kr (aM (fun kk => aP C rec nt n x X kr kk) m) env h = _
    rw [h1]
    dsimp only
    cases ho : O1 env h with
    | none => rfl
    | some o =>
     cases o with
     | n e h' => exact h2 X kr k e h'
     | x i e h' => rfl
     | r e h' => rfl
  exact key n
 | rangeFunc f ps x y ihx ihy => exact hfail
 | exit id => exact ⟨fun e h => some (.x id e h), fun X kr k env h => rfl⟩
 | scope x ih => exact ih
 | label l => exact ⟨fun e h => some (.n e h), fun X kr k env h => rfl⟩
 | goto l => exact hfail
 | ret => exact ⟨fun e h => some (.r e h), fun X kr k env h => rfl⟩
 | refuse why => exact hfail
end
end Go.Dd

namespace Go.Dd
open Go.Proofs
noncomputable def t20 (rec : FuncId → List DV → Hp → aH) (n : Nat) (x0 x1 : DV) (h0 : Hp) : aH :=
 bnd (aD .eql x1 (.i .i64 (Int.ofNat 0)) h0) fun v1 h1 =>
 bnd (gD v1 false (some (x1, h1)) h1) fun v2 h2 =>
 bnd (gD v1 false (aD .eql v2 (.i .i64 (Int.ofNat 2)) h2) h2) fun v3 h3 =>
 bnd (aQ v1 (.b true) v3 h3) fun v4 h4 =>
 bnd (gD v4 false (some (x1, h4)) h4) fun v5 h5 =>
 bnd (gD v4 false (aD .eql v5 (.i .i64 (Int.ofNat 4)) h5) h5) fun v6 h6 =>
 bnd (aQ v4 (.b true) v6 h6) fun v7 h7 =>
 bnd (gD v7 false (some (x1, h7)) h7) fun v8 h8 =>
 bnd (gD v7 false (rec 45 [v8] h8) h8) fun v9 h9 =>
 bnd (aQ v7 (.b true) v9 h9) fun v10 h10 =>
 bnd (gD v10 false (some (x0, h10)) h10) fun v11 h11 =>
 bnd (gD v10 false (some (x1, h11)) h11) fun v12 h12 =>
 bnd (gD v10 false (rec 46 [v11, v12] h12) h12) fun v13 h13 =>
 bnd (aQ v10 (.b true) v13 h13) fun v14 h14 =>
 some (v14, h14)
noncomputable def E20 (rec : FuncId → List DV → Hp → aH) (n : Nat) (c : Code) (X : Nat → K) (k : K) : K := aP CF1 rec 24 n c X (aV CF1 Tryz.f18) k
theorem dJj (rec : FuncId → List DV → Hp → aH) (n : Nat) : E20 rec n (cf Tryz.f18) x0 (aV CF1 Tryz.f18) = (fun (env : bA) (h : Hp) => t20 rec n (env 0) (env 1) h) :=
 (by kernel_rfl)
theorem dGa (rec : FuncId → List DV → Hp → aH) (n : Nat) (args : List DV) (h : Hp) : aF CF1 rec n 18 args h = t20 rec n (args.getD 0 aU) (args.getD 1 aU) h :=
 (by kernel_rfl : aF CF1 rec n 18 args h = E20 rec n (cf Tryz.f18) x0 (aV CF1 Tryz.f18) (aJ args) h).trans ((congrFun (congrFun (dJj rec n) (aJ args)) h).trans (by kernel_rfl))
noncomputable def t21 (rec : FuncId → List DV → Hp → aH) (n : Nat) (x0 x1 : DV) (h0 : Hp) : aH :=
 bnd (rec 98 [x1] h0) fun v1 h1 =>
 bnd (gD v1 true (some (x0, h1)) h1) fun v2 h2 =>
 bnd (gD v1 true (aZ v2 h2) h2) fun v3 h3 =>
 bnd (gD v1 true (aB 3 v3 h3) h3) fun v4 h4 =>
 bnd (gD v1 true (aA v4 h4) h4) fun v5 h5 =>
 bnd (gD v1 true (some (x1, h5)) h5) fun v6 h6 =>
 bnd (gD v1 true (rec 99 [v6] h6) h6) fun v7 h7 =>
 cnd (bM (gD v1 true (aA v4 h7) h7) v5 && true) (
 bnd (gD v1 true (eK (.int .i64) (.b false) false v5 v7 h7) h7) fun v8 h8 =>
 bnd (aQ v1 v8 (.b false) h8) fun v9 h9 =>
 some (v9, h9))
noncomputable def E21 (rec : FuncId → List DV → Hp → aH) (n : Nat) (c : Code) (X : Nat → K) (k : K) : K := aP CF1 rec 16 n c X (aV CF1 Tryz.f46) k
theorem dLl (rec : FuncId → List DV → Hp → aH) (n : Nat) : E21 rec n (cf Tryz.f46) x0 (aV CF1 Tryz.f46) = (fun (env : bA) (h : Hp) => t21 rec n (env 0) (env 1) h) :=
 (by kernel_rfl)
theorem dBz (rec : FuncId → List DV → Hp → aH) (n : Nat) (args : List DV) (h : Hp) : aF CF1 rec n 46 args h = t21 rec n (args.getD 0 aU) (args.getD 1 aU) h :=
 (by kernel_rfl : aF CF1 rec n 46 args h = E21 rec n (cf Tryz.f46) x0 (aV CF1 Tryz.f46) (aJ args) h).trans ((congrFun (congrFun (dLl rec n) (aJ args)) h).trans (by kernel_rfl))
noncomputable def t22 (rec : FuncId → List DV → Hp → aH) (n : Nat) (x0 : DV) (h0 : Hp) : aH :=
 bnd (aZ x0 h0) fun v1 h1 =>
 bnd (aB 0 v1 h1) fun v2 h2 =>
 bnd (aA v2 h2) fun v3 h3 =>
 bnd (cB v3 h3) fun v4 h4 =>
 some (v4, h4)
noncomputable def E22 (rec : FuncId → List DV → Hp → aH) (n : Nat) (c : Code) (X : Nat → K) (k : K) : K := aP CF1 rec 8 n c X (aV CF1 Tryz.f94) k
theorem dLq (rec : FuncId → List DV → Hp → aH) (n : Nat) : E22 rec n (cf Tryz.f94) x0 (aV CF1 Tryz.f94) = (fun (env : bA) (h : Hp) => t22 rec n (env 0) h) :=
 (by kernel_rfl)
theorem dEn (rec : FuncId → List DV → Hp → aH) (n : Nat) (args : List DV) (h : Hp) : aF CF1 rec n 94 args h = t22 rec n (args.getD 0 aU) h :=
 (by kernel_rfl : aF CF1 rec n 94 args h = E22 rec n (cf Tryz.f94) x0 (aV CF1 Tryz.f94) (aJ args) h).trans ((congrFun (congrFun (dLq rec n) (aJ args)) h).trans (by kernel_rfl))
noncomputable def t29 (rec : FuncId → List DV → Hp → aH) (n : Nat) (x0 : DV) (h0 : Hp) : aH :=
 bnd (aZ x0 h0) fun v1 h1 =>
 bnd (aB 0 v1 h1) fun v2 h2 =>
 bnd (aA v2 h2) fun v3 h3 =>
 bnd (cB v3 h3) fun v4 h4 =>
 bnd (aZ x0 h4) fun v5 h5 =>
 bnd (aB 1 v5 h5) fun v6 h6 =>
 bnd (aA v6 h6) fun v7 h7 =>
 bnd (aD .sub v4 v7 h7) fun v8 h8 =>
 some (v8, h8)
noncomputable def E29 (rec : FuncId → List DV → Hp → aH) (n : Nat) (c : Code) (X : Nat → K) (k : K) : K := aP CF1 rec 13 n c X (aV CF1 Tryz.f75) k
theorem dMx (rec : FuncId → List DV → Hp → aH) (n : Nat) : E29 rec n (cf Tryz.f75) x0 (aV CF1 Tryz.f75) = (fun (env : bA) (h : Hp) => t29 rec n (env 0) h) :=
 (by kernel_rfl)
theorem dCm (rec : FuncId → List DV → Hp → aH) (n : Nat) (args : List DV) (h : Hp) : aF CF1 rec n 75 args h = t29 rec n (args.getD 0 aU) h :=
 (by kernel_rfl : aF CF1 rec n 75 args h = E29 rec n (cf Tryz.f75) x0 (aV CF1 Tryz.f75) (aJ args) h).trans ((congrFun (congrFun (dMx rec n) (aJ args)) h).trans (by kernel_rfl))
noncomputable def t30 (rec : FuncId → List DV → Hp → aH) (n : Nat) (x0 x1 x2 x3 : DV) (h0 : Hp) : aH :=
 bnd (rec 74 [x0, x1] h0) fun v1 h1 =>
 bnd (jE .not v1 h1) fun v2 h2 =>
 bnd (gD v2 false (some (x2, h2)) h2) fun v3 h3 =>
 bnd (gD v2 false (aD .lss v3 (.i .i64 (Int.ofNat 0)) h3) h3) fun v4 h4 =>
 bnd (aQ v2 (.b true) v4 h4) fun v5 h5 =>
 bnd (gD v5 false (some (x2, h5)) h5) fun v6 h6 =>
 bnd (gD v5 false (aD .gtr v6 (.i .i64 (Int.ofNat 2)) h6) h6) fun v7 h7 =>
 bnd (aQ v5 (.b true) v7 h7) fun v8 h8 =>
 bnd (gD v8 false (some (x3, h8)) h8) fun v9 h9 =>
 bnd (gD v8 false (aD .lss v9 (.i .i64 (Int.ofNat 0)) h9) h9) fun v10 h10 =>
 bnd (aQ v8 (.b true) v10 h10) fun v11 h11 =>
 bnd (gD v11 false (some (x3, h11)) h11) fun v12 h12 =>
 bnd (gD v11 false (aD .gtr v12 (.i .i64 (Int.ofNat 256)) h12) h12) fun v13 h13 =>
 bnd (aQ v11 (.b true) v13 h13) fun v14 h14 =>
 aX v14 (
  some (.t [(.i .i64 (Int.ofNat 0)), (.i .i64 (Int.ofNat 1))], h14)) (
  bnd (rec 75 [x0] h14) fun v15 h15 =>
  bnd (aD .add x3 (.i .i64 (Int.ofNat 3)) h15) fun v16 h16 =>
  bnd (aD .lss v15 v16 h16) fun v17 h17 =>
  bnd (gD v17 false (some (x0, h17)) h17) fun v18 h18 =>
  bnd (gD v17 false (aZ v18 h18) h18) fun v19 h19 =>
  bnd (gD v17 false (aB 2 v19 h19) h19) fun v20 h20 =>
  bnd (gD v17 false (aA v20 h20) h20) fun v21 h21 =>
  bnd (gD v17 false (aD .geq v21 (.i .i64 (Int.ofNat 1099511627776)) h21) h21) fun v22 h22 =>
  bnd (aQ v17 (.b true) v22 h22) fun v23 h23 =>
  aX v23 (
   some (.t [(.i .i64 (Int.ofNat 0)), (.i .i64 (Int.ofNat 4))], h23)) (
   bnd (aZ x0 h23) fun v24 h24 =>
   bnd (aB 1 v24 h24) fun v25 h25 =>
   bnd (aA v25 h25) fun v26 h26 =>
   bnd (aZ x0 h26) fun v27 h27 =>
   bnd (aB 2 v27 h27) fun v28 h28 =>
   bnd (aA v28 h28) fun v29 h29 =>
   bnd (aD .add v29 (.i .i64 (Int.ofNat 1)) h29) fun v30 h30 =>
   bnd (aZ x0 h30) fun v31 h31 =>
   bnd (aB 2 v31 h31) fun v32 h32 =>
   bnd (aI 1 v32 v30 h32) fun _ h33 =>
   bnd (aZ x0 h33) fun v34 h34 =>
   bnd (aB 0 v34 h34) fun v35 h35 =>
   bnd (aA v35 h35) fun v36 h36 =>
   bnd (aZ x0 h36) fun v37 h37 =>
   bnd (aB 0 v37 h37) fun v38 h38 =>
   bnd (aA v38 h38) fun v39 h39 =>
   bnd (aD .add v26 (.i .i64 (Int.ofNat 1)) h39) fun v40 h40 =>
   bnd (aZ x0 h40) fun v41 h41 =>
   bnd (aB 0 v41 h41) fun v42 h42 =>
   bnd (aA v42 h42) fun v43 h43 =>
   bnd (aD .add v26 (.i .i64 (Int.ofNat 2)) h43) fun v44 h44 =>
   bnd (dK .shl x3 (.i .u64 (Int.ofNat 2)) h44) fun v45 h45 =>
   bnd (aD .or v45 x2 h45) fun v46 h46 =>
   bnd (aZ x0 h46) fun v47 h47 =>
   bnd (aB 2 v47 h47) fun v48 h48 =>
   bnd (aA v48 h48) fun v49 h49 =>
   bnd (aE 1 v36 v26 h49) fun v50 h50 =>
   bnd (aI 1 v50 v46 h50) fun v51 h51 =>
   bnd (aE 1 v39 v40 h51) fun v52 h52 =>
   bnd (aI 1 v52 x1 h52) fun v53 h53 =>
   bnd (aE 1 v43 v44 h53) fun v54 h54 =>
   bnd (aI 1 v54 v49 h54) fun v55 h55 =>
   bnd (aZ x0 h55) fun v56 h56 =>
   bnd (aB 0 v56 h56) fun v57 h57 =>
   bnd (aA v57 h57) fun v58 h58 =>
   bnd (aD .add v26 (.i .i64 (Int.ofNat 3)) h58) fun v59 h59 =>
   bnd (aD .add v26 (.i .i64 (Int.ofNat 3)) h59) fun v60 h60 =>
   bnd (aD .add v60 x3 h60) fun v61 h61 =>
   bnd (cX 1 v58 (some v59) (some v61) h61) fun v62 h62 =>
   bnd (kH [(.i .i64 (Int.ofNat 0))] v62 h62) fun _ h63 =>
   bnd (aZ x0 h63) fun v64 h64 =>
   bnd (aB 1 v64 h64) fun v65 h65 =>
   bnd (aA v65 h65) fun v66 h66 =>
   bnd (aD .add x3 (.i .i64 (Int.ofNat 3)) h66) fun v67 h67 =>
   bnd (aD .add v66 v67 h67) fun v68 h68 =>
   bnd (aZ x0 h68) fun v69 h69 =>
   bnd (aB 1 v69 h69) fun v70 h70 =>
   bnd (aI 1 v70 v68 h70) fun _ h71 =>
   bnd (aZ x0 h71) fun v72 h72 =>
   bnd (aB 3 v72 h72) fun v73 h73 =>
   bnd (aA v73 h73) fun v74 h74 =>
   bnd (gL (.int .i64) v74 v26 (.b true) h74) fun _ h75 =>
   bnd (rec 76 [v26] h75) fun v76 h76 =>
   bnd (aC 0 v76 h76) fun v77 h77 =>
   bnd (aC 1 v76 h77) fun v78 h78 =>
   some (.t [v77, (.i .i64 (Int.ofNat 0))], h78)))
noncomputable def E30 (rec : FuncId → List DV → Hp → aH) (n : Nat) (c : Code) (X : Nat → K) (k : K) : K := aP CF1 rec 118 n c X (aV CF1 Tryz.f31) k
theorem dMp (rec : FuncId → List DV → Hp → aH) (n : Nat) : E30 rec n (cf Tryz.f31) x0 (aV CF1 Tryz.f31) = (fun (env : bA) (h : Hp) => t30 rec n (env 0) (env 1) (env 2) (env 3) h) :=
 (by kernel_rfl)
theorem dDi (rec : FuncId → List DV → Hp → aH) (n : Nat) (args : List DV) (h : Hp) : aF CF1 rec n 31 args h = t30 rec n (args.getD 0 aU) (args.getD 1 aU) (args.getD 2 aU) (args.getD 3 aU) h :=
 (by kernel_rfl : aF CF1 rec n 31 args h = E30 rec n (cf Tryz.f31) x0 (aV CF1 Tryz.f31) (aJ args) h).trans ((congrFun (congrFun (dMp rec n) (aJ args)) h).trans (by kernel_rfl))
noncomputable def t41 (rec : FuncId → List DV → Hp → aH) (n : Nat) (x0 : DV) (h0 : Hp) : aH :=
 bnd (aD .lss x0 (.i .i64 (Int.ofNat 16)) h0) fun v1 h1 =>
 bnd (gD v1 false (some (x0, h1)) h1) fun v2 h2 =>
 bnd (gD v1 false (aD .gtr v2 (.i .i64 (Int.ofNat 131072)) h2) h2) fun v3 h3 =>
 bnd (aQ v1 (.b true) v3 h3) fun v4 h4 =>
 aX v4 (
  some (.p0, h4)) (
  bnd (cP 1 8 [(.i .i64 (Int.ofNat 0))] x0 x0 h4) fun v5 h5 =>
  bnd (dY h5) fun v6 h6 =>
  bnd (bE [.l0, (.i .i64 (Int.ofNat 0)), (.i .i64 (Int.ofNat 0)), .m0] [(0, 1, v5), (1, 1, (.i .i64 (Int.ofNat 3))), (3, 1, v6)] h6) fun v7 h7 =>
  bnd (bU v7 h7) fun v8 h8 =>
  some (v8, h8))
noncomputable def E41 (rec : FuncId → List DV → Hp → aH) (n : Nat) (c : Code) (X : Nat → K) (k : K) : K := aP CF1 rec 14 n c X (aV CF1 Tryz.f30) k
theorem dMu (rec : FuncId → List DV → Hp → aH) (n : Nat) : E41 rec n (cf Tryz.f30) x0 (aV CF1 Tryz.f30) = (fun (env : bA) (h : Hp) => t41 rec n (env 0) h) :=
 (by kernel_rfl)
theorem cOp (rec : FuncId → List DV → Hp → aH) (n : Nat) (args : List DV) (h : Hp) : aF CF1 rec n 30 args h = t41 rec n (args.getD 0 aU) h :=
 (by kernel_rfl : aF CF1 rec n 30 args h = E41 rec n (cf Tryz.f30) x0 (aV CF1 Tryz.f30) (aJ args) h).trans ((congrFun (congrFun (dMu rec n) (aJ args)) h).trans (by kernel_rfl))
noncomputable def t44 (rec : FuncId → List DV → Hp → aH) (n : Nat) (x0 x1 x2 : DV) (h0 : Hp) : aH :=
 bnd (rec 85 [x0, x1] h0) fun v1 h1 =>
 bnd (aD .eql v1 (.i .i64 (Int.ofNat 0)) h1) fun v2 h2 =>
 bnd (gD v2 false (some (x0, h2)) h2) fun v3 h3 =>
 bnd (gD v2 false (some (x2, h3)) h3) fun v4 h4 =>
 bnd (gD v2 false (rec 74 [v3, v4] h4) h4) fun v5 h5 =>
 bnd (gD v2 false (jE .not v5 h5) h5) fun v6 h6 =>
 bnd (aQ v2 (.b true) v6 h6) fun v7 h7 =>
 aX v7 (
  some ((.i .i64 (Int.ofNat 1)), h7)) (
  bnd (aZ x0 h7) fun v8 h8 =>
  bnd (aB 0 v8 h8) fun v9 h9 =>
  bnd (aA v9 h9) fun v10 h10 =>
  bnd (aD .add v1 (.i .i64 (Int.ofNat 1)) h10) fun v11 h11 =>
  bnd (aE 1 v10 v11 h11) fun v12 h12 =>
  bnd (aI 1 v12 x2 h12) fun _ h13 =>
  some ((.i .i64 (Int.ofNat 0)), h13))
noncomputable def E44 (rec : FuncId → List DV → Hp → aH) (n : Nat) (c : Code) (X : Nat → K) (k : K) : K := aP CF1 rec 27 n c X (aV CF1 Tryz.f35) k
theorem dKh (rec : FuncId → List DV → Hp → aH) (n : Nat) : E44 rec n (cf Tryz.f35) x0 (aV CF1 Tryz.f35) = (fun (env : bA) (h : Hp) => t44 rec n (env 0) (env 1) (env 2) h) :=
 (by kernel_rfl)
theorem dBm (rec : FuncId → List DV → Hp → aH) (n : Nat) (args : List DV) (h : Hp) : aF CF1 rec n 35 args h = t44 rec n (args.getD 0 aU) (args.getD 1 aU) (args.getD 2 aU) h :=
 (by kernel_rfl : aF CF1 rec n 35 args h = E44 rec n (cf Tryz.f35) x0 (aV CF1 Tryz.f35) (aJ args) h).trans ((congrFun (congrFun (dKh rec n) (aJ args)) h).trans (by kernel_rfl))
noncomputable def tB (rec : FuncId → List DV → Hp → aH) (n : Nat) (x0 x3 x9 : DV) (h0 : Hp) : aH :=
 bnd (aZ x0 h0) fun v1 h1 =>
 bnd (aB 0 v1 h1) fun v2 h2 =>
 bnd (aA v2 h2) fun v3 h3 =>
 bnd (aE 1 v3 x9 h3) fun v4 h4 =>
 bnd (aI 1 v4 x3 h4) fun _ h5 =>
 some ((.i .i64 (Int.ofNat 0)), h5)
noncomputable def aZf (rec : FuncId → List DV → Hp → aH) (n : Nat) (x0 x1 x3 x9 : DV) (h0 : Hp) : aH :=
 bnd (rec 90 [x0, x1] h0) fun v11 h11 =>
 bnd (aD .eql v11 (.i .i64 (Int.ofNat 0)) h11) fun v12 h12 =>
 aX v12 (
  bnd (rec 18 [x0, x3] h12) fun v13 h13 =>
  bnd (jE .not v13 h13) fun v14 h14 =>
  aX v14 (
   some ((.i .i64 (Int.ofNat 6)), h14)) (
   tB rec n x0 x3 x9 h14)) (
  bnd (aD .eql v11 (.i .i64 (Int.ofNat 2)) h12) fun v15 h15 =>
  aX v15 (
   bnd (aD .lss x3 (.i .i64 (Int.ofNat 0)) h15) fun v16 h16 =>
   bnd (gD v16 false (some (x3, h16)) h16) fun v17 h17 =>
   bnd (gD v16 false (aD .gtr v17 (.i .i64 (Int.ofNat 255)) h17) h17) fun v18 h18 =>
   bnd (aQ v16 (.b true) v18 h18) fun v19 h19 =>
   aX v19 (
    some ((.i .i64 (Int.ofNat 6)), h19)) (
    tB rec n x0 x3 x9 h19)) (
   tB rec n x0 x3 x9 h15))
noncomputable def aMa (rec : FuncId → List DV → Hp → aH) (n : Nat) (x0 x1 x3 x9 x10 : DV) (h0 : Hp) : aH :=
 bnd (aD .neq x10 (.i .i64 (Int.ofNat 0)) h0) fun v29 h29 =>
 aX v29 (
  some (x10, h29)) (
  aZf rec n x0 x1 x3 x9 h29)
noncomputable def aXi (rec : FuncId → List DV → Hp → aH) (n : Nat) (x0 x1 x2 x3 : DV) (h0 : Hp) : aH :=
 bnd (rec 89 [x0, x1, x2] h0) fun v31 h31 =>
 bnd (aC 0 v31 h31) fun v32 h32 =>
 bnd (aC 1 v31 h32) fun v33 h33 =>
 aMa rec n x0 x1 x3 v32 v33 h33
noncomputable def t47 (rec : FuncId → List DV → Hp → aH) (n : Nat) (x0 x1 x2 x3 : DV) (h0 : Hp) : aH :=
 aXi rec n x0 x1 x2 x3 h0
noncomputable def E47 (rec : FuncId → List DV → Hp → aH) (n : Nat) (c : Code) (X : Nat → K) (k : K) : K := aP CF1 rec 45 n c X (aV CF1 Tryz.f38) k
theorem cVb (rec : FuncId → List DV → Hp → aH) (n : Nat) : E47 rec n (cR (cR (cR (cR (cf Tryz.f38))))) x0 (aV CF1 Tryz.f38) = (fun (env : bA) (h : Hp) => tB rec n (env 0) (env 3) (env 9) h) :=
 (by kernel_rfl)
theorem cDw (rec : FuncId → List DV → Hp → aH) (n : Nat) : E47 rec n (cR (cR (cR (cf Tryz.f38)))) x0 (aV CF1 Tryz.f38) = E47 rec n (cL (cR (cR (cR (cf Tryz.f38))))) x0 (fun (env : bA) (h : Hp) => tB rec n (env 0) (env 3) (env 9) h) :=
 congrArg (fun k => E47 rec n (cL (cR (cR (cR (cf Tryz.f38))))) x0 k) (cVb rec n)
theorem cXk (rec : FuncId → List DV → Hp → aH) (n : Nat) : E47 rec n (cR (cR (cR (cf Tryz.f38)))) x0 (aV CF1 Tryz.f38) = (fun (env : bA) (h : Hp) => aZf rec n (env 0) (env 1) (env 3) (env 9) h) :=
 (cDw rec n).trans
 ((by kernel_rfl))
theorem cDh (rec : FuncId → List DV → Hp → aH) (n : Nat) : E47 rec n (cR (cR (cf Tryz.f38))) x0 (aV CF1 Tryz.f38) = E47 rec n (cL (cR (cR (cf Tryz.f38)))) x0 (fun (env : bA) (h : Hp) => aZf rec n (env 0) (env 1) (env 3) (env 9) h) :=
 congrArg (fun k => E47 rec n (cL (cR (cR (cf Tryz.f38)))) x0 k) (cXk rec n)
theorem cYo (rec : FuncId → List DV → Hp → aH) (n : Nat) : E47 rec n (cR (cR (cf Tryz.f38))) x0 (aV CF1 Tryz.f38) = (fun (env : bA) (h : Hp) => aMa rec n (env 0) (env 1) (env 3) (env 9) (env 10) h) :=
 (cDh rec n).trans
 ((by kernel_rfl))
theorem cEq (rec : FuncId → List DV → Hp → aH) (n : Nat) : E47 rec n (cR (cf Tryz.f38)) x0 (aV CF1 Tryz.f38) = E47 rec n (cL (cR (cf Tryz.f38))) x0 (fun (env : bA) (h : Hp) => aMa rec n (env 0) (env 1) (env 3) (env 9) (env 10) h) :=
 congrArg (fun k => E47 rec n (cL (cR (cf Tryz.f38))) x0 k) (cYo rec n)
theorem cXy (rec : FuncId → List DV → Hp → aH) (n : Nat) : E47 rec n (cR (cf Tryz.f38)) x0 (aV CF1 Tryz.f38) = (fun (env : bA) (h : Hp) => aXi rec n (env 0) (env 1) (env 2) (env 3) h) :=
 (cEq rec n).trans
 ((by kernel_rfl))
theorem dDa (rec : FuncId → List DV → Hp → aH) (n : Nat) : E47 rec n (cf Tryz.f38) x0 (aV CF1 Tryz.f38) = E47 rec n (cL (cf Tryz.f38)) x0 (fun (env : bA) (h : Hp) => aXi rec n (env 0) (env 1) (env 2) (env 3) h) :=
 congrArg (fun k => E47 rec n (cL (cf Tryz.f38)) x0 k) (cXy rec n)
theorem dMf (rec : FuncId → List DV → Hp → aH) (n : Nat) : E47 rec n (cf Tryz.f38) x0 (aV CF1 Tryz.f38) = (fun (env : bA) (h : Hp) => t47 rec n (env 0) (env 1) (env 2) (env 3) h) :=
 (dDa rec n).trans
 ((by kernel_rfl))
theorem dHc (rec : FuncId → List DV → Hp → aH) (n : Nat) (args : List DV) (h : Hp) : aF CF1 rec n 38 args h = t47 rec n (args.getD 0 aU) (args.getD 1 aU) (args.getD 2 aU) (args.getD 3 aU) h :=
 (by kernel_rfl : aF CF1 rec n 38 args h = E47 rec n (cf Tryz.f38) x0 (aV CF1 Tryz.f38) (aJ args) h).trans ((congrFun (congrFun (dMf rec n) (aJ args)) h).trans (by kernel_rfl))
noncomputable def t50 (rec : FuncId → List DV → Hp → aH) (n : Nat) (x0 x1 : DV) (h0 : Hp) : aH :=
 bnd (aZ x0 h0) fun v1 h1 =>
 bnd (aB 0 v1 h1) fun v2 h2 =>
 bnd (aA v2 h2) fun v3 h3 =>
 bnd (rec 85 [x0, x1] h3) fun v4 h4 =>
 cnd (bM (aA v2 h4) v3 && true) (
 bnd (aD .add v4 (.i .i64 (Int.ofNat 1)) h4) fun v5 h5 =>
 bnd (aE 1 v3 v5 h5) fun v6 h6 =>
 bnd (aA v6 h6) fun v7 h7 =>
 some (v7, h7))
noncomputable def E50 (rec : FuncId → List DV → Hp → aH) (n : Nat) (c : Code) (X : Nat → K) (k : K) : K := aP CF1 rec 15 n c X (aV CF1 Tryz.f104) k
theorem dIv (rec : FuncId → List DV → Hp → aH) (n : Nat) : E50 rec n (cf Tryz.f104) x0 (aV CF1 Tryz.f104) = (fun (env : bA) (h : Hp) => t50 rec n (env 0) (env 1) h) :=
 (by kernel_rfl)
theorem dEs (rec : FuncId → List DV → Hp → aH) (n : Nat) (args : List DV) (h : Hp) : aF CF1 rec n 104 args h = t50 rec n (args.getD 0 aU) (args.getD 1 aU) h :=
 (by kernel_rfl : aF CF1 rec n 104 args h = E50 rec n (cf Tryz.f104) x0 (aV CF1 Tryz.f104) (aJ args) h).trans ((congrFun (congrFun (dIv rec n) (aJ args)) h).trans (by kernel_rfl))
noncomputable def t51 (rec : FuncId → List DV → Hp → aH) (n : Nat) (x0 x1 : DV) (h0 : Hp) : aH :=
 bnd (aZ x0 h0) fun v1 h1 =>
 bnd (aB 0 v1 h1) fun v2 h2 =>
 bnd (aA v2 h2) fun v3 h3 =>
 bnd (rec 85 [x0, x1] h3) fun v4 h4 =>
 cnd (bM (aA v2 h4) v3 && true) (
 bnd (aE 1 v3 v4 h4) fun v5 h5 =>
 bnd (aA v5 h5) fun v6 h6 =>
 bnd (aD .and v6 (.i .i64 (Int.ofNat 3)) h6) fun v7 h7 =>
 some (v7, h7))
noncomputable def E51 (rec : FuncId → List DV → Hp → aH) (n : Nat) (c : Code) (X : Nat → K) (k : K) : K := aP CF1 rec 15 n c X (aV CF1 Tryz.f90) k
theorem dJv (rec : FuncId → List DV → Hp → aH) (n : Nat) : E51 rec n (cf Tryz.f90) x0 (aV CF1 Tryz.f90) = (fun (env : bA) (h : Hp) => t51 rec n (env 0) (env 1) h) :=
 (by kernel_rfl)
theorem dAo (rec : FuncId → List DV → Hp → aH) (n : Nat) (args : List DV) (h : Hp) : aF CF1 rec n 90 args h = t51 rec n (args.getD 0 aU) (args.getD 1 aU) h :=
 (by kernel_rfl : aF CF1 rec n 90 args h = E51 rec n (cf Tryz.f90) x0 (aV CF1 Tryz.f90) (aJ args) h).trans ((congrFun (congrFun (dJv rec n) (aJ args)) h).trans (by kernel_rfl))
noncomputable def t52 (rec : FuncId → List DV → Hp → aH) (n : Nat) (x0 x1 : DV) (h0 : Hp) : aH :=
 bnd (aZ x0 h0) fun v1 h1 =>
 bnd (aB 0 v1 h1) fun v2 h2 =>
 bnd (aA v2 h2) fun v3 h3 =>
 bnd (rec 85 [x0, x1] h3) fun v4 h4 =>
 cnd (bM (aA v2 h4) v3 && true) (
 bnd (aE 1 v3 v4 h4) fun v5 h5 =>
 bnd (aA v5 h5) fun v6 h6 =>
 bnd (dK .shr v6 (.i .u64 (Int.ofNat 2)) h6) fun v7 h7 =>
 some (v7, h7))
noncomputable def E52 (rec : FuncId → List DV → Hp → aH) (n : Nat) (c : Code) (X : Nat → K) (k : K) : K := aP CF1 rec 15 n c X (aV CF1 Tryz.f73) k
theorem dMt (rec : FuncId → List DV → Hp → aH) (n : Nat) : E52 rec n (cf Tryz.f73) x0 (aV CF1 Tryz.f73) = (fun (env : bA) (h : Hp) => t52 rec n (env 0) (env 1) h) :=
 (by kernel_rfl)
theorem dGb (rec : FuncId → List DV → Hp → aH) (n : Nat) (args : List DV) (h : Hp) : aF CF1 rec n 73 args h = t52 rec n (args.getD 0 aU) (args.getD 1 aU) h :=
 (by kernel_rfl : aF CF1 rec n 73 args h = E52 rec n (cf Tryz.f73) x0 (aV CF1 Tryz.f73) (aJ args) h).trans ((congrFun (congrFun (dMt rec n) (aJ args)) h).trans (by kernel_rfl))
noncomputable def t54 (rec : FuncId → List DV → Hp → aH) (n : Nat) (x0 : DV) (h0 : Hp) : aH :=
 bnd (aD .and x0 (.i .i64 (Int.ofNat 1)) h0) fun v1 h1 =>
 bnd (aD .eql v1 (.i .i64 (Int.ofNat 1)) h1) fun v2 h2 =>
 bnd (gD v2 true (some (x0, h2)) h2) fun v3 h3 =>
 bnd (gD v2 true (dK .shr v3 (.i .u64 (Int.ofNat 1)) h3) h3) fun v4 h4 =>
 bnd (gD v2 true (rec 97 [v4, (.i .i64 (Int.negSucc 1073741823)), (.i .i64 (Int.ofNat 1073741823))] h4) h4) fun v5 h5 =>
 bnd (aQ v2 v5 (.b false) h5) fun v6 h6 =>
 some (v6, h6)
noncomputable def E54 (rec : FuncId → List DV → Hp → aH) (n : Nat) (c : Code) (X : Nat → K) (k : K) : K := aP CF1 rec 11 n c X (aV CF1 Tryz.f45) k
theorem dKv (rec : FuncId → List DV → Hp → aH) (n : Nat) : E54 rec n (cf Tryz.f45) x0 (aV CF1 Tryz.f45) = (fun (env : bA) (h : Hp) => t54 rec n (env 0) h) :=
 (by kernel_rfl)
theorem dHh (rec : FuncId → List DV → Hp → aH) (n : Nat) (args : List DV) (h : Hp) : aF CF1 rec n 45 args h = t54 rec n (args.getD 0 aU) h :=
 (by kernel_rfl : aF CF1 rec n 45 args h = E54 rec n (cf Tryz.f45) x0 (aV CF1 Tryz.f45) (aJ args) h).trans ((congrFun (congrFun (dKv rec n) (aJ args)) h).trans (by kernel_rfl))
noncomputable def t60 (rec : FuncId → List DV → Hp → aH) (n : Nat) (x0 : DV) (h0 : Hp) : aH :=
 bnd (rec 97 [x0, (.i .i64 (Int.negSucc 1073741823)), (.i .i64 (Int.ofNat 1073741823))] h0) fun v1 h1 =>
 bnd (jE .not v1 h1) fun v2 h2 =>
 aX v2 (
  some (.t [(.i .i64 (Int.ofNat 0)), (.b false)], h2)) (
  bnd (dK .shl x0 (.i .u64 (Int.ofNat 1)) h2) fun v3 h3 =>
  bnd (aD .or v3 (.i .i64 (Int.ofNat 1)) h3) fun v4 h4 =>
  some (.t [v4, (.b true)], h4))
noncomputable def E60 (rec : FuncId → List DV → Hp → aH) (n : Nat) (c : Code) (X : Nat → K) (k : K) : K := aP CF1 rec 10 n c X (aV CF1 Tryz.f88) k
theorem dMb (rec : FuncId → List DV → Hp → aH) (n : Nat) : E60 rec n (cf Tryz.f88) x0 (aV CF1 Tryz.f88) = (fun (env : bA) (h : Hp) => t60 rec n (env 0) h) :=
 (by kernel_rfl)
theorem dHi (rec : FuncId → List DV → Hp → aH) (n : Nat) (args : List DV) (h : Hp) : aF CF1 rec n 88 args h = t60 rec n (args.getD 0 aU) h :=
 (by kernel_rfl : aF CF1 rec n 88 args h = E60 rec n (cf Tryz.f88) x0 (aV CF1 Tryz.f88) (aJ args) h).trans ((congrFun (congrFun (dMb rec n) (aJ args)) h).trans (by kernel_rfl))
noncomputable def t62 (rec : FuncId → List DV → Hp → aH) (n : Nat) (x0 : DV) (h0 : Hp) : aH :=
 bnd (rec 45 [x0] h0) fun v1 h1 =>
 bnd (jE .not v1 h1) fun v2 h2 =>
 aX v2 (
  some ((.i .i64 (Int.ofNat 0)), h2)) (
  bnd (dK .shr x0 (.i .u64 (Int.ofNat 1)) h2) fun v3 h3 =>
  some (v3, h3))
noncomputable def E62 (rec : FuncId → List DV → Hp → aH) (n : Nat) (c : Code) (X : Nat → K) (k : K) : K := aP CF1 rec 8 n c X (aV CF1 Tryz.f122) k
theorem dIe (rec : FuncId → List DV → Hp → aH) (n : Nat) : E62 rec n (cf Tryz.f122) x0 (aV CF1 Tryz.f122) = (fun (env : bA) (h : Hp) => t62 rec n (env 0) h) :=
 (by kernel_rfl)
theorem dDl (rec : FuncId → List DV → Hp → aH) (n : Nat) (args : List DV) (h : Hp) : aF CF1 rec n 122 args h = t62 rec n (args.getD 0 aU) h :=
 (by kernel_rfl : aF CF1 rec n 122 args h = E62 rec n (cf Tryz.f122) x0 (aV CF1 Tryz.f122) (aJ args) h).trans ((congrFun (congrFun (dIe rec n) (aJ args)) h).trans (by kernel_rfl))
noncomputable def t63 (rec : FuncId → List DV → Hp → aH) (n : Nat) (x0 : DV) (h0 : Hp) : aH :=
 bnd (aD .and x0 (.i .i64 (Int.ofNat 1)) h0) fun v1 h1 =>
 bnd (aD .eql v1 (.i .i64 (Int.ofNat 0)) h1) fun v2 h2 =>
 bnd (gD v2 true (some (x0, h2)) h2) fun v3 h3 =>
 bnd (gD v2 true (dK .shr v3 (.i .u64 (Int.ofNat 1)) h3) h3) fun v4 h4 =>
 bnd (gD v2 true (rec 97 [v4, (.i .i64 (Int.ofNat 3)), (.i .i64 (Int.ofNat 131072))] h4) h4) fun v5 h5 =>
 bnd (aQ v2 v5 (.b false) h5) fun v6 h6 =>
 some (v6, h6)
noncomputable def E63 (rec : FuncId → List DV → Hp → aH) (n : Nat) (c : Code) (X : Nat → K) (k : K) : K := aP CF1 rec 11 n c X (aV CF1 Tryz.f98) k
theorem dJp (rec : FuncId → List DV → Hp → aH) (n : Nat) : E63 rec n (cf Tryz.f98) x0 (aV CF1 Tryz.f98) = (fun (env : bA) (h : Hp) => t63 rec n (env 0) h) :=
 (by kernel_rfl)
theorem dFf (rec : FuncId → List DV → Hp → aH) (n : Nat) (args : List DV) (h : Hp) : aF CF1 rec n 98 args h = t63 rec n (args.getD 0 aU) h :=
 (by kernel_rfl : aF CF1 rec n 98 args h = E63 rec n (cf Tryz.f98) x0 (aV CF1 Tryz.f98) (aJ args) h).trans ((congrFun (congrFun (dJp rec n) (aJ args)) h).trans (by kernel_rfl))
noncomputable def t64 (rec : FuncId → List DV → Hp → aH) (n : Nat) (x0 : DV) (h0 : Hp) : aH :=
 bnd (rec 98 [x0] h0) fun v1 h1 =>
 bnd (jE .not v1 h1) fun v2 h2 =>
 aX v2 (
  some ((.i .i64 (Int.ofNat 0)), h2)) (
  bnd (dK .shr x0 (.i .u64 (Int.ofNat 1)) h2) fun v3 h3 =>
  some (v3, h3))
noncomputable def E64 (rec : FuncId → List DV → Hp → aH) (n : Nat) (c : Code) (X : Nat → K) (k : K) : K := aP CF1 rec 8 n c X (aV CF1 Tryz.f99) k
theorem dLy (rec : FuncId → List DV → Hp → aH) (n : Nat) : E64 rec n (cf Tryz.f99) x0 (aV CF1 Tryz.f99) = (fun (env : bA) (h : Hp) => t64 rec n (env 0) h) :=
 (by kernel_rfl)
theorem dFr (rec : FuncId → List DV → Hp → aH) (n : Nat) (args : List DV) (h : Hp) : aF CF1 rec n 99 args h = t64 rec n (args.getD 0 aU) h :=
 (by kernel_rfl : aF CF1 rec n 99 args h = E64 rec n (cf Tryz.f99) x0 (aV CF1 Tryz.f99) (aJ args) h).trans ((congrFun (congrFun (dLy rec n) (aJ args)) h).trans (by kernel_rfl))
noncomputable def t73 (rec : FuncId → List DV → Hp → aH) (n : Nat) (x0 x1 x2 : DV) (h0 : Hp) : aH :=
 bnd (rec 89 [x0, x1, x2] h0) fun v1 h1 =>
 bnd (aC 0 v1 h1) fun v2 h2 =>
 bnd (aC 1 v1 h2) fun v3 h3 =>
 bnd (aD .neq v3 (.i .i64 (Int.ofNat 0)) h3) fun v4 h4 =>
 aX v4 (
  some (.t [(.i .i64 (Int.ofNat 0)), v3], h4)) (
  bnd (aZ x0 h4) fun v5 h5 =>
  bnd (aB 0 v5 h5) fun v6 h6 =>
  bnd (aA v6 h6) fun v7 h7 =>
  bnd (aE 1 v7 v2 h7) fun v8 h8 =>
  bnd (aA v8 h8) fun v9 h9 =>
  some (.t [v9, (.i .i64 (Int.ofNat 0))], h9))
noncomputable def E73 (rec : FuncId → List DV → Hp → aH) (n : Nat) (c : Code) (X : Nat → K) (k : K) : K := aP CF1 rec 27 n c X (aV CF1 Tryz.f52) k
theorem dKu (rec : FuncId → List DV → Hp → aH) (n : Nat) : E73 rec n (cf Tryz.f52) x0 (aV CF1 Tryz.f52) = (fun (env : bA) (h : Hp) => t73 rec n (env 0) (env 1) (env 2) h) :=
 (by kernel_rfl)
theorem cNf (rec : FuncId → List DV → Hp → aH) (n : Nat) (args : List DV) (h : Hp) : aF CF1 rec n 52 args h = t73 rec n (args.getD 0 aU) (args.getD 1 aU) (args.getD 2 aU) h :=
 (by kernel_rfl : aF CF1 rec n 52 args h = E73 rec n (cf Tryz.f52) x0 (aV CF1 Tryz.f52) (aJ args) h).trans ((congrFun (congrFun (dKu rec n) (aJ args)) h).trans (by kernel_rfl))
noncomputable def t74 (rec : FuncId → List DV → Hp → aH) (n : Nat) (x0 x1 : DV) (h0 : Hp) : aH :=
 bnd (aD .eql x1 (.i .i64 (Int.ofNat 0)) h0) fun v1 h1 =>
 bnd (gD v1 false (some (x0, h1)) h1) fun v2 h2 =>
 bnd (gD v1 false (some (x1, h2)) h2) fun v3 h3 =>
 bnd (gD v1 false (rec 46 [v2, v3] h3) h3) fun v4 h4 =>
 bnd (aQ v1 (.b true) v4 h4) fun v5 h5 =>
 some (v5, h5)
noncomputable def E74 (rec : FuncId → List DV → Hp → aH) (n : Nat) (c : Code) (X : Nat → K) (k : K) : K := aP CF1 rec 12 n c X (aV CF1 Tryz.f74) k
theorem dJq (rec : FuncId → List DV → Hp → aH) (n : Nat) : E74 rec n (cf Tryz.f74) x0 (aV CF1 Tryz.f74) = (fun (env : bA) (h : Hp) => t74 rec n (env 0) (env 1) h) :=
 (by kernel_rfl)
theorem dBk (rec : FuncId → List DV → Hp → aH) (n : Nat) (args : List DV) (h : Hp) : aF CF1 rec n 74 args h = t74 rec n (args.getD 0 aU) (args.getD 1 aU) h :=
 (by kernel_rfl : aF CF1 rec n 74 args h = E74 rec n (cf Tryz.f74) x0 (aV CF1 Tryz.f74) (aJ args) h).trans ((congrFun (congrFun (dJq rec n) (aJ args)) h).trans (by kernel_rfl))
noncomputable def t75 (rec : FuncId → List DV → Hp → aH) (n : Nat) (x0 : DV) (h0 : Hp) : aH :=
 bnd (rec 97 [x0, (.i .i64 (Int.ofNat 3)), (.i .i64 (Int.ofNat 131072))] h0) fun v1 h1 =>
 bnd (jE .not v1 h1) fun v2 h2 =>
 aX v2 (
  some (.t [(.i .i64 (Int.ofNat 0)), (.b false)], h2)) (
  bnd (dK .shl x0 (.i .u64 (Int.ofNat 1)) h2) fun v3 h3 =>
  some (.t [v3, (.b true)], h3))
noncomputable def E75 (rec : FuncId → List DV → Hp → aH) (n : Nat) (c : Code) (X : Nat → K) (k : K) : K := aP CF1 rec 9 n c X (aV CF1 Tryz.f76) k
theorem dIf (rec : FuncId → List DV → Hp → aH) (n : Nat) : E75 rec n (cf Tryz.f76) x0 (aV CF1 Tryz.f76) = (fun (env : bA) (h : Hp) => t75 rec n (env 0) h) :=
 (by kernel_rfl)
theorem dGk (rec : FuncId → List DV → Hp → aH) (n : Nat) (args : List DV) (h : Hp) : aF CF1 rec n 76 args h = t75 rec n (args.getD 0 aU) h :=
 (by kernel_rfl : aF CF1 rec n 76 args h = E75 rec n (cf Tryz.f76) x0 (aV CF1 Tryz.f76) (aJ args) h).trans ((congrFun (congrFun (dIf rec n) (aJ args)) h).trans (by kernel_rfl))
noncomputable def cTk (rec : FuncId → List DV → Hp → aH) (n : Nat) (x0 x1 : DV) (h0 : Hp) : aH :=
 bnd (rec 46 [x0, x1] h0) fun v1 h1 =>
 bnd (jE .not v1 h1) fun v2 h2 =>
 aX v2 (
  some ((.i .i64 (Int.ofNat 0)), h2)) (
  bnd (rec 99 [x1] h2) fun v3 h3 =>
  some (v3, h3))
noncomputable def dFt (rec : FuncId → List DV → Hp → aH) (n : Nat) (c : Code) (X : Nat → K) (k : K) : K := aP CF1 rec 11 n c X (aV CF1 Tryz.f85) k
theorem dBi (rec : FuncId → List DV → Hp → aH) (n : Nat) : dFt rec n (cf Tryz.f85) x0 (aV CF1 Tryz.f85) = (fun (env : bA) (h : Hp) => cTk rec n (env 0) (env 1) h) :=
 (by kernel_rfl)
theorem cWn (rec : FuncId → List DV → Hp → aH) (n : Nat) (args : List DV) (h : Hp) : aF CF1 rec n 85 args h = cTk rec n (args.getD 0 aU) (args.getD 1 aU) h :=
 (by kernel_rfl : aF CF1 rec n 85 args h = dFt rec n (cf Tryz.f85) x0 (aV CF1 Tryz.f85) (aJ args) h).trans ((congrFun (congrFun (dBi rec n) (aJ args)) h).trans (by kernel_rfl))
noncomputable def bEc (rec : FuncId → List DV → Hp → aH) (n : Nat) (x0 x1 x2 : DV) (h0 : Hp) : aH :=
 bnd (rec 85 [x0, x1] h0) fun v1 h1 =>
 bnd (aD .eql v1 (.i .i64 (Int.ofNat 0)) h1) fun v2 h2 =>
 aX v2 (
  some (.t [(.i .i64 (Int.ofNat 0)), (.i .i64 (Int.ofNat 1))], h2)) (
  bnd (aD .lss x2 (.i .i64 (Int.ofNat 0)) h2) fun v3 h3 =>
  bnd (gD v3 false (some (x2, h3)) h3) fun v4 h4 =>
  bnd (gD v3 false (some (x0, h4)) h4) fun v5 h5 =>
  bnd (gD v3 false (some (x1, h5)) h5) fun v6 h6 =>
  bnd (gD v3 false (rec 73 [v5, v6] h6) h6) fun v7 h7 =>
  bnd (gD v3 false (aD .geq v4 v7 h7) h7) fun v8 h8 =>
  bnd (aQ v3 (.b true) v8 h8) fun v9 h9 =>
  aX v9 (
   some (.t [(.i .i64 (Int.ofNat 0)), (.i .i64 (Int.ofNat 5))], h9)) (
   bnd (aD .add v1 (.i .i64 (Int.ofNat 3)) h9) fun v10 h10 =>
   bnd (aD .add v10 x2 h10) fun v11 h11 =>
   some (.t [v11, (.i .i64 (Int.ofNat 0))], h11)))
noncomputable def dDv (rec : FuncId → List DV → Hp → aH) (n : Nat) (c : Code) (X : Nat → K) (k : K) : K := aP CF1 rec 29 n c X (aV CF1 Tryz.f89) k
theorem dDo (rec : FuncId → List DV → Hp → aH) (n : Nat) : dDv rec n (cf Tryz.f89) x0 (aV CF1 Tryz.f89) = (fun (env : bA) (h : Hp) => bEc rec n (env 0) (env 1) (env 2) h) :=
 (by kernel_rfl)
theorem aJe (rec : FuncId → List DV → Hp → aH) (n : Nat) (args : List DV) (h : Hp) : aF CF1 rec n 89 args h = bEc rec n (args.getD 0 aU) (args.getD 1 aU) (args.getD 2 aU) h :=
 (by kernel_rfl : aF CF1 rec n 89 args h = dDv rec n (cf Tryz.f89) x0 (aV CF1 Tryz.f89) (aJ args) h).trans ((congrFun (congrFun (dDo rec n) (aJ args)) h).trans (by kernel_rfl))
noncomputable def cZx (rec : FuncId → List DV → Hp → aH) (n : Nat) (x0 x1 x2 : DV) (h0 : Hp) : aH :=
 bnd (aD .geq x0 x1 h0) fun v1 h1 =>
 bnd (gD v1 true (some (x0, h1)) h1) fun v2 h2 =>
 bnd (gD v1 true (some (x2, h2)) h2) fun v3 h3 =>
 bnd (gD v1 true (aD .leq v2 v3 h3) h3) fun v4 h4 =>
 bnd (aQ v1 v4 (.b false) h4) fun v5 h5 =>
 some (v5, h5)
noncomputable def dDp (rec : FuncId → List DV → Hp → aH) (n : Nat) (c : Code) (X : Nat → K) (k : K) : K := aP CF1 rec 15 n c X (aV CF1 Tryz.f97) k
theorem dBj (rec : FuncId → List DV → Hp → aH) (n : Nat) : dDp rec n (cf Tryz.f97) x0 (aV CF1 Tryz.f97) = (fun (env : bA) (h : Hp) => cZx rec n (env 0) (env 1) (env 2) h) :=
 (by kernel_rfl)
theorem cUr (rec : FuncId → List DV → Hp → aH) (n : Nat) (args : List DV) (h : Hp) : aF CF1 rec n 97 args h = cZx rec n (args.getD 0 aU) (args.getD 1 aU) (args.getD 2 aU) h :=
 (by kernel_rfl : aF CF1 rec n 97 args h = dDp rec n (cf Tryz.f97) x0 (aV CF1 Tryz.f97) (aJ args) h).trans ((congrFun (congrFun (dBj rec n) (aJ args)) h).trans (by kernel_rfl))
end Go.Dd

namespace Go.Dd
theorem qF {a b : Nat} : Nat.beq a b = decide (a = b) := by
 cases h : Nat.beq a b with
 | true => simp [Nat.eq_of_beq_eq_true h]
 | false =>
  have : a ≠ b := by intro e; subst e; simp at h
  simp [this]
theorem jO {a b : Nat} : Nat.ble a b = decide (a ≤ b) := by
 cases h : Nat.ble a b with
 | true => simp [Nat.le_of_ble_eq_true h]
 | false =>
  have : ¬ a ≤ b := by intro e; rw [Nat.ble_eq_true_of_le e] at h; cases h
  simp [this]
theorem gK {a b : Nat} : Nat.blt a b = decide (a < b) := by
 show Nat.ble (a + 1) b = _
 rw [jO]
 simp [Nat.succ_le_iff]
theorem qI (w : Int) : (jI w ≠ 0 ↔ (w % 2 = 0 ∧ 3 ≤ w / 2 ∧ w / 2 ≤ 131072)) ∧ (jI w ≠ 0 → (jI w : Int) = w / 2) ∧ jI w ≤ 131072 := by
 cases w with
 | ofNat w =>
  simp only [jI, qF, jO]
  have e1 : Nat.mod w 2 = w % 2 := rfl
  have e2 : Nat.div w 2 = w / 2 := rfl
  rw [e1, e2]
  by_cases hc : w % 2 = 0 ∧ 6 ≤ w ∧ w ≤ 262144
  ·obtain ⟨h1, h2, h3⟩ := hc
   simp only [h1, h2, h3, decide_true, Bool.and_self, cond_true]
   simp only [Int.ofNat_eq_natCast]
   refine ⟨⟨fun _ => ⟨by omega, by omega, by omega⟩, fun _ => by omega⟩, fun _ => by omega, by omega⟩
  ·have : (decide (w % 2 = 0) && (decide (6 ≤ w) && decide (w ≤ 262144))) = false := by
    rw [← Bool.not_eq_true]
    simpa using hc
   rw [this]
   simp only [cond_false, Int.ofNat_eq_natCast]
   refine ⟨⟨fun h => absurd rfl h, fun h => by omega⟩, fun h => absurd rfl h, by omega⟩
 | negSucc w =>
  simp only [jI]
  refine ⟨⟨fun h => absurd rfl h, fun h => by omega⟩, fun h => absurd rfl h, by omega⟩
theorem kC (w : Int) : cV w = decide (w % 2 = 1 ∧ -1073741824 ≤ w / 2 ∧ w / 2 ≤ 1073741823) := by
 rw [Bool.eq_iff_iff, decide_eq_true_iff]
 cases w with
 | ofNat w =>
  simp only [cV, qF, gK, Bool.and_eq_true, decide_eq_true_eq]
  have e1 : Nat.mod w 2 = w % 2 := rfl
  rw [e1]
  simp only [Int.ofNat_eq_natCast]
  omega
 | negSucc w =>
  simp only [cV, qF, gK, Bool.and_eq_true, decide_eq_true_eq]
  have e1 : Nat.mod w 2 = w % 2 := rfl
  rw [e1]
  omega
theorem sR (w : Int) : qD w = w / 2 := by
 cases w with
 | ofNat w => show Int.ofNat (w / 2) = _; simp
 | negSucc w => show Int.negSucc (w / 2) = _; omega
theorem kP (a : Int) (h : -9223372036854775808 ≤ a ∧ a ≤ 9223372036854775807) : IntKind.i64.wrap a = a := by
 simp [IntKind.wrap, IntKind.signed, IntKind.bits, Int.bmod]
 omega
theorem gT (a : Int) : (BitVec.ofInt 64 a).toNat = (a % 18446744073709551616).toNat := by
 rw [BitVec.toNat_ofInt]
 rfl
theorem dMs (w : Int) : IntKind.i64.wrap (((BitVec.ofInt 64 w &&& BitVec.ofInt 64 1).toNat : Nat) : Int) = w % 2 := by
 rw [BitVec.toNat_and, gT, gT]
 rw [show ((1 : Int) % 18446744073709551616).toNat = 1 from rfl, Nat.and_one_is_mod]
 rw [kP _ (by omega)]
 omega
theorem dMl (w : Int) : IntKind.i64.wrap (((BitVec.ofInt 64 w &&& BitVec.ofInt 64 3).toNat : Nat) : Int) = w % 4 := by
 rw [BitVec.toNat_and, gT, gT]
 rw [show ((3 : Int) % 18446744073709551616).toNat = 2 ^ 2 - 1 from rfl, Nat.and_two_pow_sub_one_eq_mod]
 rw [kP _ (by omega)]
 omega
theorem cTq (a : Nat) (k b : Nat) (hb : b < 2 ^ k) (hs : a * 2 ^ k + b < 9223372036854775808) : IntKind.i64.wrap (((BitVec.ofInt 64 ((a * 2 ^ k : Nat) : Int) ||| BitVec.ofInt 64 (b : Int)).toNat : Nat) : Int) = ((a * 2 ^ k + b : Nat) : Int) := by
 have h1 : (BitVec.ofInt 64 ((a * 2 ^ k : Nat) : Int)).toNat = a * 2 ^ k := by rw [gT]; omega
 have h2 : (BitVec.ofInt 64 (b : Int)).toNat = b := by rw [gT]; omega
 rw [BitVec.toNat_or, h1, h2, Nat.mul_comm a, ← Nat.two_pow_add_eq_or_of_lt hb, Nat.mul_comm]
 exact kP _ (by omega)
theorem aKz (a : Int) (b : Int) (hb : 0 ≤ b) : a.fdiv b = a / b := Int.fdiv_eq_ediv_of_nonneg a hb
theorem cI (k : IntKind) (a b : Int) (h : Hp) : aD .eql (.i k a) (.i k b) h = some (.b (a == b), h) := by simp only [aD, if_true, gZ]
theorem eN (k : IntKind) (a b : Int) (h : Hp) : aD .neq (.i k a) (.i k b) h = some (.b (a != b), h) := by simp only [aD, if_true, gZ]
theorem cG (k : IntKind) (a b : Int) (h : Hp) : aD .lss (.i k a) (.i k b) h = some (.b (decide (a < b)), h) := by simp only [aD, if_true, gZ]
theorem oW (k : IntKind) (a b : Int) (h : Hp) : aD .leq (.i k a) (.i k b) h = some (.b (decide (a ≤ b)), h) := by simp only [aD, if_true, gZ]
theorem gA (k : IntKind) (a b : Int) (h : Hp) : aD .gtr (.i k a) (.i k b) h = some (.b (decide (a > b)), h) := by simp only [aD, if_true, gZ]
theorem iR (k : IntKind) (a b : Int) (h : Hp) : aD .geq (.i k a) (.i k b) h = some (.b (decide (a ≥ b)), h) := by simp only [aD, if_true, gZ]
theorem fZ (a b : Int) (h : Hp) (hr : -9223372036854775808 ≤ a + b ∧ a + b ≤ 9223372036854775807) : aD .add (.i .i64 a) (.i .i64 b) h = some (.i .i64 (a + b), h) := by simp only [aD, if_true, gZ, kP _ hr]
theorem wL (a b : Int) (h : Hp) (hr : -9223372036854775808 ≤ a - b ∧ a - b ≤ 9223372036854775807) : aD .sub (.i .i64 a) (.i .i64 b) h = some (.i .i64 (a - b), h) := by simp only [aD, if_true, gZ, kP _ hr]
theorem aWd (w : Int) (h : Hp) : aD .and (.i .i64 w) (.i .i64 (Int.ofNat 1)) h = some (.i .i64 (w % 2), h) := by
 have : gZ .and .i64 w (Int.ofNat 1) = some (.i .i64 (w % 2)) := by
  rw [← dMs w]; rfl
 simp only [aD, if_true, this]
theorem cEp (w : Int) (h : Hp) : aD .and (.i .i64 w) (.i .i64 (Int.ofNat 3)) h = some (.i .i64 (w % 4), h) := by
 have : gZ .and .i64 w (Int.ofNat 3) = some (.i .i64 (w % 4)) := by
  rw [← dMl w]; rfl
 simp only [aD, if_true, this]
theorem uY (w : Int) (h : Hp) : dK .shr (.i .i64 w) (.i .u64 (Int.ofNat 1)) h = some (.i .i64 (w / 2), h) := by
 have : w.fdiv (2 ^ (min (Int.ofNat 1).toNat IntKind.i64.bits)) = w / 2 := aKz w (2 ^ 1) (by decide)
 simp only [dK, show ¬ ((Int.ofNat 1) < 0) by decide, if_false, this]
theorem cKl (w : Int) (h : Hp) : dK .shr (.i .i64 w) (.i .u64 (Int.ofNat 2)) h = some (.i .i64 (w / 4), h) := by
 have : w.fdiv (2 ^ (min (Int.ofNat 2).toNat IntKind.i64.bits)) = w / 4 := aKz w (2 ^ 2) (by decide)
 simp only [dK, show ¬ ((Int.ofNat 2) < 0) by decide, if_false, this]
theorem aYj (w : Int) (h : Hp) (hr : -4611686018427387904 ≤ w ∧ w ≤ 4611686018427387903) : dK .shl (.i .i64 w) (.i .u64 (Int.ofNat 1)) h = some (.i .i64 (2 * w), h) := by
 have : IntKind.i64.wrap (w * 2 ^ (min (Int.ofNat 1).toNat IntKind.i64.bits)) = 2 * w := by
  rw [show w * 2 ^ (min (Int.ofNat 1).toNat IntKind.i64.bits) = 2 * w from Int.mul_comm w 2]
  exact kP _ (by omega)
 simp only [dK, show ¬ ((Int.ofNat 1) < 0) by decide, if_false, this]
theorem cJb (w : Int) (h : Hp) (hr : -2305843009213693952 ≤ w ∧ w ≤ 2305843009213693951) : dK .shl (.i .i64 w) (.i .u64 (Int.ofNat 2)) h = some (.i .i64 (4 * w), h) := by
 have : IntKind.i64.wrap (w * 2 ^ (min (Int.ofNat 2).toNat IntKind.i64.bits)) = 4 * w := by
  rw [show w * 2 ^ (min (Int.ofNat 2).toNat IntKind.i64.bits) = 4 * w from Int.mul_comm w 4]
  exact kP _ (by omega)
 simp only [dK, show ¬ ((Int.ofNat 2) < 0) by decide, if_false, this]
theorem iG (r : aH) (h : Hp) : gD (.b true) true r h = r := Eq.trans rfl rfl
theorem gI (r : aH) (h : Hp) : gD (.b false) false r h = r := Eq.trans rfl rfl
theorem fN (r : aH) (h : Hp) : gD (.b true) false r h = some (aU, h) := Eq.trans rfl rfl
theorem fE (r : aH) (h : Hp) : gD (.b false) true r h = some (aU, h) := Eq.trans rfl rfl
theorem iK (w : Bool) (r : aH) (h : Hp) : gD aU w r h = some (aU, h) := Eq.trans rfl rfl
theorem aO (v : DV) (h : Hp) (k : DV → Hp → aH) : bnd (some (v, h)) k = k v h := Eq.trans rfl rfl
theorem bQ (x y : DV) (h : Hp) : aQ (.b true) x y h = some (x, h) := Eq.trans rfl rfl
theorem bK (x y : DV) (h : Hp) : aQ (.b false) x y h = some (y, h) := Eq.trans rfl rfl
theorem iM (b : Bool) (h : Hp) : jE .not (.b b) h = some (.b (!b), h) := Eq.trans rfl rfl
theorem bN (a b : aH) : aX (.b true) a b = a := Eq.trans rfl rfl
theorem bG (a b : aH) : aX (.b false) a b = b := Eq.trans rfl rfl
theorem g0 (a : DV) (l : List DV) : (a :: l).getD 0 aU = a := Eq.trans rfl rfl
theorem g1 (a b : DV) (l : List DV) : (a :: b :: l).getD 1 aU = b := Eq.trans rfl rfl
theorem g2 (a b c : DV) (l : List DV) : (a :: b :: c :: l).getD 2 aU = c := Eq.trans rfl rfl
theorem g3 (a b c d : DV) (l : List DV) : (a :: b :: c :: d :: l).getD 3 aU = d := Eq.trans rfl rfl
theorem aTj (n : Nat) (a b c : Int) (h : Hp) : fG CF1 (n + 1) 97 [.i .i64 a, .i .i64 b, .i .i64 c] h = some (.b (decide (b ≤ a ∧ a ≤ c)), h) := by
 rw [cJ 97 rfl, cUr]
 simp only [cZx, g0, g1, g2, iR, aO]
 by_cases h1 : b ≤ a
 ·simp only [ge_iff_le, h1, decide_true, iG, aO, oW, bQ, true_and]
 ·simp only [ge_iff_le, h1, decide_false, fE, aO, bK, false_and]
theorem cTp (n : Nat) (w : Int) (h : Hp) : fG CF1 (n + 2) 45 [.i .i64 w] h = some (.b (cV w), h) := by
 rw [cJ 45 rfl, dHh]
 simp only [t54, g0, aWd, aO, cI, kC]
 by_cases h1 : w % 2 = 1
 ·have e : (w % 2 == Int.ofNat 1) = true := by simpa using h1
  rw [e]
  simp only [iG, aO, uY, aTj, bQ, h1, true_and]
  rfl
 ·have e : (w % 2 == Int.ofNat 1) = false := by simpa using h1
  rw [e]
  simp only [fE, aO, bK, h1, false_and, decide_false]
theorem dBo (n : Nat) (w : Int) (h : Hp) : fG CF1 (n + 2) 98 [.i .i64 w] h = some (.b (!(Nat.beq (jI w) 0)), h) := by
 rw [cJ 98 rfl, dFf]
 simp only [t63, g0, aWd, aO, cI, qF]
 have hp := (qI w).1
 by_cases h1 : w % 2 = 0
 ·have e : (w % 2 == Int.ofNat 0) = true := by simpa using h1
  rw [e]
  simp only [iG, aO, uY, aTj, bQ]
  by_cases h2 : jI w = 0
  ·have : ¬ (Int.ofNat 3 ≤ w / 2 ∧ w / 2 ≤ Int.ofNat 131072) := fun h => (hp.2 ⟨h1, h⟩) h2
   simp only [h2, this, decide_true, Bool.not_true, decide_false]
  ·have : Int.ofNat 3 ≤ w / 2 ∧ w / 2 ≤ Int.ofNat 131072 := (hp.1 h2).2
   simp only [h2, this, decide_false, Bool.not_false, and_self, decide_true]
 ·have h2 : jI w = 0 := by
   by_cases h2 : jI w = 0
   ·exact h2
   ·exact absurd (hp.1 h2).1 h1
  have e : (w % 2 == Int.ofNat 0) = false := by simpa using h1
  rw [e]
  simp only [fE, aO, bK, h2, decide_true, Bool.not_true]
theorem dBl (n : Nat) (w : Int) (h : Hp) : fG CF1 (n + 3) 99 [.i .i64 w] h = some (.i .i64 (jI w), h) := by
 rw [cJ 99 rfl, dFr]
 simp only [t64, g0, dBo, aO, iM, qF]
 by_cases h2 : jI w = 0
 ·simp only [h2, decide_true, Bool.not_true, Bool.not_false, bN]; rfl
 ·have hp := (qI w).2.1 h2
  simp only [h2, decide_false, Bool.not_false, Bool.not_true, bG, uY, aO, hp]
theorem dGg (n : Nat) (w : Int) (h : Hp) : fG CF1 (n + 2) 88 [.i .i64 w] h = some (if -1073741824 ≤ w ∧ w ≤ 1073741823 then .t [.i .i64 (2 * w + 1), .b true] else .t [.i .i64 0, .b false], h) := by
 rw [cJ 88 rfl, dHi]
 simp only [t60, g0, aTj, aO, iM]
 by_cases h1 : -1073741824 ≤ w ∧ w ≤ 1073741823
 ·have h1' : Int.negSucc 1073741823 ≤ w ∧ w ≤ Int.ofNat 1073741823 := h1
  rw [if_pos h1]
  simp only [h1', decide_true, and_self, bG, Bool.not_true]
  rw [aYj w h (by omega)]
  have hb : gZ .or .i64 (2 * w) (Int.ofNat 1) = some (.i .i64 (2 * w + 1)) := by
   have : IntKind.i64.wrap (((BitVec.ofInt 64 (2 * w) ||| BitVec.ofInt 64 (Int.ofNat 1)).toNat : Nat) : Int) = 2 * w + 1 := by
    rw [BitVec.toNat_or, gT, gT]
    rw [show ((Int.ofNat 1) % 18446744073709551616).toNat = 1 from rfl]
    obtain ⟨q, hq⟩ : ∃ q : Nat, ((2 * w) % 18446744073709551616).toNat = 2 ^ 1 * q := ⟨((2 * w) % 18446744073709551616).toNat / 2, by omega⟩
    rw [hq, ← Nat.two_pow_add_eq_or_of_lt (show 1 < 2 ^ 1 by omega)]
    rw [← hq]
    simp [IntKind.wrap, IntKind.signed, IntKind.bits, Int.bmod]
    omega
   rw [← this]; rfl
  simp only [aO, aD, if_true, hb]
 ·have h1' : ¬ (Int.negSucc 1073741823 ≤ w ∧ w ≤ Int.ofNat 1073741823) := h1
  rw [if_neg h1]
  simp only [h1', decide_false, bN, Bool.not_false]
  rfl
theorem dJt (n : Nat) (w : Int) (h : Hp) : fG CF1 (n + 3) 122 [.i .i64 w] h = some (if cV w then .i .i64 (w / 2) else .i .i64 0, h) := by
 rw [cJ 122 rfl, dDl]
 simp only [t62, g0, cTp, aO, iM]
 cases cV w with
 | false => rfl
 | true => simp only [Bool.not_true, bG, uY, aO, if_true]
theorem dMh (n : Nat) (a : Int) (h : Hp) : fG CF1 (n + 2) 76 [.i .i64 a] h = some (if 3 ≤ a ∧ a ≤ 131072 then .t [.i .i64 (2 * a), .b true] else .t [.i .i64 0, .b false], h) := by
 rw [cJ 76 rfl, dGk]
 simp only [t75, g0, aTj, aO, iM]
 by_cases h1 : 3 ≤ a ∧ a ≤ 131072
 ·have h1' : Int.ofNat 3 ≤ a ∧ a ≤ Int.ofNat 131072 := h1
  rw [if_pos h1]
  simp only [h1', decide_true, and_self, bG, Bool.not_true]
  rw [aYj a h (by omega)]
  rfl
 ·have h1' : ¬ (Int.ofNat 3 ≤ a ∧ a ≤ Int.ofNat 131072) := h1
  rw [if_neg h1]
  simp only [h1', decide_false, bN, Bool.not_false]
  rfl
end Go.Dd

namespace Go.Dd
structure ML (m : Pos) (M : MemV) (h : Hp) : Prop where
 row : h.bl.get m = some (.row .ex [.l M.wb 0 M.n M.n, .i .i64 (Int.ofNat M.fin), .i .i64 (Int.ofNat M.made), .m M.pb])
 words : h.bl.get M.wb = some (.row .ex (gG M.n M.t))
 places : ∃ es, h.bl.get M.pb = some (.mp es) ∧ ∀ a : Int, cY (.int .i64) (.i .i64 a) es = some (if 0 ≤ a ∧ M.pl.get a.toNat ≠ 0 then some (.b true) else none)
 n_lt : M.n < 1000000
 fin_le : M.fin ≤ M.n
 made_lt : M.made < 2000000
 d1 : m ≠ M.wb
 d2 : m ≠ M.pb
 d3 : M.wb ≠ M.pb
theorem rY {m : Pos} {M : MemV} {h : Hp} (hm : mK m h = some M) :
  h.bl.get m = some (.row .ex [.l M.wb 0 M.n M.n, .i .i64 (Int.ofNat M.fin), .i .i64 (Int.ofNat M.made), .m M.pb]) ∧ h.bl.get M.wb = some (.big M.n M.t) ∧ h.bl.get M.pb = some (.mi M.pl) ∧ M.n < 1000000 ∧ M.fin ≤ M.n ∧ M.made < 1000000 := by
 unfold mK at hm
 split at hm <;> (try (cases hm; done))
 rename_i wb n c fin made pb hr
 split at hm <;> (try (cases hm; done))
 rename_i n' t pl h1 h2
 cases hb : (Nat.beq n n' && Nat.beq n c) with
 | false => rw [hb] at hm; cases hm
 | true =>
  rw [hb] at hm
  simp only [cond_true] at hm
  cases hc : (Nat.blt n 1000000 && (Nat.ble fin n && Nat.blt made 1000000)) with
  | false => rw [hc] at hm; cases hm
  | true =>
   rw [hc] at hm
   simp only [cond_true, bC] at hm
   subst hm
   simp only [qF, jO, gK, Bool.and_eq_true, decide_eq_true_eq] at hb hc
   obtain ⟨rfl, rfl⟩ := hb
   exact ⟨hr, h1, h2, hc.1, hc.2.1, hc.2.2⟩
theorem fJ {m : Pos} {M : MemV} {h h' : Hp} (hm : mK m h = some M) (S : Sim false h h') : ML m M h' := by
 obtain ⟨h1, h2, h3, h4, h5, h6⟩ := rY hm
 refine ⟨S.row h1, ?_, ?_, h4, h5, by omega, fun e => by (rw [e, h2] at h1; cases h1), fun e => by (rw [e, h3] at h1; cases h1), fun e => by (rw [e, h3] at h2; cases h2)⟩
 ·obtain ⟨o', e1, e2⟩ := S.get _ _ h2
  have e2' : o' = .row .ex (gG M.n M.t) := by simpa [aG, vG] using e2
  rw [e1, e2']
 ·obtain ⟨o', e1, e2⟩ := S.get _ _ h3
  have e2' : ∃ es, o' = .mp es ∧ ∀ a : Int, cY (.int .i64) (.i .i64 a) es = some (if 0 ≤ a ∧ M.pl.get a.toNat ≠ 0 then some (.b true) else none) := by simpa [aG, vG] using e2
  obtain ⟨es, rfl, e3⟩ := e2'
  exact ⟨es, e1, e3⟩
section
variable {m : Pos} {M : MemV} {h : Hp}
theorem iB (b : Pos) (o : Nat) (h : Hp) : aZ (.p b o) h = some (.p b o, h) := Eq.trans rfl rfl
theorem dX (k : Nat) (b : Pos) (o : Nat) (h : Hp) : aB k (.p b o) h = some (.p b (o + k), h) := Eq.trans rfl rfl
theorem ML.l0 (H : ML m M h) : aA (.p m (0 + 0)) h = some (.l M.wb 0 M.n M.n, h) := by
 simp [aA, cellD, rowOf, H.row, DV.one]
theorem ML.l1 (H : ML m M h) : aA (.p m (0 + 1)) h = some (.i .i64 (Int.ofNat M.fin), h) := by
 simp [aA, cellD, rowOf, H.row, DV.one]
theorem ML.l2 (H : ML m M h) : aA (.p m (0 + 2)) h = some (.i .i64 (Int.ofNat M.made), h) := by
 simp [aA, cellD, rowOf, H.row, DV.one]
theorem ML.l3 (H : ML m M h) : aA (.p m (0 + 3)) h = some (.m M.pb, h) := by
 simp [aA, cellD, rowOf, H.row, DV.one]
theorem lQ {n : Nat} {t : WT} {i : Nat} (h : i < n) : (gG n t)[i]? = some (.i .i64 (t.get i)) := by
 simp [gG, h]
theorem ML.ix (H : ML m M h) {a : Nat} (ha : a < M.n) : aE 1 (.l M.wb 0 M.n M.n) (.i .i64 (a : Int)) h = some (.p M.wb a, h) := by
 have : (0 : Int) ≤ (a : Int) ∧ (a : Int) < (M.n : Int) := by omega
 simp [aE, this]
theorem ML.ld (H : ML m M h) {a : Nat} (ha : a < M.n) : aA (.p M.wb a) h = some (.i .i64 (M.t.get a), h) := by
 simp [aA, cellD, rowOf, H.words, lQ ha, DV.one]
theorem mG (o : Int) (pl : WT) : bV o pl = 0 ∨ (bV o pl = jI o ∧ jI o ≠ 0) := by
 unfold bV
 by_cases h0 : jI o = 0
 ·simp [h0, qF]
 ·simp only [qF, h0, decide_false, cond_false]
  split
  ·exact .inl rfl
  ·exact .inr ⟨rfl, h0⟩
theorem atN_pos {o : Int} {pl : WT} : (bV o pl ≠ 0) ↔ (jI o ≠ 0 ∧ pl.get (jI o) ≠ 0) := by
 unfold bV
 by_cases h0 : jI o = 0
 ·simp [h0, qF]
 ·simp only [qF, h0, decide_false, cond_false]
  split
  ·rename_i e; simp [e]
  ·rename_i e
   refine ⟨fun _ => ⟨h0, fun e' => e (by rw [e']; rfl)⟩, fun _ => h0⟩
theorem ML.lookup (H : ML m M h) (a : Nat) : eK (.int .i64) (.b false) false (.m M.pb) (.i .i64 (a : Int)) h = some (.b (decide (M.pl.get a ≠ 0)), h) := by
 obtain ⟨es, h1, h2⟩ := H.places
 have := h2 a
 simp only [Int.toNat_natCast] at this
 simp only [eK, gY, h1, this]
 by_cases hc : M.pl.get a = 0
 ·simp [hc]
 ·simp [hc]
theorem lX {r : aH} {v : DV} {h : Hp} (hr : r = some (v, h)) (hv : DV.beq v v = true) : bM r v = true := by
 rw [hr]; exact hv
theorem dDd (b : Pos) : DV.beq (.m b) (.m b) = true := by simp [DV.beq]
theorem bKs (b : Pos) (o n c : Nat) : DV.beq (.l b o n c) (.l b o n c) = true := by simp [DV.beq]
theorem cJs (H : ML m M h) (n : Nat) (w : Int) : fG CF1 (n + 4) 46 [.p m 0, .i .i64 w] h = some (.b (!(Nat.beq (bV w M.pl) 0)), h) := by
 rw [cJ 46 rfl, dBz]
 simp only [t21, g0, g1, dBo, aO, qF]
 by_cases h0 : jI w = 0
 ·have : bV w M.pl = 0 := by
   rcases mG w M.pl with e | ⟨e, e'⟩
   ·exact e
   ·exact absurd h0 e'
  simp only [h0, decide_true, Bool.not_true, fE, aO, this]
  simp [bM, aU, DV.beq, dNw, cnd, bnd, aQ]
 ·simp only [h0, decide_false, Bool.not_false, iG, aO, iB, dX, H.l3, dBl]
  rw [lX rfl (dDd _), Bool.and_self]
  simp only [cnd, H.lookup, aO, bQ]
  by_cases h1 : M.pl.get (jI w) = 0
  ·have : bV w M.pl = 0 := by
    by_cases e : bV w M.pl = 0
    ·exact e
    ·exact absurd h1 (atN_pos.1 e).2
   simp [h1, this]
  ·have : bV w M.pl ≠ 0 := atN_pos.2 ⟨h0, h1⟩
   simp [h1, this]
theorem dIm (H : ML m M h) (n : Nat) : fG CF1 (n + 1) 94 [.p m 0] h = some (.i .i64 (Int.ofNat M.n), h) := by
 rw [cJ 94 rfl, dEn]
 simp only [t22, g0, aO, iB, dX, H.l0]
 rfl
theorem dEk (H : ML m M h) (n : Nat) : fG CF1 (n + 1) 75 [.p m 0] h = some (.i .i64 (Int.ofNat (M.n - M.fin)), h) := by
 rw [cJ 75 rfl, dCm]
 have h1 := H.n_lt
 have h2 := H.fin_le
 have e : cB (.l M.wb 0 M.n M.n) h = some (.i .i64 (M.n : Int), h) := rfl
 simp only [t29, g0, aO, iB, dX, H.l0, H.l1, e]
 rw [wL _ _ _ (by simp only [Int.ofNat_eq_natCast]; omega)]
 simp only [aO]
 congr 3
 simp only [Int.ofNat_eq_natCast]
 omega
theorem dCh (H : ML m M h) (n : Nat) (w : Int) : fG CF1 (n + 5) 18 [.p m 0, .i .i64 w] h = some (.b (eD w M.pl), h) := by
 rw [cJ 18 rfl, dGa]
 have hm : eD w M.pl = (decide (w = 0) || (decide (w = 2) || (decide (w = 4) || (cV w || !(Nat.beq (bV w M.pl) 0))))) := by
  unfold eD
  split
  ·simp
  ·simp
  ·simp
  ·rename_i h1 h2 h3
   have e1 : w ≠ 0 := fun e => h1 (by rw [e]; rfl)
   have e2 : w ≠ 2 := fun e => h2 (by rw [e]; rfl)
   have e3 : w ≠ 4 := fun e => h3 (by rw [e]; rfl)
   simp [e1, e2, e3]
 rw [hm]
 simp only [t20, g0, g1, cI, aO]
 have b0 : (w == Int.ofNat 0) = decide (w = 0) := rfl
 have b2 : (w == Int.ofNat 2) = decide (w = 2) := rfl
 have b4 : (w == Int.ofNat 4) = decide (w = 4) := rfl
 rw [b0]
 cases decide (w = 0) with
 | true => simp only [fN, aO, bQ, Bool.true_or]
 | false =>
  simp only [gI, aO, cI, bK, b2, Bool.false_or]
  cases decide (w = 2) with
  | true => simp only [fN, aO, bQ, Bool.true_or]
  | false =>
   simp only [gI, aO, cI, bK, b4, Bool.false_or]
   cases decide (w = 4) with
   | true => simp only [fN, aO, bQ, Bool.true_or]
   | false =>
    simp only [gI, aO, cTp, bK, Bool.false_or]
    cases cV w with
    | true => simp only [fN, aO, bQ, Bool.true_or]
    | false => simp only [gI, aO, cJs H, bK, Bool.false_or]
theorem dFz (H : ML m M h) (n : Nat) (w : Int) : fG CF1 (n + 5) 74 [.p m 0, .i .i64 w] h = some (.b (rX w M.pl), h) := by
 rw [cJ 74 rfl, dBk]
 have hm : rX w M.pl = (decide (w = 0) || !(Nat.beq (bV w M.pl) 0)) := by
  unfold rX
  split
  ·simp
  ·rename_i h1
   have e1 : w ≠ 0 := fun e => h1 (by rw [e]; rfl)
   simp [e1]
 rw [hm]
 have b0 : (w == Int.ofNat 0) = decide (w = 0) := rfl
 simp only [t74, g0, g1, cI, aO, b0]
 cases decide (w = 0) with
 | true => simp only [fN, aO, bQ, Bool.true_or]
 | false => simp only [gI, aO, cJs H, bK, Bool.false_or]
theorem tH (H : ML m M h) (n : Nat) (w : Int) : fG CF1 (n + 5) 85 [.p m 0, .i .i64 w] h = some (.i .i64 (bV w M.pl), h) := by
 rw [cJ 85 rfl, cWn]
 simp only [cTk, g0, g1, cJs H, aO, iM, qF]
 rcases mG w M.pl with e | ⟨e, e'⟩
 ·simp only [e, decide_true, Bool.not_true, Bool.not_false, bN]; rfl
 ·simp only [e, e', decide_false, Bool.not_false, Bool.not_true, bG, dBl, aO]
theorem vT {o : Int} {k : Nat → aH} {r : DV × Hp} (hh : iQ M o k = some r) : bV o M.pl + 1 < M.n ∧ ∃ hd, M.t.get (bV o M.pl) = Int.ofNat hd ∧ hd < 1000000000000 ∧ k hd = some r := by
 unfold iQ at hh
 cases hb : Nat.blt (Nat.add (bV o M.pl) 1) M.n with
 | false => rw [hb] at hh; cases hh
 | true =>
  rw [hb] at hh
  simp only [cond_true] at hh
  simp only [gK, decide_eq_true_eq] at hb
  split at hh <;> (try (cases hh; done))
  rename_i hd he
  cases hc : Nat.blt hd 1000000000000 with
  | false => rw [hc] at hh; cases hh
  | true =>
   rw [hc] at hh
   simp only [gK, decide_eq_true_eq] at hc
   exact ⟨hb, hd, he, hc, hh⟩
theorem dJc (H : ML m M h) (n : Nat) (o : Int) (ho : bV o M.pl + 1 < M.n) : fG CF1 (n + 6) 104 [.p m 0, .i .i64 o] h = some (.i .i64 (M.t.get (bV o M.pl + 1)), h) := by
 rw [cJ 104 rfl, dEs]
 have hn := H.n_lt
 simp only [t50, g0, g1, aO, iB, dX, H.l0, tH H]
 rw [lX rfl (bKs _ _ _ _), Bool.and_self]
 simp only [cnd]
 rw [fZ _ _ _ (by simp only [Int.ofNat_eq_natCast]; omega)]
 have e : (bV o M.pl : Int) + Int.ofNat 1 = ((bV o M.pl + 1 : Nat) : Int) := by simp
 simp only [aO, e, H.ix ho, H.ld ho]
theorem dGs (H : ML m M h) (n : Nat) (o : Int) (ho : bV o M.pl < M.n) : fG CF1 (n + 6) 90 [.p m 0, .i .i64 o] h = some (.i .i64 (M.t.get (bV o M.pl) % 4), h) := by
 rw [cJ 90 rfl, dAo]
 simp only [t51, g0, g1, aO, iB, dX, H.l0, tH H]
 rw [lX rfl (bKs _ _ _ _), Bool.and_self]
 simp only [cnd, aO, H.ix ho, H.ld ho, cEp]
theorem dFu (H : ML m M h) (n : Nat) (o : Int) (ho : bV o M.pl < M.n) : fG CF1 (n + 6) 73 [.p m 0, .i .i64 o] h = some (.i .i64 (M.t.get (bV o M.pl) / 4), h) := by
 rw [cJ 73 rfl, dGb]
 simp only [t52, g0, g1, aO, iB, dX, H.l0, tH H]
 rw [lX rfl (bKs _ _ _ _), Bool.and_self]
 simp only [cnd, aO, H.ix ho, H.ld ho, cKl]
end
end Go.Dd

namespace Go.Dd
section
variable {m : Pos} {M : MemV} {h : Hp}
theorem bSf (H : ML m M h) {o i : Int} {bad : Nat → aH} {k : Nat → Nat → aH} {r : DV × Hp} (hf : gP M o i bad k = some r) :
  (∃ e : Nat, e ≠ 0 ∧ bad e = some r ∧ ∀ n, fG CF1 (n + 7) 89 [.p m 0, .i .i64 o, .i .i64 i] h = some (.t [.i .i64 (Int.ofNat 0), .i .i64 (Int.ofNat e)], h)) ∨
  (∃ hd a : Nat, bV o M.pl ≠ 0 ∧ a < M.n ∧ bV o M.pl + 1 < M.n ∧ M.t.get (bV o M.pl) = Int.ofNat hd ∧ k hd a = some r ∧ ∀ n, fG CF1 (n + 7) 89 [.p m 0, .i .i64 o, .i .i64 i] h = some (.t [.i .i64 (a : Int), .i .i64 (Int.ofNat 0)], h)) := by
 have hn := H.n_lt
 unfold gP at hf
 rw [qF] at hf
 by_cases h0 : bV o M.pl = 0
 ·simp only [h0, decide_true, cond_true] at hf
  refine .inl ⟨1, by omega, hf, fun n => ?_⟩
  rw [cJ 89 rfl, aJe]
  simp only [bEc, g0, g1, g2, tH H, aO, cI, h0]
  rfl
 ·simp only [h0, decide_false, cond_false] at hf
  have e0 : ((bV o M.pl : Int) == Int.ofNat 0) = false := by simpa using h0
  cases i with
  | negSucc i =>
   refine .inl ⟨5, by omega, hf, fun n => ?_⟩
   rw [cJ 89 rfl, aJe]
   have hlt : decide (Int.negSucc i < Int.ofNat 0) = true := decide_eq_true (Int.negSucc_lt_zero i)
   simp only [bEc, g0, g1, g2, tH H, aO, cI, e0, bG, cG, hlt, fN, bQ, bN]
  | ofNat i =>
   dsimp only at hf
   obtain ⟨h1, hd, h2, h3, h4⟩ := vT hf
   rw [jO] at h4
   have hlt : decide (Int.ofNat i < Int.ofNat 0) = false := by simp
   have h52 := fun n => dFu H n o (show bV o M.pl < M.n by omega)
   rw [h2] at h52
   by_cases hi : Nat.div hd 4 ≤ i
   ·simp only [hi, decide_true, cond_true] at h4
    refine .inl ⟨5, by omega, h4, fun n => ?_⟩
    rw [cJ 89 rfl, aJe]
    have hge : decide (Int.ofNat i ≥ Int.ofNat hd / 4) = true := by
     have : hd / 4 ≤ i := hi
     simp only [decide_eq_true_eq, Int.ofNat_eq_natCast]
     omega
    simp only [bEc, g0, g1, g2, tH H, aO, cI, e0, bG, cG, hlt, gI, h52, iR, hge, bK, bN]
   ·simp only [hi, decide_false, cond_false] at h4
    rw [gK] at h4
    by_cases ha : Nat.add (Nat.add (bV o M.pl) 3) i < M.n
    ·simp only [ha, decide_true, cond_true] at h4
     have ha' : bV o M.pl + 3 + i < M.n := ha
     refine .inr ⟨hd, _, h0, ha, h1, h2, h4, fun n => ?_⟩
     rw [cJ 89 rfl, aJe]
     have hge : decide (Int.ofNat i ≥ Int.ofNat hd / 4) = false := by
      have : ¬ hd / 4 ≤ i := hi
      simp only [decide_eq_false_iff_not, Int.ofNat_eq_natCast]
      omega
     simp only [bEc, g0, g1, g2, tH H, aO, cI, e0, bG, cG, hlt, gI, h52, iR, hge, bK]
     rw [fZ _ _ _ (by simp only [Int.ofNat_eq_natCast]; omega)]
     simp only [aO]
     rw [fZ _ _ _ (by simp only [Int.ofNat_eq_natCast]; omega)]
     simp only [aO]
     congr 4
    ·simp only [ha, decide_false, cond_false] at h4
     cases h4
theorem bVn (a b : DV) (h : Hp) : aC 0 (.t [a, b]) h = some (a, h) := Eq.trans rfl rfl
theorem bUg (a b : DV) (h : Hp) : aC 1 (.t [a, b]) h = some (b, h) := Eq.trans rfl rfl
theorem cOq {e : Nat} (he : e ≠ 0) : (Int.ofNat e != Int.ofNat 0) = true := by
 simpa using he
theorem ML.put (H : ML m M h) {a : Nat} (ha : a < M.n) (w : Int) : aI 1 (.p M.wb a) (.i .i64 w) h = some (aU, ⟨h.next, Tr.set (.row .ex (gG M.n (M.t.set a w))) M.wb h.bl⟩) := by
 have hput : ∀ (n : Nat) (l : List DV) (x : DV), (∀ v ∈ l, v.one = true) → x.one = true → n < l.length → fL n l [x] = some (l.set n x) := by
  intro n
  induction n with
  | zero =>
   intro l x hl hx hlt
   cases l with
   | nil => simp at hlt
   | cons y l =>
    have hp : jW l [] = some l := by cases l <;> rfl
    simp [fL, jW, hl y (by simp), hx, hp]
  | succ n ih =>
   intro l x hl hx hlt
   cases l with
   | nil => simp at hlt
   | cons y l =>
    simp only [fL, List.set_cons_succ]
    rw [ih l x (fun v hv => hl v (by simp [hv])) hx (by simpa using hlt)]
    rfl
 have hb : ∀ v ∈ gG M.n M.t, v.one = true := by
  intro v hv
  simp only [gG, List.mem_map] at hv
  obtain ⟨i, _, rfl⟩ := hv
  rfl
 have hlen : (gG M.n M.t).length = M.n := by simp [gG]
 have hset : (gG M.n M.t).set a (.i .i64 w) = gG M.n (M.t.set a w) := by
  apply List.ext_getElem?
  intro i
  rw [List.getElem?_set]
  by_cases hi : i < M.n
  ·rw [lQ hi, lQ hi, WT.get_set M.t a w i (by have := H.n_lt; omega)]
   by_cases e : a = i
   ·subst e
    simp [hlen, hi]
   ·rw [if_neg e, if_neg (by omega)]
  ·have h1 : (gG M.n M.t)[i]? = none := List.getElem?_eq_none (by omega)
   have h2 : (gG M.n (M.t.set a w))[i]? = none := List.getElem?_eq_none (by simp [gG]; omega)
   rw [h2]
   split
   ·rename_i e; subst e; rw [if_neg (by omega)]
   ·exact h1
 simp only [aI, dC, List.length_singleton, if_true, cU, H.words, Kind.writable]
 rw [hput a _ _ hb rfl (by omega), hset]
theorem dKl (H : ML m M h) {o i : Int} {k : Nat → aH} {kk : Nat → Nat → aH} {r : DV × Hp} (hf : gP M o i k kk = some r) :
  (∃ e : Nat, k e = some r ∧ ∀ n, fG CF1 (n + 8) 52 [.p m 0, .i .i64 o, .i .i64 i] h = some (.t [.i .i64 (Int.ofNat 0), .i .i64 (Int.ofNat e)], h)) ∨
  (∃ hd a : Nat, kk hd a = some r ∧ ∀ n, fG CF1 (n + 8) 52 [.p m 0, .i .i64 o, .i .i64 i] h = some (.t [.i .i64 (M.t.get a), .i .i64 (Int.ofNat 0)], h)) := by
 rcases bSf H hf with ⟨e, he, h1, h2⟩ | ⟨hd, a, h0, h1, h2, h3, h4, h5⟩
 ·refine .inl ⟨e, h1, fun n => ?_⟩
  rw [cJ 52 rfl, cNf]
  simp only [t73, g0, g1, g2, h2, aO, bVn, bUg, eN, cOq he, bN]
 ·refine .inr ⟨hd, a, h4, fun n => ?_⟩
  rw [cJ 52 rfl, cNf]
  have e0 : (Int.ofNat 0 != Int.ofNat 0) = false := rfl
  simp only [t73, g0, g1, g2, h5, aO, bVn, bUg, eN, e0, bG, iB, dX, H.l0, H.ix h1, H.ld h1]
end
theorem eP {args : List DV} {h : Hp} {k : MemV → List DV → aH} {r : DV × Hp} (hr : iU args h k = some r) :
  ∃ m rest M, args = .p m 0 :: rest ∧ mK m h = some M ∧ k M rest = some r := by
 unfold iU at hr
 split at hr <;> (try (cases hr; done))
 rename_i m rest
 split at hr <;> (try (cases hr; done))
 rename_i M hM
 exact ⟨m, rest, M, rfl, hM, hr⟩
theorem cWh (n : Nat) (args : List DV) : SimP false (isF args) (fG CF1 (n + 12) 46 args) := fun h h' S v k e => by
 obtain ⟨m, rest, M, rfl, hM, e⟩ := eP e
 split at e <;> (try (cases e; done))
 simp only [bC, bP] at e
 obtain ⟨rfl, rfl⟩ := e
 exact ⟨h', cJs (fJ hM S) (n + 8) _, S⟩
theorem bYr (n : Nat) (args : List DV) : SimP false (aRi args) (fG CF1 (n + 12) 18 args) := fun h h' S v k e => by
 obtain ⟨m, rest, M, rfl, hM, e⟩ := eP e
 split at e <;> (try (cases e; done))
 simp only [bC, bP] at e
 obtain ⟨rfl, rfl⟩ := e
 exact ⟨h', dCh (fJ hM S) (n + 7) _, S⟩
theorem bMj (n : Nat) (args : List DV) : SimP false (aAs args) (fG CF1 (n + 12) 94 args) := fun h h' S v k e => by
 obtain ⟨m, rest, M, rfl, hM, e⟩ := eP e
 split at e <;> (try (cases e; done))
 simp only [bC, bP] at e
 obtain ⟨rfl, rfl⟩ := e
 exact ⟨h', dIm (fJ hM S) (n + 11), S⟩
theorem bVf (n : Nat) (args : List DV) : SimP false (aYb args) (fG CF1 (n + 12) 75 args) := fun h h' S v k e => by
 obtain ⟨m, rest, M, rfl, hM, e⟩ := eP e
 split at e <;> (try (cases e; done))
 simp only [bC, bP] at e
 obtain ⟨rfl, rfl⟩ := e
 exact ⟨h', dEk (fJ hM S) (n + 11), S⟩
theorem bBo (n : Nat) (args : List DV) : SimP false (jJ args) (fG CF1 (n + 12) 104 args) := fun h h' S v k e => by
 obtain ⟨m, rest, M, rfl, hM, e⟩ := eP e
 split at e <;> (try (cases e; done))
 obtain ⟨h1, hd, h2, h3, e⟩ := vT e
 simp only [bC, bP] at e
 obtain ⟨rfl, rfl⟩ := e
 exact ⟨h', dJc (fJ hM S) (n + 6) _ h1, S⟩
theorem aOs (n : Nat) (args : List DV) : SimP false (iW args) (fG CF1 (n + 12) 90 args) := fun h h' S v k e => by
 obtain ⟨m, rest, M, rfl, hM, e⟩ := eP e
 split at e <;> (try (cases e; done))
 obtain ⟨h1, hd, h2, h3, e⟩ := vT e
 simp only [bC, bP] at e
 obtain ⟨rfl, rfl⟩ := e
 refine ⟨h', ?_, S⟩
 rw [dGs (fJ hM S) (n + 6) _ (by omega), h2]
 rfl
theorem aQe (n : Nat) (args : List DV) : SimP false (eJ args) (fG CF1 (n + 12) 73 args) := fun h h' S v k e => by
 obtain ⟨m, rest, M, rfl, hM, e⟩ := eP e
 split at e <;> (try (cases e; done))
 obtain ⟨h1, hd, h2, h3, e⟩ := vT e
 simp only [bC, bP] at e
 obtain ⟨rfl, rfl⟩ := e
 refine ⟨h', ?_, S⟩
 rw [dFu (fJ hM S) (n + 6) _ (by omega), h2]
 rfl
theorem cMi (n : Nat) (args : List DV) : SimP false (qT args) (fG CF1 (n + 12) 52 args) := fun h h' S v k e => by
 obtain ⟨m, rest, M, rfl, hM, e⟩ := eP e
 split at e <;> (try (cases e; done))
 rename_i o i
 rcases dKl (fJ hM S) e with ⟨er, e1, e2⟩ | ⟨hd, a, e1, e2⟩
 ·simp only [err, bC, bP] at e1
  obtain ⟨rfl, rfl⟩ := e1
  exact ⟨h', e2 (n + 4), S⟩
 ·simp only [bC, bP] at e1
  obtain ⟨rfl, rfl⟩ := e1
  exact ⟨h', e2 (n + 4), S⟩
theorem aMd (n : Nat) (args : List DV) : SimP false (eO args) (fG CF1 (n + 12) 45 args) := fun h h' S v k e => by
 unfold eO at e
 split at e <;> (try (cases e; done))
 simp only [bC, bP] at e
 obtain ⟨rfl, rfl⟩ := e
 exact ⟨h', cTp (n + 10) _ h', S⟩
theorem bDp (n : Nat) (args : List DV) : SimP false (kI args) (fG CF1 (n + 12) 122 args) := fun h h' S v k e => by
 unfold kI at e
 split at e <;> (try (cases e; done))
 rename_i w
 have hc := dJt (n + 9) w h'
 cases hs : cV w with
 | true =>
  rw [hs] at e hc
  simp only [cond_true, bC, bP] at e
  obtain ⟨rfl, rfl⟩ := e
  exact ⟨h', by rw [hc, sR]; rfl, S⟩
 | false =>
  rw [hs] at e hc
  simp only [cond_false, bC, bP] at e
  obtain ⟨rfl, rfl⟩ := e
  exact ⟨h', by rw [hc]; rfl, S⟩
theorem bCw (n : Nat) (args : List DV) : SimP false (iI args) (fG CF1 (n + 12) 88 args) := fun h h' S v k e => by
 unfold iI at e
 split at e <;> (try (cases e; done))
 ·rename_i w
  have hc := dGg (n + 10) (Int.ofNat w) h'
  rw [gK] at e
  by_cases hw : w < 1073741824
  ·simp only [hw, decide_true, cond_true, bC, bP] at e
   obtain ⟨rfl, rfl⟩ := e
   rw [if_pos (by simp only [Int.ofNat_eq_natCast]; omega)] at hc
   refine ⟨h', ?_, S⟩
   rw [hc]
   have : 2 * Int.ofNat w + 1 = Int.ofNat (Nat.succ (Nat.mul w 2)) := by
    have : Nat.mul w 2 = w * 2 := rfl
    rw [this]
    simp only [Int.ofNat_eq_natCast]; omega
   rw [this]
  ·simp only [hw, decide_false, cond_false, bC, bP] at e
   obtain ⟨rfl, rfl⟩ := e
   rw [if_neg (by simp only [Int.ofNat_eq_natCast]; omega)] at hc
   exact ⟨h', by rw [hc]; rfl, S⟩
 ·rename_i w
  have hc := dGg (n + 10) (Int.negSucc w) h'
  rw [gK] at e
  by_cases hw : w < 1073741824
  ·simp only [hw, decide_true, cond_true, bC, bP] at e
   obtain ⟨rfl, rfl⟩ := e
   rw [if_pos (by omega)] at hc
   refine ⟨h', ?_, S⟩
   rw [hc]
   have : 2 * Int.negSucc w + 1 = Int.negSucc (Nat.mul w 2) := by
    have : Nat.mul w 2 = w * 2 := rfl
    rw [this]; omega
   rw [this]
  ·simp only [hw, decide_false, cond_false, bC, bP] at e
   obtain ⟨rfl, rfl⟩ := e
   rw [if_neg (by omega)] at hc
   exact ⟨h', by rw [hc]; rfl, S⟩
end Go.Dd

namespace Go.Dd
def Oth (m wb pb : Pos) (h h1 : Hp) : Prop := h1.next = h.next ∧ ∀ b, b ≠ m → b ≠ wb → b ≠ pb → h1.bl.get b = h.bl.get b
theorem Oth.refl (m wb pb : Pos) (h : Hp) : Oth m wb pb h h := ⟨rfl, fun _ _ _ _ => rfl⟩
theorem Oth.trans {m wb pb : Pos} {a b c : Hp} (h : Oth m wb pb a b) (k : Oth m wb pb b c) : Oth m wb pb a c := ⟨k.1.trans h.1, fun x h1 h2 h3 => (k.2 x h1 h2 h3).trans (h.2 x h1 h2 h3)⟩
section
variable {m : Pos} {M : MemV} {h : Hp}
def bXl (M : MemV) : Ob := .row .ex [.l M.wb 0 M.n M.n, .i .i64 (Int.ofNat M.fin), .i .i64 (Int.ofNat M.made), .m M.pb]
theorem ML.setM (H : ML m M h) (M' : MemV) (e1 : M'.wb = M.wb) (e2 : M'.pb = M.pb) (e3 : M'.n = M.n) (e4 : M'.t = M.t) (e5 : M'.pl = M.pl) (h1 : M'.fin ≤ M.n) (h2 : M'.made < 2000000) :
  ML m M' ⟨h.next, Tr.set (bXl M') m h.bl⟩ ∧ Oth m M.wb M.pb h ⟨h.next, Tr.set (bXl M') m h.bl⟩ := by
 refine ⟨⟨by rw [dNc]; rfl, ?_, ?_, by rw [e3]; exact H.n_lt, by rw [e3]; exact h1, h2, by rw [e1]; exact H.d1, by rw [e2]; exact H.d2, by rw [e1, e2]; exact H.d3⟩, rfl, fun b h1 _ _ => dNb _ _ _ _ h1⟩
 ·rw [e1, e3, e4, dNb _ _ _ _ (Ne.symm H.d1)]; exact H.words
 ·rw [e2, e5, dNb _ _ _ _ (Ne.symm H.d2)]; exact H.places
theorem ML.st1 (H : ML m M h) {x : Nat} (hx : x ≤ M.n) : ∃ h1, aI 1 (.p m (0 + 1)) (.i .i64 (Int.ofNat x)) h = some (aU, h1) ∧ ML m { M with fin := x } h1 ∧ Oth m M.wb M.pb h h1 := by
 obtain ⟨a, b⟩ := H.setM { M with fin := x } rfl rfl rfl rfl rfl hx H.made_lt
 exact ⟨_, by simp [aI, dC, cU, H.row, Kind.writable, fL, jW, DV.one, bXl], a, b⟩
theorem ML.st2 (H : ML m M h) {x : Nat} (hx : x < 2000000) : ∃ h1, aI 1 (.p m (0 + 2)) (.i .i64 (Int.ofNat x)) h = some (aU, h1) ∧ ML m { M with made := x } h1 ∧ Oth m M.wb M.pb h h1 := by
 obtain ⟨a, b⟩ := H.setM { M with made := x } rfl rfl rfl rfl rfl H.fin_le hx
 exact ⟨_, by simp [aI, dC, cU, H.row, Kind.writable, fL, jW, DV.one, bXl], a, b⟩
theorem ML.setW (H : ML m M h) (t : WT) : ML m { M with t := t } ⟨h.next, Tr.set (.row .ex (gG M.n t)) M.wb h.bl⟩ ∧ Oth m M.wb M.pb h ⟨h.next, Tr.set (.row .ex (gG M.n t)) M.wb h.bl⟩ := by
 refine ⟨⟨?_, by rw [dNc], ?_, H.n_lt, H.fin_le, H.made_lt, H.d1, H.d2, H.d3⟩, rfl, fun b _ h1 _ => dNb _ _ _ _ h1⟩
 ·rw [dNb _ _ _ _ H.d1]; exact H.row
 ·rw [dNb _ _ _ _ (Ne.symm H.d3)]; exact H.places
theorem ML.put' (H : ML m M h) {a : Nat} (ha : a < M.n) (w : Int) : ∃ h1, aI 1 (.p M.wb a) (.i .i64 w) h = some (aU, h1) ∧ ML m { M with t := M.t.set a w } h1 ∧ Oth m M.wb M.pb h h1 :=
 ⟨_, H.put ha w, (H.setW _).1, (H.setW _).2⟩
theorem bFf {a : Int} {es : List (DV × DV)} : ∀ (b : Int) {r r' : Option DV}, cY (.int .i64) (.i .i64 a) es = some r → cY (.int .i64) (.i .i64 b) es = some r' →
  cY (.int .i64) (.i .i64 b) (rV (.int .i64) (.i .i64 a) (.b true) es) = some (if b = a then some (.b true) else r') := by
 induction es with
 | nil =>
  intro b r r' h1 h2
  simp only [cY, bC] at h2
  subst h2
  simp only [rV, cY, mL, if_true]
  by_cases e : b = a
  ·simp [e]
  ·have : (b == a) = false := by simpa using e
   simp [e, this]
 | cons e es ih =>
  intro b r r' h1 h2
  simp only [cY] at h1 h2
  have hk : ∃ c, e.1 = .i .i64 c := by
   obtain ⟨x, y⟩ := e
   cases x <;> simp [mL] at h1
   rename_i k c
   cases k <;> simp at h1
   exact ⟨c, rfl⟩
  obtain ⟨c, hc⟩ := hk
  simp only [hc, mL, if_true] at h1 h2
  simp only [rV, hc, mL, if_true]
  by_cases hac : a = c
  ·subst hac
   simp only [beq_self_eq_true] at h1 ⊢
   simp only [cY, mL, if_true]
   by_cases hba : b = a
   ·subst hba; simp
   ·have : (b == a) = false := by simpa using hba
    simp only [this] at h2 ⊢
    rw [h2]; simp [hba]
  ·have hac' : (a == c) = false := by simpa using hac
   simp only [hac'] at h1 ⊢
   simp only [cY, hc, mL, if_true]
   by_cases hbc : b = c
   ·subst hbc
    simp only [beq_self_eq_true, bC] at h2 ⊢
    rw [if_neg (fun e => hac e.symm), h2]
   ·have hbc' : (b == c) = false := by simpa using hbc
    simp only [hbc'] at h2 ⊢
    exact ih b h1 h2
theorem ML.place (H : ML m M h) {a : Nat} (ha : a < 16000000) : ∃ h1, gL (.int .i64) (.m M.pb) (.i .i64 (a : Int)) (.b true) h = some (aU, h1) ∧ ML m { M with pl := M.pl.set a 1 } h1 ∧ Oth m M.wb M.pb h h1 := by
 obtain ⟨es, h1, h2⟩ := H.places
 refine ⟨⟨h.next, Tr.set (.mp (rV (.int .i64) (.i .i64 (a : Int)) (.b true) es)) M.pb h.bl⟩, by simp [gL, h1, h2 a], ⟨?_, ?_, ⟨_, by rw [dNc], fun b => ?_⟩, H.n_lt, H.fin_le, H.made_lt, H.d1, H.d2, H.d3⟩, rfl, fun b _ _ h1 => dNb _ _ _ _ h1⟩
 ·rw [dNb _ _ _ _ H.d2]; exact H.row
 ·rw [dNb _ _ _ _ H.d3]; exact H.words
 ·rw [bFf b (h2 a) (h2 b)]
  congr 1
  by_cases e : b = (a : Int)
  ·subst e
   simp [WT.get_set _ _ _ _ ha]
  ·rw [if_neg e]
   by_cases hb : 0 ≤ b
   ·have : b.toNat ≠ a := by omega
    rw [WT.get_set _ _ _ _ ha, if_neg this]
   ·simp [hb]
theorem cBg {h' h1 : Hp} {M' : MemV} (S : Sim false h h') (hM : mK m h = some M) (H1 : ML m M' h1) (e1 : M'.wb = M.wb) (e2 : M'.pb = M.pb) (e3 : M'.n = M.n) (O : Oth m M.wb M.pb h' h1) :
  Sim false ⟨h.next, Tr.set (bXl M') m (Tr.set (.mi M'.pl) M.pb (Tr.set (.big M.n M'.t) M.wb h.bl))⟩ h1 := by
 have H := fJ hM S
 refine ⟨O.1.trans S.next, fun b o hb => ?_⟩
 by_cases b1 : b = m
 ·subst b1
  simp only [dNc, bC] at hb
  subst hb
  exact ⟨_, H1.row, rfl⟩
 ·simp only [dNb _ _ _ _ b1] at hb
  by_cases b2 : b = M.pb
  ·subst b2
   simp only [dNc, bC] at hb
   subst hb
   obtain ⟨es, p1, p2⟩ := H1.places
   rw [e2] at p1
   exact ⟨_, p1, by simp only [vG]; exact ⟨es, rfl, p2⟩⟩
  ·simp only [dNb _ _ _ _ b2] at hb
   by_cases b3 : b = M.wb
   ·subst b3
    simp only [dNc, bC] at hb
    subst hb
    have := H1.words
    rw [e1, e3] at this
    exact ⟨_, this, by simp [vG]⟩
   ·simp only [dNb _ _ _ _ b3] at hb
    rw [O.2 b b1 b3 b2]
    exact S.get b o hb
theorem bDm {h' h1 : Hp} {t : WT} (S : Sim false h h') (hM : mK m h = some M) (H1 : ML m { M with t := t } h1) (O : Oth m M.wb M.pb h' h1) (hm : h1.bl.get m = h'.bl.get m) (hp : h1.bl.get M.pb = h'.bl.get M.pb) :
  Sim false ⟨h.next, Tr.set (.big M.n t) M.wb h.bl⟩ h1 := by
 refine ⟨O.1.trans S.next, fun b o hb => ?_⟩
 by_cases b3 : b = M.wb
 ·subst b3
  simp only [dNc, bC] at hb
  subst hb
  exact ⟨_, H1.words, by simp [vG]⟩
 ·simp only [dNb _ _ _ _ b3] at hb
  by_cases b1 : b = m
  ·subst b1; rw [hm]; exact S.get _ o hb
  ·by_cases b2 : b = M.pb
   ·subst b2; rw [hp]; exact S.get _ o hb
   ·rw [O.2 b b1 b3 b2]
    exact S.get b o hb
end
theorem aMj {m : Pos} {M : MemV} {h h' : Hp} (S : Sim false h h') (hM : mK m h = some M) {a : Nat} (ha : a < M.n) (w : Int) {v : DV} {k : Hp} (hp : nF M a w h = some (v, k)) :
  v = .i .i64 (Int.ofNat 0) ∧ ∃ h1, aI 1 (.p M.wb a) (.i .i64 w) h' = some (aU, h1) ∧ Sim false k h1 := by
 have H := fJ hM S
 simp only [nF, bC, bP] at hp
 obtain ⟨rfl, rfl⟩ := hp
 refine ⟨rfl, _, H.put ha w, bDm S hM (H.setW _).1 (H.setW _).2 ?_ ?_⟩
 ·exact dNb _ _ _ _ H.d1
 ·exact dNb _ _ _ _ (Ne.symm H.d3)
theorem cDz (n : Nat) (args : List DV) : SimP false (aAh args) (fG CF1 (n + 12) 38 args) := fun h h' S v k e => by
 obtain ⟨m, rest, M, rfl, hM, e⟩ := eP e
 split at e <;> (try (cases e; done))
 rename_i o i w _
 have H := fJ hM S
 rw [cJ 38 rfl, dHc]
 simp only [t47, aXi, g0, g1, g2, g3]
 rcases bSf H e with ⟨er, he, e1, e2⟩ | ⟨hd, a, h0, h1, h2, h3, e1, e2⟩
 ·simp only [bC, bP] at e1
  obtain ⟨rfl, rfl⟩ := e1
  refine ⟨h', ?_, S⟩
  simp only [e2 (n + 4), aO, bVn, bUg, aMa, eN, cOq he, bN]
 ·have e0 : (Int.ofNat 0 != Int.ofNat 0) = false := rfl
  have h51 := dGs H (n + 5) o (show bV o M.pl < M.n by omega)
  rw [h3] at h51
  simp only [e2 (n + 4), aO, bVn, bUg, aMa, eN, e0, bG, aZf, h51, cI]
  have hmod : Int.ofNat hd % 4 = Int.ofNat (Nat.mod hd 4) := rfl
  have h4 : tB (fG CF1 (n + 11)) (n + 11) (.p m 0) (.i .i64 w) (.i .i64 (a : Int)) h' = bnd (aI 1 (.p M.wb a) (.i .i64 w) h') fun _ h5 => some (.i .i64 (Int.ofNat 0), h5) := by
   simp only [tB, iB, dX, aO, H.l0, H.ix h1]
  have hput : nF M a w h = some (v, k) → ∃ h1, tB (fG CF1 (n + 11)) (n + 11) (.p m 0) (.i .i64 w) (.i .i64 (a : Int)) h' = some (v, h1) ∧ Sim false k h1 := by
   intro hp
   obtain ⟨rfl, h1', p1, p2⟩ := aMj S hM h1 w hp
   exact ⟨h1', by rw [h4, p1]; rfl, p2⟩
  rw [hmod]
  split at e1
  ·rename_i hz
   rw [hz]
   have : (Int.ofNat 0 == Int.ofNat 0) = true := rfl
   simp only [this, bN, dCh H, aO, iM]
   cases hmay : eD w M.pl with
   | true =>
    rw [hmay] at e1
    simp only [cond_true] at e1
    simp only [Bool.not_true, bG]
    exact hput e1
   | false =>
    rw [hmay] at e1
    simp only [cond_false, bC, bP] at e1
    obtain ⟨rfl, rfl⟩ := e1
    exact ⟨h', rfl, S⟩
  ·rename_i hz
   rw [hz]
   have q0 : (Int.ofNat 2 == Int.ofNat 0) = false := rfl
   have q2 : (Int.ofNat 2 == Int.ofNat 2) = true := rfl
   simp only [q0, bG, aO, q2, bN, cG]
   cases w with
   | negSucc c =>
    simp only [bC, bP] at e1
    obtain ⟨rfl, rfl⟩ := e1
    have hlt : decide (Int.negSucc c < Int.ofNat 0) = true := decide_eq_true (Int.negSucc_lt_zero c)
    simp only [hlt, fN, aO, bQ, bN]
    exact ⟨h', rfl, S⟩
   | ofNat c =>
    dsimp only at e1
    have hlt : decide (Int.ofNat c < Int.ofNat 0) = false := by simp
    simp only [hlt, gI, aO, bK, gA]
    rw [jO] at e1
    by_cases hc : c ≤ 255
    ·simp only [hc, decide_true, cond_true] at e1
     have hgt : decide (Int.ofNat c > Int.ofNat 255) = false := by
      simp only [decide_eq_false_iff_not, Int.ofNat_eq_natCast]; omega
     simp only [hgt, bG]
     exact hput e1
    ·simp only [hc, decide_false, cond_false, bC, bP] at e1
     obtain ⟨rfl, rfl⟩ := e1
     have hgt : decide (Int.ofNat c > Int.ofNat 255) = true := by
      simp only [decide_eq_true_eq, Int.ofNat_eq_natCast]; omega
     simp only [hgt, bN]
     exact ⟨h', rfl, S⟩
  ·rename_i hz0 hz2
   have q0 : (Int.ofNat (Nat.mod hd 4) == Int.ofNat 0) = false := by
    simp only [beq_eq_false_iff_ne, ne_eq, Int.ofNat_eq_natCast]
    intro e; exact hz0 (by exact_mod_cast e)
   have q2 : (Int.ofNat (Nat.mod hd 4) == Int.ofNat 2) = false := by
    simp only [beq_eq_false_iff_ne, ne_eq, Int.ofNat_eq_natCast]
    intro e; exact hz2 (by exact_mod_cast e)
   simp only [q0, bG, aO, q2, bG]
   exact hput e1
theorem aGc (n : Nat) (args : List DV) : SimP false (lE args) (fG CF1 (n + 12) 35 args) := fun h h' S v k e => by
 obtain ⟨m, rest, M, rfl, hM, e⟩ := eP e
 split at e <;> (try (cases e; done))
 rename_i o c _
 have H := fJ hM S
 rw [cJ 35 rfl, dBm]
 simp only [t44, g0, g1, g2, tH H, aO, cI]
 rw [qF] at e
 by_cases h0 : bV o M.pl = 0
 ·simp only [h0, decide_true, Bool.true_or, cond_true, bC, bP] at e
  obtain ⟨rfl, rfl⟩ := e
  have : ((0 : Nat) : Int) = Int.ofNat 0 := rfl
  have q : (((bV o M.pl : Nat) : Int) == Int.ofNat 0) = true := by rw [h0]; rfl
  simp only [q, fN, aO, bQ, bN]
  exact ⟨h', rfl, S⟩
 ·have q : (((bV o M.pl : Nat) : Int) == Int.ofNat 0) = false := by simpa using h0
  simp only [q, gI, aO, bK, dFz H, iM]
  cases hc : rX c M.pl with
  | false =>
   rw [hc] at e
   simp only [h0, decide_false, Bool.not_false, Bool.false_or, cond_true, bC, bP] at e
   obtain ⟨rfl, rfl⟩ := e
   simp only [Bool.not_false, bN]
   exact ⟨h', rfl, S⟩
  | true =>
   rw [hc] at e
   simp only [h0, decide_false, Bool.not_true, Bool.false_or, cond_false] at e
   rw [gK] at e
   by_cases ha : Nat.add (bV o M.pl) 1 < M.n
   ·simp only [ha, decide_true, cond_true] at e
    have ha' : bV o M.pl + 1 < M.n := ha
    have hn := H.n_lt
    simp only [Bool.not_true, bG, iB, dX, aO, H.l0]
    rw [fZ _ _ _ (by simp only [Int.ofNat_eq_natCast]; omega)]
    have ee : (bV o M.pl : Int) + Int.ofNat 1 = ((bV o M.pl + 1 : Nat) : Int) := by simp
    obtain ⟨rfl, h1', p1, p2⟩ := aMj S hM ha' c e
    simp only [aO, ee, H.ix ha', p1]
    exact ⟨h1', rfl, p2⟩
   ·simp only [ha, decide_false, cond_false] at e
    cases e
end Go.Dd

namespace Go.Dd
theorem jQ (a b : Nat) (h : Hp) (hr : a + b < 4611686018427387904) : aD .add (.i .i64 (Int.ofNat a)) (.i .i64 (Int.ofNat b)) h = some (.i .i64 (Int.ofNat (a + b)), h) := by
 rw [fZ _ _ _ (by simp only [Int.ofNat_eq_natCast]; omega)]
 rfl
theorem cXg (c f : Nat) (h : Hp) (hc : c ≤ 256) (hf : f ≤ 2) : aD .or (.i .i64 (4 * Int.ofNat c)) (.i .i64 (Int.ofNat f)) h = some (.i .i64 (Int.ofNat (c * 4 + f)), h) := by
 have hb : gZ .or .i64 (4 * Int.ofNat c) (Int.ofNat f) = some (.i .i64 (Int.ofNat (c * 4 + f))) := by
  have := cTq c 2 f (by omega) (by omega)
  have e1 : ((c * 2 ^ 2 : Nat) : Int) = 4 * Int.ofNat c := by simp only [Int.ofNat_eq_natCast]; omega
  have e2 : ((c * 2 ^ 2 + f : Nat) : Int) = Int.ofNat (c * 4 + f) := rfl
  rw [e1, e2] at this
  rw [← this]; rfl
 simp only [aD, if_true, hb]
theorem sG (t : WT) : ∀ (c a j : Nat), a + c < 16000000 → (mS t c a).get j = if a ≤ j ∧ j < a + c then 0 else t.get j
 | 0, a, j, h => by rw [if_neg (by omega)]; rfl
 | c + 1, a, j, h => by
  have e : mS t (c + 1) a = (mS t c (a + 1)).set a (.ofNat 0) := rfl
  rw [e, WT.get_set _ _ _ _ (by omega), sG t c (a + 1) j (by omega)]
  by_cases h1 : j = a
  ·rw [if_pos h1, if_pos (by omega)]; rfl
  ·rw [if_neg h1]
   by_cases h2 : a + 1 ≤ j ∧ j < a + 1 + c
   ·rw [if_pos h2, if_pos (by omega)]
   ·rw [if_neg h2, if_neg (by omega)]
theorem aZm : ∀ (l vs : List DV), (∀ v ∈ l, v.one = true) → (∀ v ∈ vs, v.one = true) → vs.length ≤ l.length → ∃ l', jW l vs = some l'
 | l, [], _, _, _ => ⟨l, by cases l <;> rfl⟩
 | [], v :: vs, _, _, h => by simp at h
 | x :: l, v :: vs, h1, h2, h3 => by
  obtain ⟨l', e⟩ := aZm l vs (fun u hu => h1 u (by simp [hu])) (fun u hu => h2 u (by simp [hu])) (by simpa using h3)
  exact ⟨v :: l', by simp [jW, h1 x (by simp), h2 v (by simp), e]⟩
theorem aLx : ∀ (o : Nat) (l vs : List DV), (∀ v ∈ l, v.one = true) → (∀ v ∈ vs, v.one = true) → o + vs.length ≤ l.length → ∃ l', fL o l vs = some l'
 | 0, l, vs, h1, h2, h3 => by
  obtain ⟨l', e⟩ := aZm l vs h1 h2 (by omega)
  exact ⟨l', e⟩
 | o + 1, [], vs, h1, h2, h3 => by simp at h3
 | o + 1, x :: l, vs, h1, h2, h3 => by
  obtain ⟨l', e⟩ := aLx o l vs (fun u hu => h1 u (by simp [hu])) h2 (by simp at h3; omega)
  exact ⟨x :: l', by simp [fL, e]⟩
section
variable {m : Pos} {M : MemV} {h : Hp}
theorem bSt {n : Nat} {t : WT} : ∀ v ∈ gG n t, v.one = true := by
 intro v hv
 simp only [gG, List.mem_map] at hv
 obtain ⟨i, _, rfl⟩ := hv
 rfl
theorem ML.ix' (H : ML m M h) {a : Nat} (ha : a < M.n) : aE 1 (.l M.wb 0 M.n M.n) (.i .i64 (Int.ofNat a)) h = some (.p M.wb a, h) := H.ix ha
theorem xS (c : Nat) : (List.replicate c [DV.i .i64 (Int.ofNat 0)]).flatten = List.replicate c (.i .i64 (Int.ofNat 0)) := by
 induction c with
 | zero => rfl
 | succ c ih => simp [List.replicate_succ, ih]
theorem ML.clear (H : ML m M h) {a c : Nat} (hac : a + c ≤ M.n) : ∃ v h1, cX 1 (.l M.wb 0 M.n M.n) (some (.i .i64 (Int.ofNat a))) (some (.i .i64 (Int.ofNat (a + c)))) h = some (v, h) ∧
  kH [.i .i64 (Int.ofNat 0)] v h = some (.t [], h1) ∧ ML m { M with t := mS M.t c a } h1 ∧ Oth m M.wb M.pb h h1 := by
 have hn := H.n_lt
 have e1 : iP (.i .i64 (Int.ofNat (a + c))) M.n = some (a + c) := by
  have : (0 : Int) ≤ Int.ofNat (a + c) ∧ Int.ofNat (a + c) ≤ (M.n : Int) := by simp only [Int.ofNat_eq_natCast]; omega
  simp only [iP, this, and_self, if_true]
  rfl
 have e2 : iP (.i .i64 (Int.ofNat a)) (a + c) = some a := by
  have : (0 : Int) ≤ Int.ofNat a ∧ Int.ofNat a ≤ ((a + c : Nat) : Int) := by simp only [Int.ofNat_eq_natCast]; omega
  simp only [iP, this, and_self, if_true]
  rfl
 refine ⟨.l M.wb (if M.n = a then 0 else 0 + a * 1) (a + c - a) (M.n - a), ?_⟩
 have hs : cX 1 (.l M.wb 0 M.n M.n) (some (.i .i64 (Int.ofNat a))) (some (.i .i64 (Int.ofNat (a + c)))) h = some (.l M.wb (if M.n = a then 0 else 0 + a * 1) (a + c - a) (M.n - a), h) := by
  simp only [cX, hiD, loD, e1, e2, H.words]
 by_cases hc : c = 0
 ·subst hc
  refine ⟨h, hs, by simp [kH], H, Oth.refl _ _ _ _⟩
 ·obtain ⟨l', hl'⟩ := aLx a (gG M.n M.t) (List.replicate c (.i .i64 (Int.ofNat 0))) bSt (fun v hv => by rw [List.eq_of_mem_replicate hv]; rfl) (by simp [gG]; omega)
  obtain ⟨p1, p2, p3, p4, p5⟩ := lW _ _ _ _ hl'
  have hll : l' = gG M.n (mS M.t c a) := by
   apply List.ext_getElem?
   intro j
   by_cases hj : j < M.n
   ·rw [lQ hj, sG _ _ _ _ (by omega)]
    by_cases hin : a ≤ j ∧ j < a + c
    ·rw [if_pos hin]
     obtain ⟨q1, _⟩ := p4 (j - a) (.i .i64 (Int.ofNat 0)) (by rw [List.getElem?_replicate, if_pos (by omega)])
     rw [show a + (j - a) = j from by omega] at q1
     exact q1
    ·rw [if_neg hin, p5 j (by rw [List.length_replicate]; omega), lQ hj]
   ·rw [List.getElem?_eq_none (by rw [p1]; simp [gG]; omega), List.getElem?_eq_none (by simp [gG]; omega)]
  refine ⟨⟨h.next, Tr.set (.row .ex (gG M.n (mS M.t c a))) M.wb h.bl⟩, hs, ?_, (H.setW _).1, (H.setW _).2⟩
  have hna : M.n ≠ a := by omega
  rw [if_neg hna]
  simp only [kH, show a + c - a = c from by omega, hc, if_false, xS, cU, H.words, Kind.writable, if_true, Nat.zero_add, Nat.mul_one, hl', hll]
end
noncomputable def aVz (rec : FuncId → List DV → Hp → aH) (x0 x3 v26 : DV) (h0 : Hp) : aH :=
 bnd (aZ x0 h0) fun v64 h64 =>
 bnd (aB 1 v64 h64) fun v65 h65 =>
 bnd (aA v65 h65) fun v66 h66 =>
 bnd (aD .add x3 (.i .i64 (Int.ofNat 3)) h66) fun v67 h67 =>
 bnd (aD .add v66 v67 h67) fun v68 h68 =>
 bnd (aZ x0 h68) fun v69 h69 =>
 bnd (aB 1 v69 h69) fun v70 h70 =>
 bnd (aI 1 v70 v68 h70) fun _ h71 =>
 bnd (aZ x0 h71) fun v72 h72 =>
 bnd (aB 3 v72 h72) fun v73 h73 =>
 bnd (aA v73 h73) fun v74 h74 =>
 bnd (gL (.int .i64) v74 v26 (.b true) h74) fun _ h75 =>
 bnd (rec 76 [v26] h75) fun v76 h76 =>
 bnd (aC 0 v76 h76) fun v77 h77 =>
 bnd (aC 1 v76 h77) fun v78 h78 =>
 some (.t [v77, (.i .i64 (Int.ofNat 0))], h78)
noncomputable def aTr (rec : FuncId → List DV → Hp → aH) (x0 x3 v26 : DV) (h0 : Hp) : aH :=
 bnd (aZ x0 h0) fun v56 h56 =>
 bnd (aB 0 v56 h56) fun v57 h57 =>
 bnd (aA v57 h57) fun v58 h58 =>
 bnd (aD .add v26 (.i .i64 (Int.ofNat 3)) h58) fun v59 h59 =>
 bnd (aD .add v26 (.i .i64 (Int.ofNat 3)) h59) fun v60 h60 =>
 bnd (aD .add v60 x3 h60) fun v61 h61 =>
 bnd (cX 1 v58 (some v59) (some v61) h61) fun v62 h62 =>
 bnd (kH [(.i .i64 (Int.ofNat 0))] v62 h62) fun _ h63 =>
 aVz rec x0 x3 v26 h63
noncomputable def aUs (rec : FuncId → List DV → Hp → aH) (x0 x1 x2 x3 v26 : DV) (h0 : Hp) : aH :=
 bnd (aZ x0 h0) fun v34 h34 =>
 bnd (aB 0 v34 h34) fun v35 h35 =>
 bnd (aA v35 h35) fun v36 h36 =>
 bnd (aZ x0 h36) fun v37 h37 =>
 bnd (aB 0 v37 h37) fun v38 h38 =>
 bnd (aA v38 h38) fun v39 h39 =>
 bnd (aD .add v26 (.i .i64 (Int.ofNat 1)) h39) fun v40 h40 =>
 bnd (aZ x0 h40) fun v41 h41 =>
 bnd (aB 0 v41 h41) fun v42 h42 =>
 bnd (aA v42 h42) fun v43 h43 =>
 bnd (aD .add v26 (.i .i64 (Int.ofNat 2)) h43) fun v44 h44 =>
 bnd (dK .shl x3 (.i .u64 (Int.ofNat 2)) h44) fun v45 h45 =>
 bnd (aD .or v45 x2 h45) fun v46 h46 =>
 bnd (aZ x0 h46) fun v47 h47 =>
 bnd (aB 2 v47 h47) fun v48 h48 =>
 bnd (aA v48 h48) fun v49 h49 =>
 bnd (aE 1 v36 v26 h49) fun v50 h50 =>
 bnd (aI 1 v50 v46 h50) fun v51 h51 =>
 bnd (aE 1 v39 v40 h51) fun v52 h52 =>
 bnd (aI 1 v52 x1 h52) fun v53 h53 =>
 bnd (aE 1 v43 v44 h53) fun v54 h54 =>
 bnd (aI 1 v54 v49 h54) fun v55 h55 =>
 aTr rec x0 x3 v26 h55
noncomputable def aIj (rec : FuncId → List DV → Hp → aH) (x0 x1 x2 x3 : DV) (h0 : Hp) : aH :=
 bnd (aZ x0 h0) fun v24 h24 =>
 bnd (aB 1 v24 h24) fun v25 h25 =>
 bnd (aA v25 h25) fun v26 h26 =>
 bnd (aZ x0 h26) fun v27 h27 =>
 bnd (aB 2 v27 h27) fun v28 h28 =>
 bnd (aA v28 h28) fun v29 h29 =>
 bnd (aD .add v29 (.i .i64 (Int.ofNat 1)) h29) fun v30 h30 =>
 bnd (aZ x0 h30) fun v31 h31 =>
 bnd (aB 2 v31 h31) fun v32 h32 =>
 bnd (aI 1 v32 v30 h32) fun _ h33 =>
 aUs rec x0 x1 x2 x3 v26 h33
theorem cZr (rec : FuncId → List DV → Hp → aH) (n : Nat) (x0 x1 x2 x3 : DV) (h0 : Hp) : t30 rec n x0 x1 x2 x3 h0 = (
 bnd (rec 74 [x0, x1] h0) fun v1 h1 =>
 bnd (jE .not v1 h1) fun v2 h2 =>
 bnd (gD v2 false (some (x2, h2)) h2) fun v3 h3 =>
 bnd (gD v2 false (aD .lss v3 (.i .i64 (Int.ofNat 0)) h3) h3) fun v4 h4 =>
 bnd (aQ v2 (.b true) v4 h4) fun v5 h5 =>
 bnd (gD v5 false (some (x2, h5)) h5) fun v6 h6 =>
 bnd (gD v5 false (aD .gtr v6 (.i .i64 (Int.ofNat 2)) h6) h6) fun v7 h7 =>
 bnd (aQ v5 (.b true) v7 h7) fun v8 h8 =>
 bnd (gD v8 false (some (x3, h8)) h8) fun v9 h9 =>
 bnd (gD v8 false (aD .lss v9 (.i .i64 (Int.ofNat 0)) h9) h9) fun v10 h10 =>
 bnd (aQ v8 (.b true) v10 h10) fun v11 h11 =>
 bnd (gD v11 false (some (x3, h11)) h11) fun v12 h12 =>
 bnd (gD v11 false (aD .gtr v12 (.i .i64 (Int.ofNat 256)) h12) h12) fun v13 h13 =>
 bnd (aQ v11 (.b true) v13 h13) fun v14 h14 =>
 aX v14 (
 some (.t [(.i .i64 (Int.ofNat 0)), (.i .i64 (Int.ofNat 1))], h14)) (
 bnd (rec 75 [x0] h14) fun v15 h15 =>
 bnd (aD .add x3 (.i .i64 (Int.ofNat 3)) h15) fun v16 h16 =>
 bnd (aD .lss v15 v16 h16) fun v17 h17 =>
 bnd (gD v17 false (some (x0, h17)) h17) fun v18 h18 =>
 bnd (gD v17 false (aZ v18 h18) h18) fun v19 h19 =>
 bnd (gD v17 false (aB 2 v19 h19) h19) fun v20 h20 =>
 bnd (gD v17 false (aA v20 h20) h20) fun v21 h21 =>
 bnd (gD v17 false (aD .geq v21 (.i .i64 (Int.ofNat 1099511627776)) h21) h21) fun v22 h22 =>
 bnd (aQ v17 (.b true) v22 h22) fun v23 h23 =>
 aX v23 (
 some (.t [(.i .i64 (Int.ofNat 0)), (.i .i64 (Int.ofNat 4))], h23)) (
 aIj rec x0 x1 x2 x3 h23))) := rfl
section
variable {m : Pos} {M : MemV} {h : Hp}
theorem bKg (H : ML m M h) {c : Nat} (hr : M.fin + (c + 3) ≤ M.n) (ha : 3 ≤ M.fin ∧ M.fin ≤ 131072) (n : Nat) :
  ∃ h1, aVz (fG CF1 (n + 11)) (.p m 0) (.i .i64 (Int.ofNat c)) (.i .i64 (Int.ofNat M.fin)) h = some (.t [.i .i64 (Int.ofNat (Nat.mul M.fin 2)), .i .i64 (Int.ofNat 0)], h1) ∧
   ML m { M with fin := M.fin + (c + 3), pl := M.pl.set M.fin 1 } h1 ∧ Oth m M.wb M.pb h h1 := by
 have hn := H.n_lt
 simp only [aVz, iB, dX, aO, H.l1, jQ c 3 _ (show c + 3 < 4611686018427387904 by omega), jQ M.fin (c + 3) _ (show M.fin + (c + 3) < 4611686018427387904 by omega)]
 obtain ⟨h6, s6, H6, O6⟩ := H.st1 (x := M.fin + (c + 3)) hr
 simp only [s6, aO, H6.l3]
 obtain ⟨h7, s7, H7, O7⟩ := H6.place (a := M.fin) (by omega)
 rw [show gL (.int .i64) (.m M.pb) (.i .i64 (Int.ofNat M.fin)) (.b true) h6 = some (aU, h7) from s7]
 have hp : 3 ≤ Int.ofNat M.fin ∧ Int.ofNat M.fin ≤ 131072 := by simp only [Int.ofNat_eq_natCast]; omega
 have e2 : 2 * Int.ofNat M.fin = Int.ofNat (Nat.mul M.fin 2) := by
  have : Nat.mul M.fin 2 = M.fin * 2 := rfl
  rw [this]; simp only [Int.ofNat_eq_natCast]; omega
 have h75 := dMh (n + 9) (Int.ofNat M.fin) h7
 rw [if_pos hp, e2] at h75
 simp only [aO, h75, bVn, bUg]
 exact ⟨h7, rfl, H7, O6.trans O7⟩
theorem bJg (H : ML m M h) {c : Nat} (hr : M.fin + (c + 3) ≤ M.n) (n : Nat) :
  ∃ h1, aTr (fG CF1 (n + 11)) (.p m 0) (.i .i64 (Int.ofNat c)) (.i .i64 (Int.ofNat M.fin)) h = aVz (fG CF1 (n + 11)) (.p m 0) (.i .i64 (Int.ofNat c)) (.i .i64 (Int.ofNat M.fin)) h1 ∧
   ML m { M with t := mS M.t c (M.fin + 3) } h1 ∧ Oth m M.wb M.pb h h1 := by
 have hn := H.n_lt
 obtain ⟨vv, h5, s5, s5', H5, O5⟩ := H.clear (a := M.fin + 3) (c := c) (show M.fin + 3 + c ≤ M.n by omega)
 refine ⟨h5, ?_, H5, O5⟩
 simp only [aTr, iB, dX, aO, H.l0, jQ M.fin 3 _ (show M.fin + 3 < 4611686018427387904 by omega), jQ (M.fin + 3) c _ (show M.fin + 3 + c < 4611686018427387904 by omega), s5, s5']
theorem bYf (H : ML m M h) {cls : Int} {c f : Nat} (hcc : c ≤ 256) (hf : f ≤ 2) (hr : M.fin + (c + 3) ≤ M.n) (n : Nat) :
  ∃ h1, aUs (fG CF1 (n + 11)) (.p m 0) (.i .i64 cls) (.i .i64 (Int.ofNat f)) (.i .i64 (Int.ofNat c)) (.i .i64 (Int.ofNat M.fin)) h = aTr (fG CF1 (n + 11)) (.p m 0) (.i .i64 (Int.ofNat c)) (.i .i64 (Int.ofNat M.fin)) h1 ∧
   ML m { M with t := ((M.t.set M.fin (Int.ofNat (c * 4 + f))).set (M.fin + 1) cls).set (M.fin + 2) (Int.ofNat M.made) } h1 ∧ Oth m M.wb M.pb h h1 := by
 have hn := H.n_lt
 obtain ⟨h2, s2, H2, O2⟩ := H.put' (a := M.fin) (show M.fin < M.n by omega) (Int.ofNat (c * 4 + f))
 obtain ⟨h3, s3, H3, O3⟩ := H2.put' (a := M.fin + 1) (show M.fin + 1 < M.n by omega) cls
 obtain ⟨h4, s4, H4, O4⟩ := H3.put' (a := M.fin + 2) (show M.fin + 2 < M.n by omega) (Int.ofNat M.made)
 have i1 := H.ix' (a := M.fin) (by omega)
 have i2 : aE 1 (.l M.wb 0 M.n M.n) (.i .i64 (Int.ofNat (M.fin + 1))) h2 = some (.p M.wb (M.fin + 1), h2) := H2.ix' (a := M.fin + 1) (show M.fin + 1 < M.n by omega)
 have i3 : aE 1 (.l M.wb 0 M.n M.n) (.i .i64 (Int.ofNat (M.fin + 2))) h3 = some (.p M.wb (M.fin + 2), h3) := H3.ix' (a := M.fin + 2) (show M.fin + 2 < M.n by omega)
 have s3' : aI 1 (.p M.wb (M.fin + 1)) (.i .i64 cls) h2 = some (aU, h3) := s3
 have s4' : aI 1 (.p M.wb (M.fin + 2)) (.i .i64 (Int.ofNat M.made)) h3 = some (aU, h4) := s4
 refine ⟨h4, ?_, H4, (O2.trans O3).trans O4⟩
 simp only [aUs, iB, dX, aO, H.l0, H.l2, jQ M.fin 1 _ (show M.fin + 1 < 4611686018427387904 by omega), jQ M.fin 2 _ (show M.fin + 2 < 4611686018427387904 by omega),
  cJb (Int.ofNat c) _ (show -2305843009213693952 ≤ Int.ofNat c ∧ Int.ofNat c ≤ 2305843009213693951 by simp only [Int.ofNat_eq_natCast]; omega), cXg c f _ hcc hf, i1, s2, i2, s3', i3, s4']
end
theorem bEy {m : Pos} {M : MemV} {h h' : Hp} (S : Sim false h h') (hM : mK m h = some M) {cls : Int} {c f : Nat} (hcc : c ≤ 256) (hf : f ≤ 2) (hr : M.fin + (c + 3) ≤ M.n) (ha : 3 ≤ M.fin ∧ M.fin ≤ 131072) (n : Nat) :
  ∃ h1, aIj (fG CF1 (n + 11)) (.p m 0) (.i .i64 cls) (.i .i64 (Int.ofNat f)) (.i .i64 (Int.ofNat c)) h' = some (.t [.i .i64 (Int.ofNat (Nat.mul M.fin 2)), .i .i64 (Int.ofNat 0)], h1) ∧
   Sim false ⟨h.next, Tr.set (.row .ex [.l M.wb 0 M.n M.n, .i .i64 (Int.ofNat (M.fin + (c + 3))), .i .i64 (Int.ofNat (M.made + 1)), .m M.pb]) m
    (Tr.set (.mi (M.pl.set M.fin 1)) M.pb
     (Tr.set (.big M.n (mS (((M.t.set M.fin (Int.ofNat (c * 4 + f))).set (M.fin + 1) cls).set (M.fin + 2) (Int.ofNat (M.made + 1))) c (M.fin + 3))) M.wb h.bl))⟩ h1 := by
 have H := fJ hM S
 have hmd : M.made < 1000000 := (rY hM).2.2.2.2.2
 obtain ⟨h1, s1, H1, O1⟩ := H.st2 (x := M.made + 1) (by omega)
 obtain ⟨h2, s2, H2, O2⟩ := bYf H1 (cls := cls) hcc hf hr n
 obtain ⟨h3, s3, H3, O3⟩ := bJg H2 hr n
 obtain ⟨h4, s4, H4, O4⟩ := bKg H3 hr ha n
 have e : aIj (fG CF1 (n + 11)) (.p m 0) (.i .i64 cls) (.i .i64 (Int.ofNat f)) (.i .i64 (Int.ofNat c)) h' = aUs (fG CF1 (n + 11)) (.p m 0) (.i .i64 cls) (.i .i64 (Int.ofNat f)) (.i .i64 (Int.ofNat c)) (.i .i64 (Int.ofNat M.fin)) h1 := by
  simp only [aIj, iB, dX, aO, H.l1, H.l2, jQ M.made 1 _ (show M.made + 1 < 4611686018427387904 by omega), s1]
 refine ⟨h4, e.trans (s2.trans (s3.trans s4)), ?_⟩
 dsimp only at H4
 have H5 : ML m ⟨M.wb, M.n, M.fin + (c + 3), M.made + 1, M.pb, mS (((M.t.set M.fin (Int.ofNat (c * 4 + f))).set (M.fin + 1) cls).set (M.fin + 2) (Int.ofNat (M.made + 1))) c (M.fin + 3), M.pl.set M.fin 1⟩ h4 := H4
 exact cBg S hM H5 rfl rfl rfl (((O1.trans O2).trans O3).trans O4)
theorem bNp (n : Nat) (args : List DV) : SimP false (oD args) (fG CF1 (n + 12) 31 args) := fun h h' S v k e => by
 unfold oD at e
 split at e <;> (try (cases e; done))
 rename_i m cls fmt cnt
 split at e <;> (try (cases e; done))
 rename_i M hM
 have H := fJ hM S
 have hn := H.n_lt
 have hfn := H.fin_le
 rw [cJ 31 rfl, dDi, cZr]
 simp only [g0, g1, g2, g3, dFz H, aO, iM]
 have herr : ∀ er : Nat, err er h = some (v, k) → ∃ h1, (some (.t [.i .i64 (Int.ofNat 0), .i .i64 (Int.ofNat er)], h') : aH) = some (v, h1) ∧ Sim false k h1 := by
  intro er he
  simp only [err, bC, bP] at he
  obtain ⟨rfl, rfl⟩ := he
  exact ⟨h', rfl, S⟩
 cases hc : rX cls M.pl with
 | false =>
  rw [hc] at e
  simp only [Bool.not_false, cond_true] at e
  simp only [Bool.not_false, fN, aO, bQ, bN]
  exact herr 1 e
 | true =>
  rw [hc] at e
  simp only [Bool.not_true, cond_false] at e
  simp only [Bool.not_true, gI, aO, bK, cG]
  cases fmt with
  | negSucc f =>
   have hlt : decide (Int.negSucc f < Int.ofNat 0) = true := decide_eq_true (Int.negSucc_lt_zero f)
   simp only [hlt, fN, aO, bQ, bN]
   exact herr 1 e
  | ofNat f =>
   have hlt : decide (Int.ofNat f < Int.ofNat 0) = false := by simp
   simp only [hlt, gI, aO, bK, gA]
   by_cases hf : f ≤ 2
   ·have hgt : decide (Int.ofNat f > Int.ofNat 2) = false := by simp only [decide_eq_false_iff_not, Int.ofNat_eq_natCast]; omega
    simp only [hgt, gI, aO, bK, cG]
    cases cnt with
    | negSucc c =>
     have hlt : decide (Int.negSucc c < Int.ofNat 0) = true := decide_eq_true (Int.negSucc_lt_zero c)
     simp only [hlt, fN, aO, bQ, bN]
     exact herr 1 e
    | ofNat c =>
     have hlt : decide (Int.ofNat c < Int.ofNat 0) = false := by simp
     simp only [hlt, gI, aO, bK, gA]
     dsimp only at e
     simp only [jO, gK, hf, decide_true, Bool.true_and] at e
     by_cases hcc : c ≤ 256
     ·have hgt : decide (Int.ofNat c > Int.ofNat 256) = false := by simp only [decide_eq_false_iff_not, Int.ofNat_eq_natCast]; omega
      simp only [hgt, bG, dEk H, aO, jQ c 3 _ (by omega), cG]
      simp only [hcc, decide_true, cond_true] at e
      have hsub : Nat.sub M.n M.fin = M.n - M.fin := rfl
      have hadd : Nat.add c 3 = c + 3 := rfl
      rw [hsub, hadd] at e
      by_cases hr : M.n - M.fin < c + 3
      ·simp only [hr, decide_true, cond_true] at e
       have hl : decide (Int.ofNat (M.n - M.fin) < Int.ofNat (c + 3)) = true := by simp only [decide_eq_true_eq, Int.ofNat_eq_natCast]; omega
       simp only [hl, fN, aO, bQ, bN]
       exact herr 4 e
      ·simp only [hr, decide_false, cond_false] at e
       have hl : decide (Int.ofNat (M.n - M.fin) < Int.ofNat (c + 3)) = false := by simp only [decide_eq_false_iff_not, Int.ofNat_eq_natCast]; omega
       simp only [hl, gI, aO, bK, iB, dX, H.l2, iR]
       have hg : decide (Int.ofNat M.made ≥ Int.ofNat 1099511627776) = false := by
        have hmd : M.made < 1000000 := (rY hM).2.2.2.2.2
        simp only [decide_eq_false_iff_not, Int.ofNat_eq_natCast]; omega
       simp only [hg, bG]
       by_cases ha : 3 ≤ M.fin ∧ M.fin ≤ 131072
       ·simp only [ha.1, ha.2, decide_true, Bool.and_self, cond_true, bC, bP] at e
        obtain ⟨rfl, rfl⟩ := e
        exact bEy S hM hcc hf (by omega) ha n
       ·have : (decide (3 ≤ M.fin) && decide (M.fin ≤ 131072)) = false := by
         rw [← Bool.not_eq_true]
         simpa using ha
        rw [this] at e
        simp only [cond_false] at e
        cases e
     ·have hgt : decide (Int.ofNat c > Int.ofNat 256) = true := by simp only [decide_eq_true_eq, Int.ofNat_eq_natCast]; omega
      simp only [hcc, decide_false, cond_false] at e
      simp only [hgt, bN]
      exact herr 1 e
   ·have hgt : decide (Int.ofNat f > Int.ofNat 2) = true := by simp only [decide_eq_true_eq, Int.ofNat_eq_natCast]; omega
    simp only [hgt, fN, aO, bQ, bN]
    cases cnt with
    | negSucc c => exact herr 1 e
    | ofNat c =>
     dsimp only at e
     simp only [jO, hf, decide_false, Bool.false_and, cond_false] at e
     exact herr 1 e
theorem aNk (n : Nat) (args : List DV) : SimP false (aQj args) (fG CF1 (n + 12) 30 args) := fun h h' S v k e => by
 unfold aQj at e
 split at e <;> (try (cases e; done))
 ·rename_i w
  rw [cJ 30 rfl, cOp]
  simp only [t41, g0, cG, aO]
  simp only [gK] at e
  by_cases h1 : w < 16
  ·simp only [h1, decide_true, Bool.true_or, cond_true, bC, bP] at e
   obtain ⟨rfl, rfl⟩ := e
   have hl : decide (Int.ofNat w < Int.ofNat 16) = true := by simp only [decide_eq_true_eq, Int.ofNat_eq_natCast]; omega
   simp only [hl, fN, aO, bQ, bN]
   exact ⟨h', rfl, S⟩
  ·have hl : decide (Int.ofNat w < Int.ofNat 16) = false := by simp only [decide_eq_false_iff_not, Int.ofNat_eq_natCast]; omega
   simp only [hl, gI, aO, bK, gA]
   by_cases h2 : 131072 < w
   ·simp only [h2, decide_true, Bool.or_true, cond_true, bC, bP] at e
    obtain ⟨rfl, rfl⟩ := e
    have hg : decide (Int.ofNat w > Int.ofNat 131072) = true := by simp only [decide_eq_true_eq, Int.ofNat_eq_natCast]; omega
    simp only [hg, bN]
    exact ⟨h', rfl, S⟩
   ·simp only [h1, h2, decide_false, Bool.or_self, cond_false, bC, bP] at e
    obtain ⟨rfl, rfl⟩ := e
    have hg : decide (Int.ofNat w > Int.ofNat 131072) = false := by simp only [decide_eq_false_iff_not, Int.ofNat_eq_natCast]; omega
    simp only [hg, bG]
    have hms : cP 1 8 [.i .i64 (Int.ofNat 0)] (.i .i64 (Int.ofNat w)) (.i .i64 (Int.ofNat w)) h' = some (.l h'.next 0 w w, ⟨h'.next.succ, Tr.set (.row .ex (gG w .e)) h'.next h'.bl⟩) := by
     have hc : (0 : Int) ≤ Int.ofNat w ∧ Int.ofNat w ≤ Int.ofNat w ∧ (Int.ofNat w).toNat * 8 ≤ 2 ^ 30 ∧ (Int.ofNat w).toNat * 1 ≤ 2 ^ 24 ∧ Int.ofNat w < 2 ^ 32 := by
      have : (Int.ofNat w).toNat = w := rfl
      rw [this]
      simp only [Int.ofNat_eq_natCast]
      omega
     have hz : (List.replicate (Int.ofNat w).toNat [DV.i .i64 (Int.ofNat 0)]).flatten = gG w .e := by
      have : (Int.ofNat w).toNat = w := rfl
      rw [this, xS]
      apply List.ext_getElem?
      intro j
      by_cases hj : j < w
      ·rw [lQ hj, List.getElem?_replicate, if_pos hj]; rfl
      ·rw [List.getElem?_replicate, if_neg hj, List.getElem?_eq_none (by simp [gG]; omega)]
     simp only [cP, hc, and_self, if_true, hz]
     rfl
    simp only [hms, aO, dY]
    have hb : ∀ x y h, bE [.l0, .i .i64 (Int.ofNat 0), .i .i64 (Int.ofNat 0), .m0] [(0, 1, .l x 0 w w), (1, 1, .i .i64 (Int.ofNat 3)), (3, 1, .m y)] h = some (.a [.l x 0 w w, .i .i64 (Int.ofNat 3), .i .i64 (Int.ofNat 0), .m y], h) := fun x y h => rfl
    simp only [hb, aO, bU, dC, bY]
    have hnx := S.next
    refine ⟨_, by rw [hnx]; rfl, ?_⟩
    refine ⟨rfl, fun b o hb => ?_⟩
    show ∃ o', (Tr.set _ (cF 2 h.next) (Tr.set _ (cF 1 h.next) (Tr.set _ h.next h'.bl))).get b = some o' ∧ _
    by_cases b1 : b = cF 2 h.next
    ·subst b1
     simp only [dNc, bC] at hb ⊢
     subst hb
     exact ⟨_, rfl, rfl⟩
    ·simp only [dNb _ _ _ _ b1] at hb ⊢
     by_cases b2 : b = cF 1 h.next
     ·subst b2
      simp only [dNc, bC] at hb ⊢
      subst hb
      exact ⟨_, rfl, by simp only [vG]; exact ⟨[], rfl, fun a => by simp [cY, WT.get_e]⟩⟩
     ·simp only [dNb _ _ _ _ b2] at hb ⊢
      by_cases b3 : b = h.next
      ·subst b3
       simp only [dNc, bC] at hb ⊢
       subst hb
       exact ⟨_, rfl, by simp [vG]⟩
      ·simp only [dNb _ _ _ _ b3] at hb ⊢
       exact S.get b o hb
 ·rename_i w
  simp only [bC, bP] at e
  obtain ⟨rfl, rfl⟩ := e
  rw [cJ 30 rfl, cOp]
  have hl : decide (Int.negSucc w < Int.ofNat 16) = true := by simp only [decide_eq_true_eq]; have := Int.negSucc_lt_zero w; simp only [Int.ofNat_eq_natCast]; omega
  simp only [t41, g0, cG, aO, hl, fN, bQ, bN]
  exact ⟨h', rfl, S⟩
end Go.Dd

namespace Go.Dd
theorem aHd {gg : Bool} (args : List DV) : SimP gg (mU args) (mU args) := fun h h' S v k e => by
 unfold mU at e ⊢
 split at e <;> (try (cases e; done))
 rename_i l c
 cases hc : Nat.blt c 256 with
 | false => rw [hc] at e; cases e
 | true =>
  rw [hc] at e
  simp only [cond_true, bC, bP] at e
  obtain ⟨rfl, rfl⟩ := e
  exact ⟨h', rfl, S⟩
theorem aTb {gg : Bool} (q : Pos) (l1 : DV) (cs : List DV) : SimP gg (kB q l1 cs) (kB q l1 cs) := fun h h' S v k e => by
 unfold kB at e ⊢
 split at e <;> (try (cases e; done))
 ·simp only [bC, bP] at e ⊢
  obtain ⟨rfl, rfl⟩ := e
  exact ⟨_, ⟨by rw [S.next], rfl⟩, by rw [S.next]; exact S.setR _ _ _ _⟩
 ·rename_i b o len cap
  cases hc : (Nat.ble cap len && !(mV b q)) with
  | false => rw [hc] at e; cases e
  | true =>
   rw [hc] at e
   simp only [cnd] at e ⊢
   split at e <;> (try (cases e; done))
   rename_i es l old hb hold
   rw [S.row hb, S.cellsAt hold]
   dsimp only
   split at e <;> (try (cases e; done))
   rename_i hr
   rw [if_pos hr]
   simp only [bC, bP] at e ⊢
   obtain ⟨rfl, rfl⟩ := e
   refine ⟨_, ⟨by rw [S.next], rfl⟩, ?_⟩
   rw [S.next]
   exact (S.setR .sp (bR o l) b h.next).setR _ _ _ _
theorem aPl {gg : Bool} (c q : Pos) : SimP gg (sL c q) (sL c q) := by
 intro h h' S
 unfold sL
 refine dNk (lO _ h h' S) fun l1 _ _ _ => ?_
 refine dNk (dNg (nM l1) h h' S) fun n _ _ _ => ?_
 refine dNk (lF _ _ h h' S) fun x _ _ _ => ?_
 split
 ·refine dOf id ?_
  have S2 : Sim gg ⟨h.next.succ.succ, h.bl⟩ ⟨h'.next.succ.succ, h'.bl⟩ := ⟨by show h'.next.succ.succ = _; rw [S.next], S.get⟩
  refine dNk (aTb _ _ _ _ _ S2) fun l2 h3 h3' T3 => ?_
  exact dNk (lJ _ _ _ h3 h3' T3) fun u h4 h4' T4 => SimR.some T4 _
 ·exact SimR.none _
theorem cIt {gg : Bool} (n : Nat) (f : FuncId) (args : List DV) : SimP gg (fnD CF0 n f args) (fnD CF0 n f args) :=
 bXo (gg := gg) (P := Go.Proofs.Tryz.prog) (I2 := fun _ => none) (I1 := fun _ => none) 0 (fun _ _ => rfl) (fun _ _ h => by cases h) n f args
theorem aEa {gg : Bool} (args : List DV) : SimP gg (mQ args) (mQ args) := by
 unfold mQ
 intro h h' S
 split
 ·rename_i c lit
  dsimp only
  rw [show h'.next = h.next from S.next]
  refine dNk (aFh _ h h' S) fun b h1 h1' T1 => ?_
  refine dNk (lO _ h1 h1' T1) fun ls h2 h2' T2 => ?_
  refine dNk (cIt _ _ _ h2 h2' T2) fun i h3 h3' T3 => ?_
  refine dNk (dNg (xX _ _ _) h3 h3' T3) fun t h4 h4' T4 => ?_
  exact aJj (aPl _ _ h4 h4' T4) (SimR.some T4 _)
 ·exact SimR.none _
theorem dQ {C : Cfg} {rec : FuncId → List DV → Hp → aH} {g : FuncId} (h : C.I g = none) (args : List DV) : bH C rec g args = rec g args := by
 funext k
 unfold bH
 rw [h]
theorem aMu (g : FuncId) (F : List DV → Hp → aH) (hg : aAi g = some F) (n : Nat) (args : List DV) : SimP false (F args) (fG CF1 (n + 12) g args) := by
 unfold aAi at hg
 have hb : ∀ k, Nat.beq g k = true → g = k := fun k h => Nat.eq_of_beq_eq_true h
 cases h1 : Nat.beq g 18 with
 | true => rw [h1] at hg; cases hg; rw [hb _ h1]; exact bYr n args
 | false =>
 cases h2 : Nat.beq g 46 with
 | true => rw [h1, h2] at hg; cases hg; rw [hb _ h2]; exact cWh n args
 | false =>
 cases h3 : Nat.beq g 94 with
 | true => rw [h1, h2, h3] at hg; cases hg; rw [hb _ h3]; exact bMj n args
 | false =>
 cases h4 : Nat.beq g 75 with
 | true => rw [h1, h2, h3, h4] at hg; cases hg; rw [hb _ h4]; exact bVf n args
 | false =>
 cases h5 : Nat.beq g 31 with
 | true => rw [h1, h2, h3, h4, h5] at hg; cases hg; rw [hb _ h5]; exact bNp n args
 | false =>
 cases h6 : Nat.beq g 30 with
 | true => rw [h1, h2, h3, h4, h5, h6] at hg; cases hg; rw [hb _ h6]; exact aNk n args
 | false =>
 cases h7 : Nat.beq g 35 with
 | true => rw [h1, h2, h3, h4, h5, h6, h7] at hg; cases hg; rw [hb _ h7]; exact aGc n args
 | false =>
 cases h8 : Nat.beq g 38 with
 | true => rw [h1, h2, h3, h4, h5, h6, h7, h8] at hg; cases hg; rw [hb _ h8]; exact cDz n args
 | false =>
 cases h9 : Nat.beq g 104 with
 | true => rw [h1, h2, h3, h4, h5, h6, h7, h8, h9] at hg; cases hg; rw [hb _ h9]; exact bBo n args
 | false =>
 cases h10 : Nat.beq g 90 with
 | true => rw [h1, h2, h3, h4, h5, h6, h7, h8, h9, h10] at hg; cases hg; rw [hb _ h10]; exact aOs n args
 | false =>
 cases h11 : Nat.beq g 73 with
 | true => rw [h1, h2, h3, h4, h5, h6, h7, h8, h9, h10, h11] at hg; cases hg; rw [hb _ h11]; exact aQe n args
 | false =>
 cases h12 : Nat.beq g 45 with
 | true => rw [h1, h2, h3, h4, h5, h6, h7, h8, h9, h10, h11, h12] at hg; cases hg; rw [hb _ h12]; exact aMd n args
 | false =>
 cases h13 : Nat.beq g 88 with
 | true => rw [h1, h2, h3, h4, h5, h6, h7, h8, h9, h10, h11, h12, h13] at hg; cases hg; rw [hb _ h13]; exact bCw n args
 | false =>
 cases h14 : Nat.beq g 122 with
 | true => rw [h1, h2, h3, h4, h5, h6, h7, h8, h9, h10, h11, h12, h13, h14] at hg; cases hg; rw [hb _ h14]; exact bDp n args
 | false =>
 cases h15 : Nat.beq g 52 with
 | true => rw [h1, h2, h3, h4, h5, h6, h7, h8, h9, h10, h11, h12, h13, h14, h15] at hg; cases hg; rw [hb _ h15]; exact cMi n args
 | false => rw [h1, h2, h3, h4, h5, h6, h7, h8, h9, h10, h11, h12, h13, h14, h15] at hg; cases hg
theorem yP (n : Nat) (f : FuncId) (args : List DV) : SimP false (fG CF n f args) (fG CF1 (n + 12) f args) := by
 have key := aDo (I := itm) (q := zJ) (gg := false) (P := Go.Proofs.Tryz.prog) (I2 := CF.I) (I1 := CF1.I) 12 (fun g hg => by
  show (bif Nat.beq g 229 then some mU else bif Nat.beq g 214 then some mQ else none) = none
  change (bif Nat.beq g 229 then some mU else bif Nat.beq g 214 then some mQ else aAi g) = none at hg
  cases h1 : Nat.beq g 229 with
  | true => rw [h1] at hg; cases hg
  | false =>
   cases h2 : Nat.beq g 214 with
   | true => rw [h1, h2] at hg; cases hg
   | false => rfl) (fun g F hg n args => by
  change (bif Nat.beq g 229 then some mU else bif Nat.beq g 214 then some mQ else aAi g) = some F at hg
  have hcall : bH ⟨Go.Proofs.Tryz.prog, CF1.I⟩ (fG ⟨Go.Proofs.Tryz.prog, CF1.I⟩ (n + 12)) g args = fun h => match (bif Nat.beq g 229 then some mU else bif Nat.beq g 214 then some mQ else none : Option (List DV → Hp → aH)) with
   | some F => F args h
   | none => fG ⟨Go.Proofs.Tryz.prog, CF1.I⟩ (n + 12) g args h := rfl
  rw [hcall]
  cases h1 : Nat.beq g 229 with
  | true => rw [h1] at hg; cases hg; exact aHd args
  | false =>
   cases h2 : Nat.beq g 214 with
   | true => rw [h1, h2] at hg; cases hg; exact aEa args
   | false =>
    rw [h1, h2] at hg
    exact aMu g F hg n args) n f args
 exact key
end Go.Dd

namespace Go.Dd
open Go.Proofs
theorem aAt {m : Pos} {M : MemV} {h h' : Hp} (S : Sim true h h') (hm : mK m h = some M) : mK m h' = some M := by
 have hget : ∀ b o, h.bl.get b = some o → h'.bl.get b = some o := fun b o hb => by
  obtain ⟨o', h1, h2⟩ := S.get b o hb
  rw [h1, kR h2]
 unfold mK at hm ⊢
 split at hm <;> (try (cases hm; done))
 rename_i wb n c fin made pb hr
 split at hm <;> (try (cases hm; done))
 rename_i n' t pl h1 h2
 simp only [hget _ _ hr, hget _ _ h1, hget _ _ h2]
 exact hm
theorem fH {args : List DV} {k : Hp → MemV → List DV → aH} (hk : ∀ M r, SimP true (fun h => k h M r) (fun h => k h M r)) : SimP true (fun h => iU args h (k h)) (fun h => iU args h (k h)) := fun h h' S v g e => by
 obtain ⟨m, rest, M, rfl, hM, e⟩ := eP e
 obtain ⟨g', e1, e2⟩ := hk M rest h h' S v g e
 refine ⟨g', ?_, e2⟩
 show (match mK m h' with
  | some M => k h' M rest
  | none => none) = some (v, g')
 rw [aAt S hM]
 exact e1
theorem mF {M : MemV} {o : Int} {k k' : Nat → aH} (h : ∀ n, SimR true (k n) (k' n)) : SimR true (iQ M o k) (iQ M o k') := by
 unfold iQ
 cases Nat.blt (Nat.add (bV o M.pl) 1) M.n with
 | false => exact SimR.none _
 | true =>
  simp only [cond_true]
  cases M.t.get (bV o M.pl) with
  | negSucc a => exact SimR.none _
  | ofNat hd =>
   dsimp only
   cases Nat.blt hd 1000000000000 with
   | false => exact SimR.none _
   | true => exact h hd
theorem tC {M : MemV} {o i : Int} {b b' : Nat → aH} {k k' : Nat → Nat → aH} (hb : ∀ n, SimR true (b n) (b' n)) (h : ∀ n m, SimR true (k n m) (k' n m)) : SimR true (gP M o i b k) (gP M o i b' k') := by
 unfold gP
 cases Nat.beq (bV o M.pl) 0 with
 | true => exact hb 1
 | false =>
  simp only [cond_false]
  cases i with
  | negSucc i => exact hb 5
  | ofNat i =>
   dsimp only
   refine mF fun hd => ?_
   cases Nat.ble (Nat.div hd 4) i with
   | true => exact hb 5
   | false =>
    simp only [cond_false]
    cases Nat.blt (Nat.add (Nat.add (bV o M.pl) 3) i) M.n with
    | false => exact SimR.none _
    | true => exact h _ _
theorem kF {h h' : Hp} (S : Sim true h h') (o : Ob) (b n : Pos) : Sim true ⟨n, Tr.set o b h.bl⟩ ⟨n, Tr.set o b h'.bl⟩ := S.set (lT o) b n
theorem nQ {M : MemV} {a : Nat} {w : Int} : SimP true (nF M a w) (nF M a w) := fun h h' S v g e => by
 simp only [nF, bC, bP] at e ⊢
 obtain ⟨rfl, rfl⟩ := e
 exact ⟨_, ⟨rfl, rfl⟩, by rw [S.next]; exact kF S _ _ _⟩
theorem bQn (g : FuncId) (F : List DV → Hp → aH) (hg : aAi g = some F) (args : List DV) : SimP true (F args) (F args) := by
 have hmay : SimP true (aRi args) (aRi args) := fH (k := fun h M r => match r with
  | [.i .i64 w] => some (.b (eD w M.pl), h)
  | _ => none) fun M r h h' S => by dsimp only; split <;> first | exact SimR.some S _ | exact SimR.none _
 have his : SimP true (isF args) (isF args) := fH (k := fun h M r => match r with
  | [.i .i64 w] => some (.b (!(Nat.beq (bV w M.pl) 0)), h)
  | _ => none) fun M r h h' S => by dsimp only; split <;> first | exact SimR.some S _ | exact SimR.none _
 have hsize : SimP true (aAs args) (aAs args) := fH (k := fun h M r => match r with
  | [] => some (.i .i64 (.ofNat M.n), h)
  | _ => none) fun M r h h' S => by dsimp only; split <;> first | exact SimR.some S _ | exact SimR.none _
 have hroom : SimP true (aYb args) (aYb args) := fH (k := fun h M r => match r with
  | [] => some (.i .i64 (.ofNat (Nat.sub M.n M.fin)), h)
  | _ => none) fun M r h h' S => by dsimp only; split <;> first | exact SimR.some S _ | exact SimR.none _
 have hclass : SimP true (jJ args) (jJ args) := fH (k := fun h M r => match r with
  | [.i .i64 o] => iQ M o fun _ => some (.i .i64 (M.t.get (Nat.add (bV o M.pl) 1)), h)
  | _ => none) fun M r h h' S => by dsimp only; split <;> first | exact mF (fun _ => SimR.some S _) | exact SimR.none _
 have hformat : SimP true (iW args) (iW args) := fH (k := fun h M r => match r with
  | [.i .i64 o] => iQ M o fun hd => some (.i .i64 (.ofNat (Nat.mod hd 4)), h)
  | _ => none) fun M r h h' S => by dsimp only; split <;> first | exact mF (fun _ => SimR.some S _) | exact SimR.none _
 have hfields : SimP true (eJ args) (eJ args) := fH (k := fun h M r => match r with
  | [.i .i64 o] => iQ M o fun hd => some (.i .i64 (.ofNat (Nat.div hd 4)), h)
  | _ => none) fun M r h h' S => by dsimp only; split <;> first | exact mF (fun _ => SimR.some S _) | exact SimR.none _
 have hget : SimP true (qT args) (qT args) := fH (k := fun h M r => match r with
  | [.i .i64 o, .i .i64 i] => gP M o i (fun e => err e h) fun _ a => some (.t [.i .i64 (M.t.get a), .i .i64 (.ofNat 0)], h)
  | _ => none) fun M r h h' S => by dsimp only; split <;> first | exact tC (fun _ => SimR.some S _) (fun _ _ => SimR.some S _) | exact SimR.none _
 have hput : SimP true (aAh args) (aAh args) := fH (k := fun h M r => match r with
  | [.i .i64 o, .i .i64 i, .i .i64 w] => gP M o i (fun e => some (.i .i64 (.ofNat e), h)) fun hd a =>
   match Nat.mod hd 4 with
   | 0 => bif eD w M.pl then nF M a w h else some (.i .i64 (.ofNat 6), h)
   | 2 => (match w with
    | .ofNat c => bif Nat.ble c 255 then nF M a w h else some (.i .i64 (.ofNat 6), h)
    | .negSucc _ => some (.i .i64 (.ofNat 6), h))
   | _ => nF M a w h
  | _ => none) fun M r h h' S => by
   dsimp only
   split
   ·rename_i o i w
    refine tC (fun _ => SimR.some S _) fun hd a => ?_
    split
    ·cases eD w M.pl with
     | true => exact nQ h h' S
     | false => exact SimR.some S _
    ·cases w with
     | negSucc c => exact SimR.some S _
     | ofNat c =>
      dsimp only
      cases Nat.ble c 255 with
      | true => exact nQ h h' S
      | false => exact SimR.some S _
    ·exact nQ h h' S
   ·exact SimR.none _
 have hsetc : SimP true (lE args) (lE args) := fH (k := fun h M r => match r with
  | [.i .i64 o, .i .i64 c] => bif Nat.beq (bV o M.pl) 0 || !(rX c M.pl) then some (.i .i64 (.ofNat 1), h) else
   (bif Nat.blt (Nat.add (bV o M.pl) 1) M.n then nF M (Nat.add (bV o M.pl) 1) c h else none)
  | _ => none) fun M r h h' S => by
   dsimp only
   split
   ·rename_i o c
    cases Nat.beq (bV o M.pl) 0 || !(rX c M.pl) with
    | true => exact SimR.some S _
    | false =>
     simp only [cond_false]
     cases Nat.blt (Nat.add (bV o M.pl) 1) M.n with
     | true => exact nQ h h' S
     | false => exact SimR.none _
   ·exact SimR.none _
 have hmake : SimP true (oD args) (oD args) := fun h h' S => by
  unfold oD
  split
  ·rename_i m cls fmt cnt
   intro v g e
   split at e
   ·cases e
   ·rename_i M hM
    rw [aAt S hM]
    dsimp only
    revert e
    have herr : ∀ n, SimR true (err n h) (err n h') := fun n => SimR.some S _
    suffices hs : SimR true _ _ from fun e => hs v g e
    cases !(rX cls M.pl) with
    | true => exact herr 1
    | false =>
     simp only [cond_false]
     cases fmt with
     | negSucc f => exact herr 1
     | ofNat f =>
      cases cnt with
      | negSucc c => exact herr 1
      | ofNat c =>
       dsimp only
       cases Nat.ble f 2 && Nat.ble c 256 with
       | false => exact herr 1
       | true =>
        simp only [cond_true]
        cases Nat.blt (Nat.sub M.n M.fin) (Nat.add c 3) with
        | true => exact herr 4
        | false =>
         simp only [cond_false]
         cases Nat.ble 3 M.fin && Nat.ble M.fin 131072 with
         | false => exact SimR.none _
         | true =>
          simp only [cond_true]
          intro v g e
          simp only [bC, bP] at e ⊢
          obtain ⟨rfl, rfl⟩ := e
          refine ⟨_, ⟨rfl, rfl⟩, ?_⟩
          rw [S.next]
          exact kF (kF (kF S _ _ h.next) _ _ h.next) _ _ h.next
  ·exact SimR.none _
 have hnew : SimP true (aQj args) (aQj args) := fun h h' S => by
  unfold aQj
  split
  ·rename_i n
   cases Nat.blt n 16 || Nat.blt 131072 n with
   | true => exact SimR.some S _
   | false =>
    simp only [cond_false]
    intro v g e
    simp only [bC, bP] at e ⊢
    obtain ⟨rfl, rfl⟩ := e
    rw [S.next]
    exact ⟨_, ⟨rfl, rfl⟩, kF (kF (kF S _ _ h.next) _ _ h.next) _ _ _⟩
  ·exact SimR.some S _
  ·exact SimR.none _
 have hpure : ∀ F : Hp → aH, (∀ h h', Sim true h h' → SimR true (F h) (F h')) → SimP true F F := fun F hF => hF
 have hsm : SimP true (eO args) (eO args) := fun h h' S => by unfold eO; split <;> first | exact SimR.some S _ | exact SimR.none _
 have hva : SimP true (kI args) (kI args) := fun h h' S => by
  unfold kI
  split
  ·rename_i w
   cases cV w <;> exact SimR.some S _
  ·exact SimR.none _
 have hsl : SimP true (iI args) (iI args) := fun h h' S => by
  unfold iI
  split
  ·rename_i n; cases Nat.blt n 1073741824 <;> exact SimR.some S _
  ·rename_i n; cases Nat.blt n 1073741824 <;> exact SimR.some S _
  ·exact SimR.none _
 unfold aAi at hg
 cases h1 : Nat.beq g 18 with
 | true => rw [h1] at hg; cases hg; exact hmay
 | false =>
 cases h2 : Nat.beq g 46 with
 | true => rw [h1, h2] at hg; cases hg; exact his
 | false =>
 cases h3 : Nat.beq g 94 with
 | true => rw [h1, h2, h3] at hg; cases hg; exact hsize
 | false =>
 cases h4 : Nat.beq g 75 with
 | true => rw [h1, h2, h3, h4] at hg; cases hg; exact hroom
 | false =>
 cases h5 : Nat.beq g 31 with
 | true => rw [h1, h2, h3, h4, h5] at hg; cases hg; exact hmake
 | false =>
 cases h6 : Nat.beq g 30 with
 | true => rw [h1, h2, h3, h4, h5, h6] at hg; cases hg; exact hnew
 | false =>
 cases h7 : Nat.beq g 35 with
 | true => rw [h1, h2, h3, h4, h5, h6, h7] at hg; cases hg; exact hsetc
 | false =>
 cases h8 : Nat.beq g 38 with
 | true => rw [h1, h2, h3, h4, h5, h6, h7, h8] at hg; cases hg; exact hput
 | false =>
 cases h9 : Nat.beq g 104 with
 | true => rw [h1, h2, h3, h4, h5, h6, h7, h8, h9] at hg; cases hg; exact hclass
 | false =>
 cases h10 : Nat.beq g 90 with
 | true => rw [h1, h2, h3, h4, h5, h6, h7, h8, h9, h10] at hg; cases hg; exact hformat
 | false =>
 cases h11 : Nat.beq g 73 with
 | true => rw [h1, h2, h3, h4, h5, h6, h7, h8, h9, h10, h11] at hg; cases hg; exact hfields
 | false =>
 cases h12 : Nat.beq g 45 with
 | true => rw [h1, h2, h3, h4, h5, h6, h7, h8, h9, h10, h11, h12] at hg; cases hg; exact hsm
 | false =>
 cases h13 : Nat.beq g 88 with
 | true => rw [h1, h2, h3, h4, h5, h6, h7, h8, h9, h10, h11, h12, h13] at hg; cases hg; exact hsl
 | false =>
 cases h14 : Nat.beq g 122 with
 | true => rw [h1, h2, h3, h4, h5, h6, h7, h8, h9, h10, h11, h12, h13, h14] at hg; cases hg; exact hva
 | false =>
 cases h15 : Nat.beq g 52 with
 | true => rw [h1, h2, h3, h4, h5, h6, h7, h8, h9, h10, h11, h12, h13, h14, h15] at hg; cases hg; exact hget
 | false => rw [h1, h2, h3, h4, h5, h6, h7, h8, h9, h10, h11, h12, h13, h14, h15] at hg; cases hg
theorem aLf (g : FuncId) (F : List DV → Hp → aH) (hg : CF.I g = some F) (args : List DV) : SimP true (F args) (F args) := by
 change (bif Nat.beq g 229 then some mU else bif Nat.beq g 214 then some mQ else aAi g) = some F at hg
 cases h1 : Nat.beq g 229 with
 | true => rw [h1] at hg; cases hg; exact aHd args
 | false =>
  cases h2 : Nat.beq g 214 with
  | true => rw [h1, h2] at hg; cases hg; exact aEa args
  | false => rw [h1, h2] at hg; exact bQn g F hg args
theorem bCz (n : Nat) (f : FuncId) (args : List DV) : SimP true (cA n f args) (cA n f args) := by
 rw [oL]
 exact aDo (I := itm) (q := zJ) (gg := true) (P := Tryz.prog) (I2 := CF.I) (I1 := CF.I) 0 (fun g h => h) (fun g F hg n args => by
  have : bH ⟨Tryz.prog, CF.I⟩ (fG ⟨Tryz.prog, CF.I⟩ (n + 0)) g args = F args := by
   funext h
   unfold bH
   rw [show (⟨Tryz.prog, CF.I⟩ : Cfg).I g = some F from hg]
  rw [this]
  exact aLf g F hg args) n f args
theorem bBm (n : Nat) (g : FuncId) (args : List DV) : SimP true (bH CF (cA n) g args) (bH CF (cA n) g args) := by
 unfold bH
 cases hg : CF.I g with
 | none => exact bCz n g args
 | some F => exact aLf g F hg args
end Go.Dd

namespace Go.Dd
open Go.Proofs
abbrev K4T := DV → DV → DV → DV → Hp → aH
noncomputable abbrev R9 : RT := cA 899
noncomputable def XL : Nat → K := xs x0 7 (fun env h => jH R9 899 (env 5) h)
noncomputable def krN : K := aV CF Tryz.f7
noncomputable def bHp : Code := cL (cL (cR (cL (cR (cR (cR (cR (cR (cR (cf Tryz.f7))))))))))
noncomputable def kb (kk : K4T) : K := fun env h => kk (env 5) (env 155) (env 156) (env 157) h
noncomputable def aMi (a b c d : DV) : bA := fun t => bif Nat.beq t 5 then a else bif Nat.beq t 155 then b else bif Nat.beq t 156 then c else bif Nat.beq t 157 then d else .u
theorem aGn (kk : K4T) (a b c d : DV) (h : Hp) : mR R9 899 kk a b c d h = aP CF R9 179 899 bHp XL krN (kb kk) (aMi a b c d) h :=
 (congrFun (congrFun (bRr R9 899 kk) (aMi a b c d)) h).symm
theorem aTa (e : bA) (h : Hp) : krN e h = some (.t [e 2, e 3], h) := by kernel_rfl
def dKa (r : aH) : Prop := ∃ a b c d h, r = some (.t [a, b, c, d], h)
theorem bTm (a b c d : DV) (h : Hp) : (∃ a' b' c' d' h', ∀ kk : K4T, mR R9 899 kk a b c d h = kk a' b' c' d' h') ∨ (∃ r, ¬ dKa r ∧ ∀ kk : K4T, mR R9 899 kk a b c d h = r) := by
 obtain ⟨O, hO⟩ := wZ (C := CF) (rec := R9) (nt := 179) 899 bHp
 have key : ∀ kk : K4T, mR R9 899 kk a b c d h = dOi (O (aMi a b c d) h) XL krN (kb kk) := fun kk => (aGn kk a b c d h).trans (hO _ _ _ _ _)
 cases ho : O (aMi a b c d) h with
 | none => exact .inr ⟨none, (by rintro ⟨_, _, _, _, _, e⟩; cases e), fun kk => by rw [key kk, ho]; rfl⟩
 | some o =>
  cases o with
  | n e h' => exact .inl ⟨e 5, e 155, e 156, e 157, h', fun kk => by rw [key kk, ho]; rfl⟩
  | r e h' => exact .inr ⟨some (.t [e 2, e 3], h'), (by rintro ⟨_, _, _, _, _, q⟩; cases q), fun kk => by rw [key kk, ho]; exact aTa e h'⟩
  | x i e h' =>
   refine .inr ⟨XL i e h', ?_, fun kk => by rw [key kk, ho]; rfl⟩
   rintro ⟨_, _, _, _, _, q⟩
   unfold XL xs at q
   cases hi : Nat.beq i 7 with
   | true => rw [hi] at q; cases q
   | false => rw [hi] at q; cases q
theorem zU (n : Nat) (kk : K4T) : itN (n + 1) kk = mR R9 899 (itN n kk) := rfl
theorem bGw : ∀ (n : Nat) (a b c d : DV) (h : Hp) (a' b' c' d' : DV) (h' : Hp), itN n bQm a b c d h = some (.t [a', b', c', d'], h') → ∀ kk : K4T, itN n kk a b c d h = kk a' b' c' d' h'
 | 0, a, b, c, d, h, a', b', c', d', h', e, kk => by
  have e' : (some (.t [a, b, c, d], h) : aH) = some (.t [a', b', c', d'], h') := e
  simp only [bC, bP, DV.t.injEq, List.cons.injEq, and_true] at e'
  obtain ⟨⟨rfl, rfl, rfl, rfl⟩, rfl⟩ := e'
  rfl
 | n + 1, a, b, c, d, h, a', b', c', d', h', e, kk => by
  rw [zU] at e ⊢
  rcases bTm a b c d h with ⟨a1, b1, c1, d1, h1, hs⟩ | ⟨r, hr, hs⟩
  ·rw [hs] at e ⊢
   exact bGw n a1 b1 c1 d1 h1 a' b' c' d' h' e kk
  ·rw [hs] at e
   exact absurd ⟨_, _, _, _, _, e⟩ hr
theorem bIg (kk : K4T) (hk : ∀ a b c d, SimP true (kk a b c d) (kk a b c d)) : ∀ (n : Nat) (a b c d : DV), SimP true (itN n kk a b c d) (itN n kk a b c d)
 | 0, a, b, c, d => hk a b c d
 | n + 1, a, b, c, d => by
  have ih := bIg kk hk n
  rw [zU]
  have hX : ∀ j, SimK true (XL j) (XL j) := by
   intro j env h h' S
   unfold XL xs
   cases Nat.beq j 7 with
   | true => exact SimR.some S _
   | false => exact SimR.none _
  have hR : SimK true krN krN := fun env h h' S => by rw [aTa, aTa]; exact SimR.some S _
  have hK : SimK true (kb (itN n kk)) (kb (itN n kk)) := fun env => ih _ _ _ _
  have hc := gH (gg := true) (P := Tryz.prog) (I2 := CF.I) (I1 := CF.I) (rec2 := R9) (rec1 := R9) (fun g args => bBm 899 g args) 179 899 0 bHp XL XL krN krN (kb (itN n kk)) (kb (itN n kk)) hX hR hK (aMi a b c d)
  intro h h' S
  rw [aGn, aGn]
  exact hc h h' S
theorem aBp (m : Nat) : ∀ n, mT R9 899 (m + n) = itN n (mT R9 899 m)
 | 0 => rfl
 | n + 1 => by
  rw [zU, ← aBp m n]
  rfl
theorem dT {k n nx nx' : Nat} {L L' : List (Pos × Ob)} (hc : fP (gM k n (dW nx L)) (eU (k + n)) nx' L' = true) (m : Nat) {h : Hp} (S : Sim true (dW nx L) h) :
  ∃ h', Sim true (dW nx' L') h' ∧ mT R9 899 (m + n) (.p (aL 7) 0) (.l (aL 431) 0 75 75) (.i .i64 (.ofNat 75)) (.i .i64 (.ofNat k)) h =
   mT R9 899 m (.p (aL 7) 0) (.l (aL 431) 0 75 75) (.i .i64 (.ofNat 75)) (.i .i64 (.ofNat (k + n))) h' := by
 obtain ⟨g, e1, e2⟩ := aJh hc
 obtain ⟨g', f1, f2⟩ := bIg bQm (fun a b c d h h' S => SimR.some S _) n _ _ _ _ (dW nx L) h S _ _ e1
 refine ⟨g', e2.trans f2, ?_⟩
 rw [aBp]
 exact bGw n _ _ _ _ _ _ _ _ _ _ f1 _
theorem aBa (k : K) : aP CF R9 179 899 (cf Tryz.f7) x0 krN k = aP CF R9 179 899 bEh x0 krN (aP CF R9 179 899 bPl x0 krN (aP CF R9 179 899 dBb x0 krN k)) := by kernel_rfl
theorem bNt : aP CF R9 179 899 dBb x0 krN krN = fun env h => jH R9 899 (env 5) h := cMz R9 899
theorem aUb : aP CF R9 179 899 bPl x0 krN (fun env h => jH R9 899 (env 5) h) = fun env h => bQe R9 899 (env 5) (env 155) (env 156) (env 157) h :=
 (by kernel_rfl : aP CF R9 179 899 bPl x0 krN (fun env h => jH R9 899 (env 5) h) = D7 R9 899 (cL (cR (cL (cR (cR (cR (cR (cR (cR (cf Tryz.f7)))))))))) (xs x0 7 (fun (env : bA) (h : Hp) => jH R9 899 (env 5) h)) (fun (env : bA) (h : Hp) => jH R9 899 (env 5) h)).trans (cOb R9 899)
theorem bRc (x : DV) (h : Hp) : aF CF R9 899 7 [x] h = aP CF R9 179 899 (cf Tryz.f7) x0 krN krN (aJ [x]) h := by kernel_rfl
theorem cBp : ∃ e h', Sim true (dW 432 (fY 20000 553 84 18 [1076, 1096, 6, 24, 42, 60, 78, 96, 114, 132, 150, 168, 186, 204, 222, 240, 258, 276] [(10, 0), (19, 0), (46, 0), (55, 0), (64, 0), (91, 0), (100, 0), (109, 0), (118, 0), (127, 0), (145, 0)] 0)) h' ∧ e 5 = .p (aL 7) 0 ∧ e 155 = .l (aL 431) 0 75 75 ∧ e 156 = .i .i64 (.ofNat 75) ∧ e 157 = .i .i64 (.ofNat 0) ∧
  ∀ X kr k, aP CF R9 179 899 bEh X kr k (aJ [.i .i64 (.ofNat 20000)]) hS = k e h' := by
 obtain ⟨O, hO⟩ := wZ (C := CF) (rec := R9) (nt := 179) 899 bEh
 obtain ⟨g, e1, e2⟩ := aJh he0
 have e1' : dOi (O (aJ [.i .i64 (.ofNat 20000)]) hS) (fun _ _ _ => none) (fun _ _ => none) cZa = some (.t (eU 0), g) := (hO _ _ _ _ _).symm.trans e1
 cases ho : O (aJ [.i .i64 (.ofNat 20000)]) hS with
 | none => rw [ho] at e1'; cases e1'
 | some o =>
  rw [ho] at e1'
  cases o with
  | x i e h' => cases e1'
  | r e h' => cases e1'
  | n e h' =>
   have q : (some (.t [e 5, e 155, e 156, e 157], h') : aH) = some (.t (eU 0), g) := e1'
   simp only [eU, bC, bP, DV.t.injEq, List.cons.injEq, and_true] at q
   obtain ⟨⟨q1, q2, q3, q4⟩, q5⟩ := q
   exact ⟨e, h', by rw [q5]; exact e2, q1, q2, q3, q4, fun X kr k => by rw [hO, ho]; rfl⟩
theorem cQn : ∃ g, cA 900 7 [.i .i64 (.ofNat 20000)] hS = some (.t [.p (aL 7) 0, .i .i64 (.ofNat 0)], g) ∧ Sim true (dW 26855 (fY 20000 4321 583 80 [8370, 1096, 6, 24, 42, 60, 78, 96, 114, 132, 150, 168, 186, 204, 222, 240, 258, 276] [] 75)) g := by
 obtain ⟨e, h0, S0, p1, p2, p3, p4, hpre⟩ := cBp
 obtain ⟨h1, S1, c1⟩ := dT hc0 894 S0
 obtain ⟨h2, S2, c2⟩ := dT hc5 889 S1
 obtain ⟨h3, S3, c3⟩ := dT dIi 884 S2
 obtain ⟨h4, S4, c4⟩ := dT dKq 879 S3
 obtain ⟨h5, S5, c5⟩ := dT dIg 874 S4
 obtain ⟨h6, S6, c6⟩ := dT dMv 869 S5
 obtain ⟨h7, S7, c7⟩ := dT dMm 864 S6
 obtain ⟨h8, S8, c8⟩ := dT dIz 859 S7
 obtain ⟨h9, S9, c9⟩ := dT dKf 854 S8
 obtain ⟨h10, S10, c10⟩ := dT dHr 849 S9
 obtain ⟨h11, S11, c11⟩ := dT dJz 844 S10
 obtain ⟨h12, S12, c12⟩ := dT dKt 839 S11
 obtain ⟨h13, S13, c13⟩ := dT dLc 834 S12
 obtain ⟨h14, S14, c14⟩ := dT dLs 829 S13
 obtain ⟨h15, S15, c15⟩ := dT dHw 824 S14
 refine ⟨h15, ?_, S15⟩
 have e0 : cA 900 7 [.i .i64 (.ofNat 20000)] hS = aF CF R9 899 7 [.i .i64 (.ofNat 20000)] hS := zK 7 rfl 899 _ _
 rw [e0, bRc, aBa, bNt, aUb, hpre]
 show bQe R9 899 (e 5) (e 155) (e 156) (e 157) h0 = _
 rw [p1, p2, p3, p4]
 show mT R9 899 899 _ _ _ _ h0 = _
 refine c1.trans ?_
 refine c2.trans ?_
 refine c3.trans ?_
 refine c4.trans ?_
 refine c5.trans ?_
 refine c6.trans ?_
 refine c7.trans ?_
 refine c8.trans ?_
 refine c9.trans ?_
 refine c10.trans ?_
 refine c11.trans ?_
 refine c12.trans ?_
 refine c13.trans ?_
 refine c14.trans ?_
 refine c15.trans ?_
 rw [show (824 : Nat) = 823 + 1 from rfl]
 show mR R9 899 (mT R9 899 823) _ _ _ _ h15 = _
 unfold mR
 have hl : decide (Int.ofNat 75 < Int.ofNat 75) = false := rfl
 simp only [cG, aO, hl, bG]
 rfl
end Go.Dd

namespace Go.Dd
open Go.Proofs
noncomputable def HLN : List (Pos × Ob) := fY 20000 4321 583 80 [8370, 1096, 6, 24, 42, 60, 78, 96, 114, 132, 150, 168, 186, 204, 222, 240, 258, 276] [] 75
noncomputable def hN : Hp := dW 26855 HLN
noncomputable def eT (l : List (Pos × Ob)) (t : Tr Ob) : Tr Ob := List.rec (motive := fun _ => Tr Ob) t (fun x _ ih => Tr.set x.2 x.1 ih) l
noncomputable def wY (p : List DV → Bool) (v0 : DV) (nx0 : Nat) (HL : List (Pos × Ob)) (args : List DV) (h : Hp) : aH :=
 bif p args && mV h.next (aL 1) then some (v0, ⟨aL nx0, eT HL h.bl⟩) else none
noncomputable def aWm (args : List DV) : Bool := match args with
 | [.i .i64 (.ofNat m)] => Nat.beq m 20000
 | _ => false
noncomputable def newK : List DV → Hp → aH := wY aWm (.t [.p (aL 7) 0, .i .i64 (.ofNat 0)]) 26855 HLN
noncomputable def aRj (n : Nat) : RT := fun g args h => bif Nat.beq g 7 then newK args h else cA n g args h
noncomputable def okB (r : aH) : Bool := match r with
 | some (.b x, _) => x
 | _ => false
end Go.Dd

namespace Go.Dd
open Go.Proofs
abbrev iD (n : Int) : DV := .i .i64 n
structure Wd (h : Hp) (M : MemV) (R : List Int) (es : List (DV × DV)) : Prop where
 w : h.bl.get (aL 7) = some (.row .ex [.p (aL 3) 0, .l (aL 4) 0 18 18, .m (aL 5), .m (aL 6)])
 r : h.bl.get (aL 4) = some (.row .ex (R.map iD))
 rl : R.length = 18
 sy : h.bl.get (aL 5) = some (.mp es)
 mem : mK (aL 3) h = some M
 nx : 1031 ≤ h.next.toNat
 wb : M.wb = aL 1
 pb : M.pb = aL 2
structure Good (M : MemV) : Prop where
 n : M.n < 1000000
 le : M.fin ≤ M.n
 lo : 3 ≤ M.fin
 hi : M.n ≤ 131072
 md : M.made < 900000
 ob : ∀ a, M.pl.get a ≠ 0 → 3 ≤ a ∧ ∃ hd : Nat, M.t.get a = .ofNat hd ∧ hd < 1000000000000 ∧ a + 3 + hd / 4 ≤ M.fin ∧ bV (M.t.get (a + 1)) M.pl ≠ 0
theorem qH (f : FuncId) (hf : zJ f = false) (n : Nat) (args : List DV) (h : Hp) : cA (n + 1) f args h = aF CF (cA n) n f args h := zK f hf n args h
theorem gU (b : Pos) (o : Nat) (h : Hp) : aZ (.p b o) h = some (.p b o, h) := Eq.trans rfl rfl
theorem fR (b : Pos) (o k : Nat) (h : Hp) : aB k (.p b o) h = some (.p b (o + k), h) := Eq.trans rfl rfl
section
theorem Wd.l0 {h : Hp} {M : MemV} {R : List Int} {es : List (DV × DV)} (W : Wd h M R es) : aA (.p (aL 7) 0) h = some (.p (aL 3) 0, h) := by
 simp only [aA, cellD, rowOf, W.w, List.getElem?_cons_zero, DV.one, if_true]
theorem Wd.l00 {h : Hp} {M : MemV} {R : List Int} {es : List (DV × DV)} (W : Wd h M R es) : aA (.p (aL 7) (0 + 0)) h = some (.p (aL 3) 0, h) := W.l0
theorem Wd.l1 {h : Hp} {M : MemV} {R : List Int} {es : List (DV × DV)} (W : Wd h M R es) : aA (.p (aL 7) (0 + 1)) h = some (.l (aL 4) 0 18 18, h) := by
 simp only [aA, cellD, rowOf, W.w, Nat.zero_add, List.getElem?_cons_succ, List.getElem?_cons_zero, DV.one, if_true]
theorem Wd.l2 {h : Hp} {M : MemV} {R : List Int} {es : List (DV × DV)} (W : Wd h M R es) : aA (.p (aL 7) (0 + 2)) h = some (.m (aL 5), h) := by
 simp only [aA, cellD, rowOf, W.w, Nat.zero_add, List.getElem?_cons_succ, List.getElem?_cons_zero, DV.one, if_true]
theorem Wd.root {h : Hp} {M : MemV} {R : List Int} {es : List (DV × DV)} (W : Wd h M R es) {i : Nat} (hi : i < 18) : aA (.p (aL 4) i) h = some (iD (R.getD i 0), h) := by
 have e : (R.map iD)[i]? = some (iD (R.getD i 0)) := by
  have : i < R.length := by rw [W.rl]; exact hi
  simp [List.getElem?_map, List.getElem?_eq_getElem this, List.getD]
 simp only [aA, cellD, rowOf, W.r, e, DV.one, if_true]
theorem Wd.known {h : Hp} {M : MemV} {R : List Int} {es : List (DV × DV)} (W : Wd h M R es) {i : Nat} (hi : i < 16) (n : Nat) : cA (n + 1) 34 [.p (aL 7) 0, .i .i64 (Int.ofNat i)] h = some (iD (R.getD (2 + i) 0), h) := by
 rw [qH 34 rfl, cNi]
 unfold s34
 have h1 : decide (Int.ofNat i < Int.ofNat 0) = false := by simp
 have h2 : decide (Int.ofNat i ≥ Int.ofNat 16) = false := by simp; omega
 have h3 : aE 1 (.l (aL 4) 0 18 18) (.i .i64 (Int.ofNat 2 + Int.ofNat i)) h = some (.p (aL 4) (2 + i), h) := by
  show (if (0 : Int) ≤ Int.ofNat 2 + Int.ofNat i ∧ Int.ofNat 2 + Int.ofNat i < ((18 : Nat) : Int) then some (DV.p (aL 4) (0 + (Int.ofNat 2 + Int.ofNat i).toNat * 1), h) else none) = _
  rw [if_pos (by simp; omega), show (Int.ofNat 2 + Int.ofNat i).toNat = 2 + i by simp; omega]
  simp
 simp only [g0, g1, cG, iR, aO, gI, bK, bG, h1, h2, gU, fR, W.l1, fZ _ _ _ (show -9223372036854775808 ≤ Int.ofNat 2 + Int.ofNat i ∧ Int.ofNat 2 + Int.ofNat i ≤ 9223372036854775807 by simp; omega), h3, W.root (show 2 + i < 18 by omega)]
theorem Wd.is {h : Hp} {M : MemV} {R : List Int} {es : List (DV × DV)} (W : Wd h M R es) (w : Int) : isF [.p (aL 3) 0, .i .i64 w] h = some (.b (!(Nat.beq (bV w M.pl) 0)), h) := by
 simp only [isF, iU, W.mem]
theorem Wd.may {h : Hp} {M : MemV} {R : List Int} {es : List (DV × DV)} (W : Wd h M R es) (w : Int) : aRi [.p (aL 3) 0, .i .i64 w] h = some (.b (eD w M.pl), h) := by
 simp only [aRi, iU, W.mem]
theorem Wd.head {h : Hp} {M : MemV} {R : List Int} {es : List (DV × DV)} (W : Wd h M R es) {o : Int} (G : Good M) (ho : bV o M.pl ≠ 0) : ∃ hd : Nat, M.t.get (bV o M.pl) = .ofNat hd ∧ hd < 1000000000000 ∧ 3 ≤ bV o M.pl ∧ bV o M.pl + 3 + hd / 4 ≤ M.fin ∧ (∀ k, iQ M o k = k hd) ∧ bV (M.t.get (bV o M.pl + 1)) M.pl ≠ 0 := by
 have hp : M.pl.get (bV o M.pl) ≠ 0 := by
  rcases mG o M.pl with e | ⟨e, _⟩
  ·exact absurd e ho
  ·have := (atN_pos (o := o) (pl := M.pl)).1 ho
   rw [e]; exact this.2
 obtain ⟨h0, hd, h1, h2, h3, h4⟩ := G.ob _ hp
 refine ⟨hd, h1, h2, h0, h3, fun k => ?_, h4⟩
 have hl := G.le
 have b1 : Nat.blt (Nat.add (bV o M.pl) 1) M.n = true := by
  rw [gK]; exact decide_eq_true (show bV o M.pl + 1 < M.n by omega)
 have b2 : Nat.blt hd 1000000000000 = true := by rw [gK]; exact decide_eq_true h2
 unfold iQ
 rw [b1, h1]
 simp only [cond_true, b2]
theorem Wd.cls {h : Hp} {M : MemV} {R : List Int} {es : List (DV × DV)} (W : Wd h M R es) (G : Good M) {o : Int} (ho : bV o M.pl ≠ 0) : jJ [.p (aL 3) 0, .i .i64 o] h = some (iD (M.t.get (bV o M.pl + 1)), h) := by
 obtain ⟨hd, _, _, _, _, hk, _⟩ := W.head G ho
 simp only [jJ, iU, W.mem, hk, Nat.add_eq]
noncomputable def bDd (M : MemV) (R : List Int) (x : Int) : Int :=
 if bV x M.pl ≠ 0 then M.t.get (bV x M.pl + 1) else if cV x then R.getD 9 0 else if x = 0 then R.getD 4 0 else if x = 2 then R.getD 6 0 else if x = 4 then R.getD 7 0 else 0
theorem Wd.classOf {h : Hp} {M : MemV} {R : List Int} {es : List (DV × DV)} (W : Wd h M R es) (G : Good M) (x : Int) (n : Nat) : cA (n + 2) 56 [.p (aL 7) 0, .i .i64 x] h = some (iD (bDd M R x), h) := by
 rw [qH 56 rfl, cOo]
 unfold s56 bDd
 by_cases ha : bV x M.pl = 0
 ·have b : (!(Nat.beq (bV x M.pl) 0)) = false := by rw [ha]; rfl
  have c0 : ∀ k : Nat, (x == Int.ofNat k) = decide (x = Int.ofNat k) := fun k => rfl
  have hs : ∀ h, eO [.i .i64 x] h = some (.b (cV x), h) := fun h => rfl
  rw [if_neg (by simp [ha])]
  simp only [g0, g1, gU, fR, aO, W.l00, W.is, b, bG, hs, cI, W.known (show 7 < 16 by omega), W.known (show 2 < 16 by omega), W.known (show 4 < 16 by omega), W.known (show 5 < 16 by omega)]
  cases hsm : cV x with
  | true => simp only [bN, if_true]
  | false =>
   simp only [bG, Bool.false_eq_true, if_false]
   by_cases e0 : x = 0
   ·subst e0; rfl
   ·rw [if_neg e0]
    have q0 : (x == Int.ofNat 0) = false := by simpa using e0
    simp only [q0, bG]
    by_cases e2 : x = 2
    ·subst e2; rfl
    ·rw [if_neg e2]
     have q2 : (x == Int.ofNat 2) = false := by simpa using e2
     simp only [q2, bG]
     by_cases e4 : x = 4
     ·subst e4; rfl
     ·rw [if_neg e4]
      have q4 : (x == Int.ofNat 4) = false := by simpa using e4
      simp only [q4, bG]
      rfl
 ·have b : (!(Nat.beq (bV x M.pl) 0)) = true := by
   cases hb : Nat.beq (bV x M.pl) 0 with
   | true => exact absurd (Nat.eq_of_beq_eq_true hb) ha
   | false => rfl
  rw [if_pos ha]
  simp only [g0, g1, gU, fR, aO, W.l00, W.is, b, bN, W.cls G ha]
end
end Go.Dd

namespace Go.Dd
open Go.Proofs
theorem pn1 : (aL 1).toNat = 1024 := by kernel_rfl
theorem pn2 : (aL 2).toNat = 1025 := by kernel_rfl
theorem pn3 : (aL 3).toNat = 1026 := by kernel_rfl
theorem pn4 : (aL 4).toNat = 1027 := by kernel_rfl
theorem pn5 : (aL 5).toNat = 1028 := by kernel_rfl
theorem pn6 : (aL 6).toNat = 1029 := by kernel_rfl
theorem pn7 : (aL 7).toNat = 1030 := by kernel_rfl
theorem pne {a b : Nat} {p q : Pos} (hp : p.toNat = a) (hq : q.toNat = b) (h : a ≠ b) : p ≠ q := fun e => h (by rw [← hp, ← hq, e])
theorem pnl {a : Nat} {p q : Pos} (hp : p.toNat = a) (hq : q.toNat < 1024 ∨ 1029 ≤ q.toNat) (h : 1024 ≤ a ∧ a < 1029) : q ≠ p := fun e => by rw [e, hp] at hq; omega
theorem iA {m : Pos} {h : Hp} {M : MemV} (e : mK m h = some M) : h.bl.get m = some (.row .ex [.l M.wb 0 M.n M.n, .i .i64 (.ofNat M.fin), .i .i64 (.ofNat M.made), .m M.pb]) ∧ h.bl.get M.wb = some (.big M.n M.t) ∧
  h.bl.get M.pb = some (.mi M.pl) ∧ M.n < 1000000 ∧ M.fin ≤ M.n ∧ M.made < 1000000 := by
 unfold mK at e
 split at e <;> (try (cases e; done))
 rename_i wb n c fin made pb hr
 split at e <;> (try (cases e; done))
 rename_i n' t pl h1 h2
 cases hc : (Nat.beq n n' && Nat.beq n c) with
 | false => rw [hc] at e; cases e
 | true =>
  rw [hc, cond_true] at e
  simp only [Bool.and_eq_true] at hc
  have q1 := Nat.eq_of_beq_eq_true hc.1
  have q2 := Nat.eq_of_beq_eq_true hc.2
  subst q1; subst q2
  cases hd : (Nat.blt n 1000000 && (Nat.ble fin n && Nat.blt made 1000000)) with
  | false => rw [hd] at e; cases e
  | true =>
   rw [hd, cond_true] at e
   cases e
   simp only [Bool.and_eq_true, gK, jO, decide_eq_true_eq] at hd
   exact ⟨hr, h1, h2, hd.1, hd.2.1, hd.2.2⟩
theorem jS {m : Pos} {h : Hp} {M : MemV} (h1 : h.bl.get m = some (.row .ex [.l M.wb 0 M.n M.n, .i .i64 (.ofNat M.fin), .i .i64 (.ofNat M.made), .m M.pb])) (h2 : h.bl.get M.wb = some (.big M.n M.t))
  (h3 : h.bl.get M.pb = some (.mi M.pl)) (h4 : M.n < 1000000) (h5 : M.fin ≤ M.n) (h6 : M.made < 1000000) : mK m h = some M := by
 unfold mK
 simp only [h1, h2, h3]
 have q1 : (Nat.beq M.n M.n && Nat.beq M.n M.n) = true := by simp
 have q2 : (Nat.blt M.n 1000000 && (Nat.ble M.fin M.n && Nat.blt M.made 1000000)) = true := by simp [gK, jO, h4, h5, h6]
 rw [q1, cond_true, q2, cond_true]
structure Up (h h' : Hp) : Prop where
 next : h.next.toNat ≤ h'.next.toNat
 get : ∀ b : Pos, (b.toNat < 1024 ∨ 1029 ≤ b.toNat) → b.toNat < h.next.toNat → h'.bl.get b = h.bl.get b
theorem Up.refl (h : Hp) : Up h h := ⟨Nat.le_refl _, fun _ _ _ => rfl⟩
theorem Up.trans {a b c : Hp} (u : Up a b) (v : Up b c) : Up a c := ⟨Nat.le_trans u.next v.next, fun p h1 h2 => (v.get p h1 (Nat.lt_of_lt_of_le h2 u.next)).trans (u.get p h1 h2)⟩
def SlI (x : DV) (l : List Int) (h : Hp) : Prop := (x = .l0 ∧ l = []) ∨ ∃ b cap k, x = .l b 0 l.length cap ∧ h.bl.get b = some (.row k (l.map iD)) ∧ (b.toNat < 1024 ∨ 1029 ≤ b.toNat) ∧ b.toNat < h.next.toNat
theorem SlI.up {x : DV} {l : List Int} {h h' : Hp} (s : SlI x l h) (u : Up h h') : SlI x l h' := by
 rcases s with ⟨rfl, rfl⟩ | ⟨b, cap, k, e, g, h1, h2⟩
 ·exact .inl ⟨rfl, rfl⟩
 ·exact .inr ⟨b, cap, k, e, by rw [u.get b h1 h2]; exact g, h1, Nat.lt_of_lt_of_le h2 u.next⟩
theorem SlI.len {x : DV} {l : List Int} {h h' : Hp} (s : SlI x l h) : cB x h' = some (iD l.length, h') := by
 rcases s with ⟨rfl, rfl⟩ | ⟨b, cap, k, e, g, h1, h2⟩
 ·rfl
 ·rw [e]; rfl
theorem SlI.at {x : DV} {l : List Int} {h : Hp} (s : SlI x l h) {i : Nat} {v : Int} (hi : l[i]? = some v) : ∃ a, aE 1 x (.i .i64 (Int.ofNat i)) h = some (a, h) ∧ aA a h = some (iD v, h) := by
 have hl : i < l.length := by
  rcases Nat.lt_or_ge i l.length with q | q
  ·exact q
  ·rw [List.getElem?_eq_none q] at hi; cases hi
 rcases s with ⟨rfl, rfl⟩ | ⟨b, cap, k, e, g, h1, h2⟩
 ·simp at hi
 ·refine ⟨.p b i, ?_, ?_⟩
  ·rw [e]
   show (if (0 : Int) ≤ Int.ofNat i ∧ Int.ofNat i < ((l.length : Nat) : Int) then some (DV.p b (0 + (Int.ofNat i).toNat * 1), h) else none) = _
   rw [if_pos ⟨by simp, by simpa using hl⟩]
   simp
  ·have e : (l.map iD)[i]? = some (iD v) := by rw [List.getElem?_map, hi]; rfl
   simp only [aA, cellD, rowOf, g, e, DV.one, if_true]
section
theorem Wd.up {h : Hp} {M : MemV} {R : List Int} {es : List (DV × DV)} (W : Wd h M R es) {h' : Hp} (u : Up h h') (e : ∀ b : Pos, b.toNat < 1031 → h'.bl.get b = h.bl.get b) : Wd h' M R es := by
 obtain ⟨m1, m2, m3, m4, m5, m6⟩ := iA W.mem
 refine ⟨by rw [e _ (by rw [pn7]; omega)]; exact W.w, by rw [e _ (by rw [pn4]; omega)]; exact W.r, W.rl, by rw [e _ (by rw [pn5]; omega)]; exact W.sy, ?_, Nat.le_trans W.nx u.next, W.wb, W.pb⟩
 exact jS (by rw [e _ (by rw [pn3]; omega)]; exact m1) (by rw [e _ (by rw [W.wb, pn1]; omega)]; exact m2) (by rw [e _ (by rw [W.pb, pn2]; omega)]; exact m3) m4 m5 m6
theorem Wd.new {h : Hp} {M : MemV} {R : List Int} {es : List (DV × DV)} (W : Wd h M R es) (o : Ob) : Up h ⟨h.next.succ, Tr.set o h.next h.bl⟩ ∧ Wd ⟨h.next.succ, Tr.set o h.next h.bl⟩ M R es := by
 have u : Up h ⟨h.next.succ, Tr.set o h.next h.bl⟩ := ⟨by show _ ≤ (h.next.succ).toNat; rw [dNd]; omega, fun b h1 h2 => by
  show (Tr.set o h.next h.bl).get b = _
  rw [dNb]
  intro e; subst e; omega⟩
 refine ⟨u, W.up u fun b hb => ?_⟩
 show (Tr.set o h.next h.bl).get b = _
 rw [dNb]
 intro e; subst e
 have := W.nx
 omega
theorem Wd.setT {h : Hp} {M : MemV} {R : List Int} {es : List (DV × DV)} (W : Wd h M R es) (t' : WT) : Wd ⟨h.next, Tr.set (.big M.n t') M.wb h.bl⟩ { M with t := t' } R es ∧ Up h ⟨h.next, Tr.set (.big M.n t') M.wb h.bl⟩ := by
 obtain ⟨m1, m2, m3, m4, m5, m6⟩ := iA W.mem
 have ne : ∀ b : Pos, b.toNat ≠ 1024 → (Tr.set (.big M.n t') M.wb h.bl).get b = h.bl.get b := fun b hb => by
  rw [dNb]
  intro e; rw [e, W.wb, pn1] at hb; exact hb rfl
 refine ⟨⟨by rw [ne _ (by rw [pn7]; omega)]; exact W.w, by rw [ne _ (by rw [pn4]; omega)]; exact W.r, W.rl, by rw [ne _ (by rw [pn5]; omega)]; exact W.sy, ?_, W.nx, W.wb, W.pb⟩, ⟨Nat.le_refl _, fun b h1 h2 => ne b (by omega)⟩⟩
 exact jS (by show (Tr.set (.big M.n t') M.wb h.bl).get _ = _; rw [ne _ (by rw [pn3]; omega)]; exact m1) (by show (Tr.set (.big M.n t') M.wb h.bl).get M.wb = _; rw [dNc])
  (by show (Tr.set (.big M.n t') M.wb h.bl).get M.pb = _; rw [ne _ (by rw [W.pb, pn2]; omega)]; exact m3) m4 m5 m6
end
end Go.Dd

namespace Go.Dd
open Go.Proofs
noncomputable def MemV.mk1 (M : MemV) (f c : Nat) (cls : Int) : MemV := ⟨M.wb, M.n, M.fin + (c + 3), M.made + 1, M.pb,
 mS (((M.t.set M.fin (.ofNat (c * 4 + f))).set (M.fin + 1) cls).set (M.fin + 2) (.ofNat (M.made + 1))) c (M.fin + 3), M.pl.set M.fin (.ofNat 1)⟩
def okV (f : Nat) (pl : WT) (v : Int) : Prop := match f with
 | 0 => eD v pl = true
 | 2 => 0 ≤ v ∧ v ≤ 255
 | _ => True
theorem cHh {c : Int} {pl : WT} (h : bV c pl ≠ 0) : rX c pl = true := by
 unfold rX
 split
 ·rfl
 ·have : Nat.beq (bV c pl) 0 = false := by
   cases hb : Nat.beq (bV c pl) 0 with
   | true => exact absurd (Nat.eq_of_beq_eq_true hb) h
   | false => rfl
  rw [this]; rfl
section
theorem Wd.make {h : Hp} {M : MemV} {R : List Int} {es : List (DV × DV)} (W : Wd h M R es) (G : Good M) {cls : Int} (hc : bV cls M.pl ≠ 0) {f c : Nat} (hf : f ≤ 2) (h256 : c ≤ 256) (room : M.fin + c + 3 ≤ M.n) :
  ∃ h1, oD [.p (aL 3) 0, .i .i64 cls, .i .i64 (.ofNat f), .i .i64 (.ofNat c)] h = some (.t [.i .i64 (.ofNat (M.fin * 2)), .i .i64 (.ofNat 0)], h1) ∧ Wd h1 (M.mk1 f c cls) R es ∧ Up h h1 ∧ h1.next = h.next := by
 obtain ⟨m1, m2, m3, m4, m5, m6⟩ := iA W.mem
 have q1 : (!(rX cls M.pl)) = false := by rw [cHh hc]; rfl
 have q2 : (Nat.ble f 2 && Nat.ble c 256) = true := by simp [jO, hf, h256]
 have q3 : Nat.blt (Nat.sub M.n M.fin) (Nat.add c 3) = false := by
  rw [gK]; exact decide_eq_false (by show ¬ M.n - M.fin < c + 3; omega)
 have hlo := G.lo
 have hhi := G.hi
 have hmd := G.md
 have q4 : (Nat.ble 3 M.fin && Nat.ble M.fin 131072) = true := by simp [jO]; omega
 refine ⟨⟨h.next, Tr.set (.row .ex [.l M.wb 0 M.n M.n, .i .i64 (.ofNat (M.fin + (c + 3))), .i .i64 (.ofNat (M.made + 1)), .m M.pb]) (aL 3) (Tr.set (.mi (M.pl.set M.fin (.ofNat 1))) M.pb (Tr.set (.big M.n (M.mk1 f c cls).t) M.wb h.bl))⟩, ?_, ?_, ?_, ?_⟩
 ·simp only [oD, W.mem, q1, q2, q3, q4, cond_false, cond_true]
  rfl
 ·have ne : ∀ (b : Pos) (o1 o2 o3 : Ob), b.toNat ≠ 1024 → b.toNat ≠ 1025 → b.toNat ≠ 1026 → (Tr.set o1 (aL 3) (Tr.set o2 M.pb (Tr.set o3 M.wb h.bl))).get b = h.bl.get b := fun b o1 o2 o3 h1 h2 h3 => by
   rw [dNb _ _ _ _ (fun e => h3 (by rw [e, pn3])), dNb _ _ _ _ (fun e => h2 (by rw [e, W.pb, pn2])), dNb _ _ _ _ (fun e => h1 (by rw [e, W.wb, pn1]))]
  refine ⟨(ne _ _ _ _ (by rw [pn7]; omega) (by rw [pn7]; omega) (by rw [pn7]; omega)).trans W.w, (ne _ _ _ _ (by rw [pn4]; omega) (by rw [pn4]; omega) (by rw [pn4]; omega)).trans W.r, W.rl,
   (ne _ _ _ _ (by rw [pn5]; omega) (by rw [pn5]; omega) (by rw [pn5]; omega)).trans W.sy, ?_, W.nx, W.wb, W.pb⟩
  refine jS (by show (Tr.set _ (aL 3) _).get (aL 3) = _; rw [dNc]; rfl) ?_ ?_ m4 (show M.fin + (c + 3) ≤ M.n by omega) (show M.made + 1 < 1000000 by omega)
  ·show (Tr.set _ (aL 3) (Tr.set _ M.pb (Tr.set _ M.wb h.bl))).get M.wb = _
   rw [dNb _ _ _ _ (by rw [W.wb]; exact pne pn1 pn3 (by omega)), dNb _ _ _ _ (by rw [W.wb, W.pb]; exact pne pn1 pn2 (by omega))]
   exact dNc _ _ _
  ·show (Tr.set _ (aL 3) (Tr.set _ M.pb (Tr.set _ M.wb h.bl))).get M.pb = _
   rw [dNb _ _ _ _ (by rw [W.pb]; exact pne pn2 pn3 (by omega))]
   exact dNc _ _ _
 ·refine ⟨Nat.le_refl _, fun b h1 h2 => ?_⟩
  show (Tr.set _ (aL 3) (Tr.set _ M.pb (Tr.set _ M.wb h.bl))).get b = _
  rw [dNb _ _ _ _ (pnl pn3 h1 (by omega)), dNb _ _ _ _ (by rw [W.pb]; exact pnl pn2 h1 (by omega)), dNb _ _ _ _ (by rw [W.wb]; exact pnl pn1 h1 (by omega))]
 ·rfl
theorem Wd.put {h : Hp} {M : MemV} {R : List Int} {es : List (DV × DV)} (W : Wd h M R es) {o v : Int} {i hd : Nat} (ho : bV o M.pl ≠ 0) (hh : M.t.get (bV o M.pl) = .ofNat hd) (hb : hd < 1000000000000) (hi : i < hd / 4) (hn : bV o M.pl + 3 + hd / 4 ≤ M.n) (hv : okV (hd % 4) M.pl v) :
  aAh [.p (aL 3) 0, .i .i64 o, .i .i64 (.ofNat i), .i .i64 v] h = some (.i .i64 (.ofNat 0), ⟨h.next, Tr.set (.big M.n (M.t.set (bV o M.pl + 3 + i) v)) M.wb h.bl⟩) := by
 have b0 : Nat.beq (bV o M.pl) 0 = false := by
  cases hb : Nat.beq (bV o M.pl) 0 with
  | true => exact absurd (Nat.eq_of_beq_eq_true hb) ho
  | false => rfl
 have b1 : Nat.blt (Nat.add (bV o M.pl) 1) M.n = true := by
  rw [gK]; exact decide_eq_true (show bV o M.pl + 1 < M.n by omega)
 have b2 : Nat.blt hd 1000000000000 = true := by rw [gK]; exact decide_eq_true hb
 have b3 : Nat.ble (Nat.div hd 4) i = false := by rw [jO]; exact decide_eq_false (show ¬ hd / 4 ≤ i by omega)
 have b4 : Nat.blt (Nat.add (Nat.add (bV o M.pl) 3) i) M.n = true := by rw [gK]; exact decide_eq_true (show bV o M.pl + 3 + i < M.n by omega)
 simp only [aAh, iU, W.mem, gP, b0, cond_false, iQ, b1, cond_true, hh, b2, b3, b4]
 show (match hd % 4 with
  | 0 => bif eD v M.pl then nF M (bV o M.pl + 3 + i) v h else some (.i .i64 (.ofNat 6), h)
  | 2 => (match (generalizing := false) v with
   | .ofNat c => bif Nat.ble c 255 then nF M (bV o M.pl + 3 + i) v h else some (.i .i64 (.ofNat 6), h)
   | .negSucc _ => some (.i .i64 (.ofNat 6), h))
  | _ => nF M (bV o M.pl + 3 + i) v h) = _
 have hm : hd % 4 < 4 := Nat.mod_lt _ (by omega)
 generalize hd % 4 = f at hv hm
 match f, hv with
 | 0, hv =>
  change eD v M.pl = true at hv
  simp only [hv, cond_true]
  rfl
 | 1, hv => rfl
 | 2, hv =>
  change 0 ≤ v ∧ v ≤ 255 at hv
  cases v with
  | negSucc c => omega
  | ofNat c =>
   have : Nat.ble c 255 = true := by rw [jO]; exact decide_eq_true (by have := hv.2; simp at this; omega)
   simp only [this, cond_true]
   rfl
 | 3, hv => rfl
 | n + 4, hv => omega
end
theorem fill {R : List Int} {es : List (DV × DV)} {o : Int} {x : DV} {a hd n : Nat} {pl : WT} {rec : FuncId → List DV → Hp → aH} (ha : bV o pl = a) (h0 : a ≠ 0) (hb : hd < 1000000000000) : ∀ (l2 done : List Int) (m : Nat) (M : MemV) (h : Hp), Wd h M R es → SlI x (done ++ l2) h →
  M.pl = pl → M.t.get a = .ofNat hd → hd / 4 = (done ++ l2).length → a + 3 + hd / 4 ≤ M.n → M.n ≤ 131072 → (∀ v ∈ l2, okV (hd % 4) pl v) → l2.length < m →
  ∃ h' t', oT rec n m (.p (aL 7) 0) (.i .i64 o) x (iD (done ++ l2).length) (.i .i64 (.ofNat done.length)) h = some (.t [.i .i64 o, .i .i64 (.ofNat 0)], h') ∧ Wd h' { M with t := t' } R es ∧ Up h h' ∧ h'.next = h.next ∧
   ∀ j, t'.get j = if a + 3 + done.length ≤ j ∧ j < a + 3 + (done ++ l2).length then l2.getD (j - (a + 3 + done.length)) 0 else M.t.get j
 | [], done, m + 1, M, h, W, S, e1, e2, e3, e4, e5, e6, e7 => by
  refine ⟨h, M.t, ?_, W, Up.refl h, rfl, fun j => by rw [if_neg (by simp)]⟩
  show rT rec n (oT rec n m) _ _ _ _ _ h = _
  unfold rT
  have hl : decide (Int.ofNat done.length < ((done ++ []).length : Int)) = false := by simp
  simp only [cG, aO, hl, bG]
  rfl
 | v :: l2, done, m + 1, M, h, W, S, e1, e2, e3, e4, e5, e6, e7 => by
  subst e1
  obtain ⟨ad, q1, q2⟩ := S.at (i := done.length) (v := v) (by simp)
  have hp := W.put (o := o) (v := v) (i := done.length) (hd := hd) (by rw [ha]; exact h0) (by rw [ha]; exact e2) hb (by rw [e3]; simp) (by rw [ha]; exact e4) (e6 v (by simp))
  rw [ha] at hp
  obtain ⟨W1, U1⟩ := W.setT (M.t.set (a + 3 + done.length) v)
  have hlen : (done ++ v :: l2).length = done.length + 1 + l2.length := by simp; omega
  have hset : ∀ j, (M.t.set (a + 3 + done.length) v).get j = if j = a + 3 + done.length then v else M.t.get j := fun j => WT.get_set _ _ _ _ (by omega)
  obtain ⟨h', t', r1, r2, r3, r4, r5⟩ := fill ha h0 hb l2 (done ++ [v]) m { M with t := M.t.set (a + 3 + done.length) v } _ W1 (by rw [List.append_assoc]; exact S.up U1) rfl (by
   show (M.t.set (a + 3 + done.length) v).get a = _
   rw [hset, if_neg (by omega)]; exact e2) (by rw [e3]; simp) e4 e5 (fun u hu => e6 u (by simp [hu])) (by simp at e7; omega)
  refine ⟨h', t', ?_, r2, U1.trans r3, r4, fun j => ?_⟩
  ·show rT rec n (oT rec n m) _ _ _ _ _ h = _
   unfold rT
   have hl : decide (Int.ofNat done.length < ((done ++ v :: l2).length : Int)) = true := by simp; omega
   simp only [cG, aO, hl, bN, q1, q2, gU, fR, W.l00, hp]
   rw [fZ _ _ _ (by simp; omega), aO]
   have el : (Int.ofNat done.length + Int.ofNat 1) = Int.ofNat (done ++ [v]).length := by simp
   rw [el]
   have el2 : (done ++ v :: l2) = done ++ [v] ++ l2 := by simp
   rw [el2]
   exact r1
  ·rw [r5 j]
   simp only [hset, laE, lcE, lnE]
   by_cases c1 : a + 3 + done.length + 1 ≤ j ∧ j < a + 3 + (done.length + 1 + l2.length)
   ·rw [if_pos (by omega), if_pos (by omega)]
    have : j - (a + 3 + done.length) = (j - (a + 3 + (done.length + (0 + 1)))) + 1 := by omega
    rw [this]
    simp
   ·rw [if_neg (by omega)]
    by_cases c2 : j = a + 3 + done.length
    ·rw [if_pos c2, if_pos (by omega)]
     subst c2
     simp
    ·rw [if_neg c2, if_neg (by omega)]
end Go.Dd

namespace Go.Dd
open Go.Proofs
structure Grown (M M' : MemV) (f : Nat) (cls : Int) (l : List Int) : Prop where
 n : M'.n = M.n
 fin : M'.fin = M.fin + (l.length + 3)
 made : M'.made = M.made + 1
 pl : M'.pl = M.pl.set M.fin (.ofNat 1)
 hd : M'.t.get M.fin = .ofNat (l.length * 4 + f)
 cl : M'.t.get (M.fin + 1) = cls
 old : ∀ j, j < M.fin → M'.t.get j = M.t.get j
 new : ∀ i v, l[i]? = some v → M'.t.get (M.fin + 3 + i) = v
theorem cKz {a : Nat} (h3 : 3 ≤ a) (hi : a ≤ 131072) : jI (.ofNat (a * 2)) = a := by
 obtain ⟨h1, h2, _⟩ := qI (.ofNat (a * 2))
 have h0 : jI (.ofNat (a * 2)) ≠ 0 := h1.2 (by simp; omega)
 have h4 := h2 h0
 have h5 : (Int.ofNat (a * 2)) / 2 = (a : Int) := by rw [Int.ofNat_eq_natCast]; omega
 rw [h5] at h4
 exact Int.ofNat.inj h4
theorem rQ (pl : WT) {k : Nat} (hk : k < 16000000) (j : Nat) : (pl.set k (.ofNat 1)).get j = if j = k then 1 else pl.get j := WT.get_set _ _ _ _ hk
theorem sK {w : Int} {pl : WT} {k : Nat} (hk : k < 16000000) (h : bV w pl ≠ 0) : bV w (pl.set k (.ofNat 1)) = bV w pl := by
 have h1 := atN_pos.1 h
 have h2 : bV w (pl.set k (.ofNat 1)) ≠ 0 := atN_pos.2 ⟨h1.1, by rw [rQ _ hk]; split <;> simp [h1.2]⟩
 rcases mG w pl with e | ⟨e, _⟩
 ·exact absurd e h
 ·rcases mG w (pl.set k (.ofNat 1)) with e' | ⟨e', _⟩
  ·exact absurd e' h2
  ·rw [e, e']
theorem yX {pl : WT} {a : Nat} (h3 : 3 ≤ a) (hi : a ≤ 131072) : bV (.ofNat (a * 2)) (pl.set a (.ofNat 1)) = a := by
 have hp := cKz h3 hi
 have h2 : bV (.ofNat (a * 2)) (pl.set a (.ofNat 1)) ≠ 0 := atN_pos.2 ⟨by rw [hp]; omega, by rw [hp, rQ _ (by omega), if_pos rfl]; decide⟩
 rcases mG (.ofNat (a * 2)) (pl.set a (.ofNat 1)) with e' | ⟨e', _⟩
 ·exact absurd e' h2
 ·rw [e', hp]
theorem Grown.good {M M' : MemV} {f : Nat} {cls : Int} {l : List Int} (g : Grown M M' f cls l) (G : Good M) (hc : bV cls M.pl ≠ 0) (hf : f ≤ 2) (h256 : l.length ≤ 256) (room : M.fin + l.length + 3 ≤ M.n) (hm : M.made < 899999) : Good M' := by
 have h1 := G.le
 have h2 := G.lo
 have h3 := G.hi
 refine ⟨by rw [g.n]; exact G.n, by rw [g.n, g.fin]; omega, by rw [g.fin]; omega, by rw [g.n]; exact G.hi, by rw [g.made]; omega, fun a ha => ?_⟩
 rw [g.pl, rQ _ (by omega)] at ha
 by_cases e : a = M.fin
 ·subst e
  refine ⟨h2, l.length * 4 + f, g.hd, by omega, by rw [g.fin]; omega, ?_⟩
  rw [g.cl, g.pl, sK (by omega) hc]
  exact hc
 ·rw [if_neg e] at ha
  obtain ⟨p1, hd, p2, p3, p4, p5⟩ := G.ob a ha
  refine ⟨p1, hd, by rw [g.old _ (by omega)]; exact p2, p3, by rw [g.fin]; omega, ?_⟩
  rw [g.old _ (by omega), g.pl, sK (by omega) p5]
  exact p5
section
theorem Wd.make61 {h : Hp} {M : MemV} {R : List Int} {es : List (DV × DV)} (W : Wd h M R es) (G : Good M) {cls : Int} (hc : bV cls M.pl ≠ 0) {f : Nat} (hf : f ≤ 2) {x : DV} {l : List Int} (S : SlI x l h) (h256 : l.length ≤ 256) (room : M.fin + l.length + 3 ≤ M.n)
  (hv : ∀ v ∈ l, okV f (M.pl.set M.fin (.ofNat 1)) v) {n : Nat} (hn : 256 < n) :
  ∃ h' M', cA (n + 1) 87 [.p (aL 7) 0, .i .i64 cls, .i .i64 (.ofNat f), x] h = some (.t [.i .i64 (.ofNat (M.fin * 2)), .i .i64 (.ofNat 0)], h') ∧ Wd h' M' R es ∧ Up h h' ∧ h'.next = h.next ∧ Grown M M' f cls l := by
 have h1 := G.le
 have h2 := G.lo
 have h3 := G.hi
 obtain ⟨gg, e1, W1, U1, N1⟩ := W.make G hc hf h256 room
 have t1 : ∀ j, (M.mk1 f l.length cls).t.get j = if M.fin + 3 ≤ j ∧ j < M.fin + 3 + l.length then 0 else if j = M.fin + 2 then .ofNat (M.made + 1) else if j = M.fin + 1 then cls else if j = M.fin then .ofNat (l.length * 4 + f) else M.t.get j := fun j => by
  show (mS _ l.length (M.fin + 3)).get j = _
  rw [sG _ _ _ _ (by omega), WT.get_set _ _ _ _ (by omega), WT.get_set _ _ _ _ (by omega), WT.get_set _ _ _ _ (by omega)]
 have ha : bV (.ofNat (M.fin * 2)) (M.mk1 f l.length cls).pl = M.fin := yX h2 (by omega)
 have hq : (l.length * 4 + f) / 4 = l.length := by omega
 have hr : (l.length * 4 + f) % 4 = f := by omega
 obtain ⟨h', t', e2, W2, U2, N2, q⟩ := fill (n := n) (rec := cA n) (o := .ofNat (M.fin * 2)) (x := x) (a := M.fin) (hd := l.length * 4 + f) (pl := (M.mk1 f l.length cls).pl) ha (by omega) (by omega) l [] n (M.mk1 f l.length cls) gg W1
  (S.up U1) rfl (by rw [t1, if_neg (by omega), if_neg (by omega), if_neg (by omega), if_pos rfl]) (by rw [hq]; rfl) (by rw [hq]; show M.fin + 3 + l.length ≤ M.n; omega) h3 (by rw [hr]; exact hv) (by omega)
 refine ⟨h', _, ?_, W2, U1.trans U2, N2.trans N1, ?_⟩
 ·rw [qH 87 rfl, cNp]
  unfold s87 aVo aXe aWg aXv bWm
  have zF : ∀ (a b : DV) (h : Hp), aC 0 (.t [a, b]) h = some (a, h) := fun a b h => rfl
  have xN : ∀ (a b : DV) (h : Hp), aC 1 (.t [a, b]) h = some (b, h) := fun a b h => rfl
  have hne : (Int.ofNat 0 != Int.ofNat 0) = false := rfl
  have el : iD (l.length : Int) = .i .i64 (.ofNat l.length) := rfl
  simp only [g0, g1, g2, g3, gU, fR, aO, W.l00, S.len (h' := h), el, e1, zF, xN, eN, hne, bG, S.len (h' := gg)]
  exact e2
 ·have q' : ∀ j, t'.get j = if M.fin + 3 ≤ j ∧ j < M.fin + 3 + l.length then l.getD (j - (M.fin + 3)) 0 else (M.mk1 f l.length cls).t.get j := q
  refine ⟨rfl, rfl, rfl, rfl, ?_, ?_, fun j hj => ?_, fun i v hi => ?_⟩
  ·show t'.get M.fin = _
   rw [q', if_neg (by omega), t1, if_neg (by omega), if_neg (by omega), if_neg (by omega), if_pos rfl]
  ·show t'.get (M.fin + 1) = _
   rw [q', if_neg (by omega), t1, if_neg (by omega), if_neg (by omega), if_pos rfl]
  ·show t'.get j = _
   rw [q', if_neg (by omega), t1, if_neg (by omega), if_neg (by omega), if_neg (by omega), if_neg (by omega)]
  ·show t'.get (M.fin + 3 + i) = _
   have hl : i < l.length := by
    rcases Nat.lt_or_ge i l.length with q | q
    ·exact q
    ·rw [List.getElem?_eq_none q] at hi; cases hi
   rw [q', if_pos (by omega), show M.fin + 3 + i - (M.fin + 3) = i by omega]
   simp [List.getD, hi]
end
end Go.Dd

namespace Go.Dd
open Go.Proofs
theorem tU : ∀ (l : List Nat) (t : WT) (a : Nat), (∀ x ∈ l, x < 16000000) → (mkP l t).get a ≠ 0 → a ∈ l ∨ t.get a ≠ 0
 | [], t, a, _, h => .inr h
 | x :: l, t, a, hx, h => by
  rcases tU l (t.set x (.ofNat 1)) a (fun y hy => hx y (by simp [hy])) h with h1 | h1
  ·exact .inl (by simp [h1])
  ·rw [WT.get_set _ _ _ _ (hx x (by simp))] at h1
   by_cases e : a = x
   ·exact .inl (by simp [e])
   ·rw [if_neg e] at h1
    exact .inr h1
noncomputable def cBn (M : MemV) (a : Nat) : Bool := Nat.ble 3 a && (Nat.ble a 131072 && (match M.t.get a with
 | .ofNat hd => Nat.blt hd 1000000000000 && (Nat.ble (Nat.add (Nat.add a 3) (Nat.div hd 4)) M.fin && !(Nat.beq (bV (M.t.get (Nat.add a 1)) M.pl) 0))
 | .negSucc _ => false))
noncomputable def aKb (p : Nat → Bool) (l : List Nat) : Bool := List.rec (motive := fun _ => Bool) true (fun x _ ih => p x && ih) l
theorem jU {p : Nat → Bool} : ∀ {l : List Nat}, aKb p l = true → ∀ a ∈ l, p a = true
 | [], _, a, h => by cases h
 | x :: l, hl, a, h => by
  change (p x && aKb p l) = true at hl
  simp only [Bool.and_eq_true] at hl
  simp only [List.mem_cons] at h
  rcases h with rfl | h
  ·exact hl.1
  ·exact jU hl.2 a h
theorem cCt {M : MemV} {l : List Nat} (hp : M.pl = mkP l .e) (hc : aKb (cBn M) l = true) (hn : M.n ≤ 131072) (hf : M.fin ≤ M.n) (h3 : 3 ≤ M.fin) (hm : M.made < 900000) : Good M := by
 have ha : ∀ a ∈ l, cBn M a = true := jU hc
 refine ⟨by omega, hf, h3, hn, hm, fun a h => ?_⟩
 have hl : ∀ x ∈ l, x < 16000000 := fun x hx => by
  have := ha x hx
  simp only [cBn, Bool.and_eq_true, jO, decide_eq_true_eq] at this
  omega
 have hm : a ∈ l := by
  rw [hp] at h
  rcases tU l .e a hl h with h1 | h1
  ·exact h1
  ·exact absurd rfl h1
 have := ha a hm
 simp only [cBn, Bool.and_eq_true, jO, decide_eq_true_eq] at this
 obtain ⟨p1, p2, p3⟩ := this
 refine ⟨p1, ?_⟩
 cases ht : M.t.get a with
 | negSucc x => rw [ht] at p3; cases p3
 | ofNat hd =>
  rw [ht] at p3
  simp only [Bool.and_eq_true, gK, jO, decide_eq_true_eq] at p3
  obtain ⟨q1, q2, q3⟩ := p3
  refine ⟨hd, rfl, q1, q2, fun e => ?_⟩
  change (!(Nat.beq (bV (M.t.get (a + 1)) M.pl) 0)) = true at q3
  rw [e] at q3
  cases q3
def RN : List Int := [8370, 1096, 6, 24, 42, 60, 78, 96, 114, 132, 150, 168, 186, 204, 222, 240, 258, 276]
noncomputable def esN : List (DV × DV) := bTq (aWb syF 80)
end Go.Dd

namespace Go.Dd
open Go.Proofs
theorem rg0 (rec : FuncId → List DV → Hp → aH) (k : K) (env : bA) (h : Hp) : gW CF0 rec 49 (fM (cL (cf Tryz.f214))) (fM (cL (cf Tryz.f214))).toList k env h = (
 bnd (bU (env 1) h) fun v1 h1 =>
 k (bO (bO env (some 3) v1) (some 4) (.i .i64 (Int.ofNat 0))) h1) := by kernel_rfl
theorem rg1 (rec : FuncId → List DV → Hp → aH) (k : K) (env : bA) (h : Hp) : gW CF0 rec 49 (fM (cL (cR (cf Tryz.f214)))) (fM (cL (cR (cf Tryz.f214)))).toList k env h = (
 bnd (aZ (env 0) h) fun v1 h1 =>
 bnd (aB 0 v1 h1) fun v2 h2 =>
 bnd (aB 4 v2 h2) fun v3 h3 =>
 bnd (aA v3 h3) fun v4 h4 =>
 bnd (rec 163 [v4, (.f 240 [] [(env 3)])] h4) fun v5 h5 =>
 k (bO (bO (bO (bO (bO (bO (bO (bO env (some 6) (env 0)) (some 7) v1) (some 8) v2) (some 9) v3) (some 10) v4) (some 11) (.f 240 [] [(env 3)])) (some 12) v5) (some 5) v5) h5) := by kernel_rfl
theorem rg2 (rec : FuncId → List DV → Hp → aH) (k : K) (env : bA) (h : Hp) : gW CF0 rec 49 (fM (cL (cL (cR (cR (cf Tryz.f214)))))) (fM (cL (cL (cR (cR (cf Tryz.f214)))))).toList k env h = (
 bnd (aD .lss (env 5) (.i .i64 (Int.ofNat 0)) h) fun v1 h1 =>
 k (bO (bO env (some 13) (env 5)) (some 14) v1) h1) := by kernel_rfl
theorem rg3 (rec : FuncId → List DV → Hp → aH) (k : K) (env : bA) (h : Hp) : gW CF0 rec 49 (fM (cL (cL (cR (cL (cR (cR (cf Tryz.f214)))))))) (fM (cL (cL (cR (cL (cR (cR (cf Tryz.f214)))))))).toList k env h = (
 bnd (aZ (env 0) h) fun v1 h1 =>
 bnd (aB 0 v1 h1) fun v2 h2 =>
 bnd (aB 4 v2 h2) fun v3 h3 =>
 bnd (aA v3 h3) fun v4 h4 =>
 bnd (cB v4 h4) fun v5 h5 =>
 k (bO (bO (bO (bO (bO (bO (bO env (some 15) (env 0)) (some 16) v1) (some 17) v2) (some 18) v3) (some 19) v4) (some 20) v5) (some 5) v5) h5) := by kernel_rfl
theorem rg5 (rec : FuncId → List DV → Hp → aH) (k : K) (env : bA) (h : Hp) : gW CF0 rec 49 (fM (cL (cL (cR (cR (cL (cR (cL (cR (cR (cf Tryz.f214))))))))))) (fM (cL (cL (cR (cR (cL (cR (cL (cR (cR (cf Tryz.f214))))))))))).toList k env h = (
 bnd (aZ (env 0) h) fun v1 h1 =>
 bnd (aB 0 v1 h1) fun v2 h2 =>
 bnd (aB 4 v2 h2) fun v3 h3 =>
 bnd (aA v3 h3) fun v4 h4 =>
 bnd (cB v4 h4) fun v5 h5 =>
 bnd (aN [(.i .i64 (Int.ofNat 0)), (.s []), (.i .i64 (Int.ofNat 0)), .l0] 1 [(0, 4, (.a [(.i .i64 (Int.ofNat 0)), (.s []), (.i .i64 (Int.ofNat 0)), .l0]))] h5) fun v6 h6 =>
 bnd (aY 4 56 v4 v6 h6) fun v7 h7 =>
 bnd (aZ (env 0) h7) fun v8 h8 =>
 bnd (aB 0 v8 h8) fun v9 h9 =>
 bnd (aB 4 v9 h9) fun v10 h10 =>
 bnd (aI 1 v10 v7 h10) fun _ h11 =>
 k (bO (bO (bO (bO (bO (bO (bO (bO (bO (bO (bO env (some 23) (env 0)) (some 24) v1) (some 25) v2) (some 26) v3) (some 27) v4) (some 28) v5) (some 29) v6) (some 30) v7) (some 31) v8) (some 32) v9) (some 33) v10) h11) := by kernel_rfl
theorem rg6 (rec : FuncId → List DV → Hp → aH) (k : K) (env : bA) (h : Hp) : gW CF0 rec 49 (fM (cR (cL (cR (cR (cL (cR (cL (cR (cR (cf Tryz.f214))))))))))) (fM (cR (cL (cR (cR (cL (cR (cL (cR (cR (cf Tryz.f214))))))))))).toList k env h = (
 bnd (aK 4 (env 3) h) fun v1 h1 =>
 bnd (aE 4 (env 30) (env 28) h1) fun v2 h2 =>
 bnd (aI 4 v2 v1 h2) fun _ h3 =>
 k (bO (bO env (some 34) v1) (some 35) v2) h3) := by kernel_rfl
theorem rg7 (rec : FuncId → List DV → Hp → aH) (k : K) (env : bA) (h : Hp) : iO CF0 rec 49 (fM (cR (cR (cR (cL (cR (cL (cR (cR (cf Tryz.f214)))))))))) k env h = (
 bnd (aZ (env 0) (resv 1 h)) fun v1 h1 =>
 bnd (aB 0 v1 h1) fun v2 h2 =>
 bnd (aB 4 v2 h2) fun v3 h3 =>
 bnd (aA v3 h3) fun v4 h4 =>
 bnd (aK 4 (env 3) h4) fun v5 h5 =>
 bnd (bL (cF 0 h.next) [(.i .i64 (Int.ofNat 0)), (.s []), (.i .i64 (Int.ofNat 0)), .l0] 1 [(0, 4, v5)] h5) fun v6 h6 =>
 bnd (aY 4 56 v4 v6 h6) fun v7 h7 =>
 bnd (aZ (env 0) h7) fun v8 h8 =>
 bnd (aB 0 v8 h8) fun v9 h9 =>
 bnd (aB 4 v9 h9) fun v10 h10 =>
 bnd (aI 1 v10 v7 h10) fun v11 h11 =>
 k (bO (bO (bO (bO (bO (bO (bO (bO (bO (bO (bO (bO env (some 36) (env 0)) (some 37) (env 0)) (some 38) v1) (some 39) v2) (some 40) v3) (some 41) v4) (some 42) v5) (some 43) v6) (some 44) v7) (some 45) v8) (some 46) v9) (some 47) v10) h11) := by kernel_rfl
theorem rg8 (rec : FuncId → List DV → Hp → aH) (k : K) (env : bA) (h : Hp) : gW CF0 rec 49 (fM (cL (cR (cR (cR (cf Tryz.f214)))))) (fM (cL (cR (cR (cR (cf Tryz.f214)))))).toList k env h = (
 k (bO (bO env (some 48) (env 5)) (some 4) (env 5)) h) := by kernel_rfl
end Go.Dd

namespace Go.Dd
open Go.Proofs
theorem HR.sub {G : Gd} {ρ : cM} {h h' : Hp} {w : World} (S : Sim true h h') (H : HR G ρ h' w) : HR G ρ h w := by
 have hg : ∀ b o, h.bl.get b = some o → h'.bl.get b = some o := fun b o hb => by
  obtain ⟨o', h1, h2⟩ := S.get b o hb
  rw [h1, kR h2]
 have hc : ∀ b a, Claims ρ h b a → Claims ρ h' b a := fun b a ⟨k, l, L, h1, h2, h3⟩ => ⟨k, l, L, hg _ _ h1, h2, h3⟩
 have hro : ∀ b a, Claims ρ h b a → ¬ isRo h b → ¬ isRo h' b := fun b a ⟨k, l, L, h1, h2, h3⟩ hn ⟨l', hl⟩ => by
  rw [hg _ _ h1] at hl
  simp only [bC, Ob.row.injEq] at hl
  exact hn ⟨l, by rw [h1, hl.1]⟩
 exact ⟨H.gl, H.sz, by rw [← S.next]; exact H.nx, fun b a h1 ⟨l, h2⟩ => H.ro b a (hc b a h1) ⟨l, hg _ _ h2⟩, fun b o hb => H.dom b o (hg b o hb), fun b L hb => by rw [← S.next]; exact H.lt b L hb,
  fun b k l L i v h1 => H.cell b k l L i v (hg _ _ h1), fun b l L es j h1 => H.spare b l L es j (hg _ _ h1), fun b a h1 h2 => H.free b a (hc b a h1) (hro b a h1 h2),
  fun b b' a h1 h2 h3 => H.inj b b' a (hc b a h1) (hc b' a h2) (hro b a h1 h3),
  fun b l L h1 => H.ex b l L (h1.elim (fun q => .inl (hg _ _ q)) (fun q => .inr (hg _ _ q))), fun b es l i v h1 => H.grone b es l i v (hg _ _ h1),
  fun b o L h1 h2 => H.itr b o L h1 (hg _ _ h2), fun b o b' o' L L' h1 h2 h3 h4 => H.itj b o b' o' L L' h1 h2 (hg _ _ h3) (hg _ _ h4)⟩
theorem rE : ∀ p : Pos, mV p p = true
 | .h => rfl
 | .o p => rE p
 | .i p => rE p
theorem aVs {p q : Pos} (h : mV p q = false) : p ≠ q := fun e => by subst e; rw [rE] at h; cases h
open Classical in
noncomputable def kk (N : bA → Hp → Prop) : K := fun env h => if N env h then some (aU, h) else none
theorem tN {N : bA → Hp → Prop} {env : bA} {h : Hp} (hn : N env h) : ∃ r, kk N env h = some r := ⟨_, if_pos hn⟩
theorem cOk {N : bA → Hp → Prop} {env : bA} {h : Hp} {r} (hn : kk N env h = some r) : N env h := by
 unfold kk at hn
 split at hn
 ·assumption
 ·cases hn
section
variable {C : Cfg} {rec : FuncId → List DV → Hp → aH} {nt : Nat} {X : Nat → bA → Hp → Prop} {R N : bA → Hp → Prop} {env : bA} {h : Hp}
theorem wpS {a b : Code} (H : rO C rec nt a X R (rO C rec nt b X R N) env h) : rO C rec nt (.seq a b) X R N env h := H
theorem aRo {id : Nat} {ops : Array Oper} (H : ∃ r, gW C rec nt ops ops.toList (kk fun e h => oG h → N e h) env h = some r) : rO C rec nt (.region id ops false) X R N env h := by
 obtain ⟨r, hr⟩ := H
 obtain ⟨env', h', h1, h2⟩ := nJ _ _ _ _ _ hr
 simp only [rO, Bool.false_eq_true, if_false]
 exact ⟨env', h', h1, cOk h2⟩
theorem dIc {id : Nat} {ops : Array Oper} (hd : eL C.P ops = true) (H : ∃ r, iO C rec nt ops (kk fun e h => oG h → N e h) env h = some r) : rO C rec nt (.region id ops true) X R N env h := by
 obtain ⟨r, hr⟩ := H
 simp only [rO, if_true]
 exact .inr ⟨hd, _, r, hr, fun env' h' h1 h2 => cOk h1 h2⟩
theorem dHp {id : Nat} {ops : Array Oper} (H : aMb C rec nt ops (fun e h => oG h → N e h) ops.size (Array.replicate ops.size false) env h) : rO C rec nt (.region id ops true) X R N env h := by
 simp only [rO, if_true]
 exact .inl H
theorem wpC {c : Operand} {a b : Code} {t : Bool} (hc : opr env c = .b t) (H : (t = true → rO C rec nt a X R N env h) ∧ (t = false → rO C rec nt b X R N env h)) : rO C rec nt (.cond c a b) X R N env h := by
 cases t with
 | true => exact .inl ⟨hc, H.1 rfl⟩
 | false => exact .inr ⟨hc, H.2 rfl⟩
end
noncomputable def dKc : Code := cL (cR (cL (cR (cL (cR (cR (cf Tryz.f214)))))))
noncomputable def R4 : Array Oper := fM dKc
theorem dCi : cf Tryz.f214 = .seq (.region 0 (fM (cL (cf Tryz.f214))) false) (.seq (.region 1 (fM (cL (cR (cf Tryz.f214)))) false) (.seq (.seq (.region 2 (fM (cL (cL (cR (cR (cf Tryz.f214)))))) false)
 (.cond (.tmp 14) (.seq (.region 3 (fM (cL (cL (cR (cL (cR (cR (cf Tryz.f214)))))))) false) (.seq (.region 4 R4 true) (.cond (.tmp 22)
  (.seq (.region 5 (fM (cL (cL (cR (cR (cL (cR (cL (cR (cR (cf Tryz.f214))))))))))) false) (.region 6 (fM (cR (cL (cR (cR (cL (cR (cL (cR (cR (cf Tryz.f214))))))))))) false))
  (.region 7 (fM (cR (cR (cR (cL (cR (cL (cR (cR (cf Tryz.f214)))))))))) true)))) .skip)) (.seq (.region 8 (fM (cL (cR (cR (cR (cf Tryz.f214)))))) false) .ret))) := by kernel_rfl
noncomputable def o4 (i : Nat) : Oper := (R4.toList[i]?).getD (Oper.mk none (.move (.tmp 0)) 0 "" #[] none)
theorem dKm : R4[0]? = some (o4 0) := by kernel_rfl
theorem dCv : R4[1]? = some (o4 1) := by kernel_rfl
theorem dCk : R4[2]? = some (o4 2) := by kernel_rfl
theorem dLj : R4[3]? = some (o4 3) := by kernel_rfl
theorem dMa (rec : FuncId → List DV → Hp → aH) (env : bA) (h : Hp) : bI CF0 rec R4 (o4 0) env h = bY [.b false] h := by kernel_rfl
theorem dGr (rec : FuncId → List DV → Hp → aH) (env : bA) (h : Hp) : bI CF0 rec R4 (o4 1) env h = aI 1 (env 21) (.b true) h := by kernel_rfl
theorem dCr (rec : FuncId → List DV → Hp → aH) (env : bA) (h : Hp) : bI CF0 rec R4 (o4 2) env h = aI 1 (env 21) (.b false) h := by kernel_rfl
theorem dLv (rec : FuncId → List DV → Hp → aH) (env : bA) (h : Hp) : bI CF0 rec R4 (o4 3) env h = aA (env 21) h := by kernel_rfl
theorem dGd : (o4 0).dst = some 21 := by kernel_rfl
theorem cEm : (o4 1).dst = none := by kernel_rfl
theorem cHj : (o4 2).dst = none := by kernel_rfl
theorem dDw : (o4 3).dst = some 22 := by kernel_rfl
theorem z4 : Array.replicate R4.size false = #[false, false, false, false] := by kernel_rfl
theorem y4 : R4.size = 4 := by kernel_rfl
theorem dJu : Region.ready .any R4 #[false, false, false, false] = [0] := by kernel_rfl
theorem dAr : Region.ready .any R4 #[true, false, false, false] = [1, 2] := by kernel_rfl
theorem dMn : Region.ready .any R4 #[true, true, false, false] = [2] := by kernel_rfl
theorem dLz : Region.ready .any R4 #[true, false, true, false] = [1] := by kernel_rfl
theorem dJd : Region.ready .any R4 #[true, true, true, false] = [3] := by kernel_rfl
theorem dIh : Region.ready .any R4 #[true, true, true, true] = [] := by kernel_rfl
theorem dJl : (#[false, false, false, false] : Array Bool).setIfInBounds 0 true = #[true, false, false, false] := by kernel_rfl
theorem dKy : (#[true, false, false, false] : Array Bool).setIfInBounds 1 true = #[true, true, false, false] := by kernel_rfl
theorem dKk : (#[true, false, false, false] : Array Bool).setIfInBounds 2 true = #[true, false, true, false] := by kernel_rfl
theorem dJn : (#[true, true, false, false] : Array Bool).setIfInBounds 2 true = #[true, true, true, false] := by kernel_rfl
theorem dHm : (#[true, false, true, false] : Array Bool).setIfInBounds 1 true = #[true, true, true, false] := by kernel_rfl
theorem dIy : (#[true, true, true, false] : Array Bool).setIfInBounds 3 true = #[true, true, true, true] := by kernel_rfl
theorem cIf {C : Cfg} {rec : FuncId → List DV → Hp → aH} {nt f i : Nat} {ops : Array Oper} {lR : bA → Hp → Prop} {listed l' : Array Bool} {env : bA} {h h' : Hp} {o : Oper} {v : DV} (hr : Region.ready .any ops listed = [i])
  (ho : ops[i]? = some o) (hf : cZ nt o.dst = true) (hs : bI C rec ops o env h = some (v, h')) (hl : listed.setIfInBounds i true = l') (hn : aMb C rec nt ops lR f l' (bO env o.dst v) h') : aMb C rec nt ops lR (f + 1) listed env h := by
 refine ⟨fun e => ?_, fun j hj => ?_⟩
 ·rw [hr] at e; cases e
 ·rw [hr] at hj
  simp only [List.mem_singleton] at hj
  subst hj
  exact ⟨o, v, h', ho, hf, hs, by rw [hl]; exact hn⟩
structure After (h h' : Hp) : Prop where
 next : h'.next = h.next.succ
 get : ∀ b, b ≠ h.next → h'.bl.get b = h.bl.get b
theorem dHy {rec : FuncId → List DV → Hp → aH} {lR : bA → Hp → Prop} {env : bA} {h : Hp} (H : ∀ x h', After h h' → lR (bO (bO env (some 21) (.p h.next 0)) (some 22) (.b x)) h') :
  aMb CF0 rec 49 R4 lR R4.size (Array.replicate R4.size false) env h := by
 rw [z4, y4]
 have st : ∀ (n : Pos) (bl : Tr Ob) (x y : Bool), bl.get h.next = some (.row .ex [.b y]) → aI 1 (.p h.next 0) (.b x) ⟨n, bl⟩ = some (aU, ⟨n, Tr.set (.row .ex [.b x]) h.next bl⟩) := fun n bl x y e => by
  simp only [aI, dC, cU, e, Kind.writable, List.length_singleton, if_true, fL, jW, DV.one, Bool.and_self, Option.map_some]
 have ld : ∀ (n : Pos) (bl : Tr Ob) (x : Bool), bl.get h.next = some (.row .ex [.b x]) → aA (.p h.next 0) ⟨n, bl⟩ = some (.b x, ⟨n, bl⟩) := fun n bl x e => by
  simp only [aA, cellD, rowOf, e, List.getElem?_cons_zero, DV.one, if_true]
 have g0 : ∀ (t : Tr Ob) (x : Bool), (Tr.set (.row .ex [.b x]) h.next t).get h.next = some (.row .ex [.b x]) := fun t x => dNc _ _ _
 have go : ∀ (t : Tr Ob) (x : Bool) (b : Pos), b ≠ h.next → (Tr.set (.row .ex [.b x]) h.next t).get b = t.get b := fun t x b e => dNb _ _ _ _ e
 have fin : ∀ (t : Tr Ob) (x : Bool), (∀ b, b ≠ h.next → t.get b = h.bl.get b) → t.get h.next = some (.row .ex [.b x]) →
   aMb CF0 rec 49 R4 lR 1 #[true, true, true, false] (bO env (some 21) (.p h.next 0)) ⟨h.next.succ, t⟩ := fun t x e1 e2 => by
  refine cIf dJd dLj (by rw [dDw]; rfl) ((dLv _ _ _).trans (ld _ _ x e2)) dIy ?_
  rw [dDw]
  exact ⟨dIh, H x _ ⟨rfl, e1⟩⟩
 refine cIf dJu dKm (by rw [dGd]; rfl) (dMa _ _ _) dJl ?_
 rw [dGd]
 refine ⟨fun e => (by rw [dAr] at e; cases e), fun j hj => ?_⟩
 rw [dAr] at hj
 simp only [List.mem_cons, List.not_mem_nil, or_false] at hj
 rcases hj with rfl | rfl
 ·refine ⟨_, _, _, dCv, by rw [cEm]; rfl, (dGr _ _ _).trans (st _ _ true false (g0 _ _)), ?_⟩
  rw [dKy, cEm]
  refine cIf dMn dCk (by rw [cHj]; rfl) ((dCr _ _ _).trans (st _ _ false true (g0 _ _))) dJn ?_
  rw [cHj]
  exact fin _ false (fun b e => by rw [go _ _ _ e, go _ _ _ e, go _ _ _ e]) (g0 _ _)
 ·refine ⟨_, _, _, dCk, by rw [cHj]; rfl, (dCr _ _ _).trans (st _ _ false false (g0 _ _)), ?_⟩
  rw [dKk, cHj]
  refine cIf dLz dCv (by rw [cEm]; rfl) ((dGr _ _ _).trans (st _ _ true false (g0 _ _))) dHm ?_
  rw [cEm]
  exact fin _ true (fun b e => by rw [go _ _ _ e, go _ _ _ e, go _ _ _ e]) (g0 _ _)
end Go.Dd

namespace Go.Dd
open Go.Proofs
theorem bTj {h h' g : Hp} {x v : DV} (hg : ∀ b o, h.bl.get b = some o → h'.bl.get b = some o) (e : aA x h = some (v, g)) : aA x h' = some (v, h') := by
 have S : Sim true ⟨h'.next, h.bl⟩ h' := ⟨rfl, fun b o hb => ⟨o, hg b o hb, lT o⟩⟩
 have e' : aA x ⟨h'.next, h.bl⟩ = some (v, ⟨h'.next, h.bl⟩) := by
  unfold aA at e ⊢
  split at e <;> (try (cases e; done))
  rename_i b o
  change (match cellD b o ⟨h'.next, h.bl⟩ with
   | some v => some (v, (⟨h'.next, h.bl⟩ : Hp))
   | none => none) = _
  change (match cellD b o ⟨h'.next, h.bl⟩ with
   | some v => some (v, h)
   | none => none) = _ at e
  split at e <;> (try (cases e; done))
  rename_i u hu
  simp only [bC, bP] at e
  rw [e.1]
 obtain ⟨k, e1, e2⟩ := lO x _ _ S v _ e'
 obtain ⟨rfl, _⟩ := (show k = h' ∧ True by
  unfold aA at e1
  split at e1 <;> (try (cases e1; done))
  split at e1 <;> (try (cases e1; done))
  simp only [bC, bP] at e1
  exact ⟨e1.2.symm, trivial⟩)
 exact e1
theorem bRk {h h' g : Hp} {n : Nat} {x v : DV} (hg : ∀ b o, h.bl.get b = some o → h'.bl.get b = some o) (e : aK n x h = some (v, g)) : aK n x h' = some (v, h') := by
 have S : Sim true ⟨h'.next, h.bl⟩ h' := ⟨rfl, fun b o hb => ⟨o, hg b o hb, lT o⟩⟩
 have e' : aK n x ⟨h'.next, h.bl⟩ = some (v, ⟨h'.next, h.bl⟩) := by
  unfold aK at e ⊢
  split at e <;> (try (cases e; done))
  rename_i b o
  change (match cellsAt b o n ⟨h'.next, h.bl⟩ with
   | some v => some (DV.a v, (⟨h'.next, h.bl⟩ : Hp))
   | none => none) = _
  change (match cellsAt b o n ⟨h'.next, h.bl⟩ with
   | some v => some (DV.a v, h)
   | none => none) = _ at e
  split at e <;> (try (cases e; done))
  rename_i u hu
  simp only [bC, bP] at e
  rw [← e.1]
 obtain ⟨k, e1, e2⟩ := lF n x _ _ S v _ e'
 obtain ⟨rfl, _⟩ := (show k = h' ∧ True by
  unfold aK at e1
  split at e1 <;> (try (cases e1; done))
  split at e1 <;> (try (cases e1; done))
  simp only [bC, bP] at e1
  exact ⟨e1.2.symm, trivial⟩)
 exact e1
theorem bGj {q : Pos} {l1 v : DV} {cs : List DV} {h k : Hp} (e : kB q l1 cs h = some (v, k)) : ∃ (n : Nat) (old : List DV) (t : Tr Ob), v = .l h.next 0 (n + 1) (n + 1) ∧ (∀ g, cB l1 g = some (.i .i64 (n : Int), g)) ∧
  old.length = n * 4 ∧ (∀ v ∈ old, v.one = true) ∧ k = ⟨h.next.succ, Tr.set (.row (.gr 4) (old ++ cs)) h.next t⟩ ∧ t.get q = h.bl.get q ∧ (∀ b, t.get b ≠ none → h.bl.get b ≠ none) ∧
  ∀ zs, kB q l1 zs h = some (v, ⟨h.next.succ, Tr.set (.row (.gr 4) (old ++ zs)) h.next t⟩) := by
 unfold kB at e
 split at e <;> (try (cases e; done))
 ·simp only [bC, bP] at e
  obtain ⟨rfl, rfl⟩ := e
  exact ⟨0, [], h.bl, rfl, fun g => rfl, rfl, by simp, rfl, rfl, fun b hb => hb, fun zs => rfl⟩
 ·rename_i b o len cap
  cases hc : (Nat.ble cap len && !(mV b q)) with
  | false => rw [hc] at e; cases e
  | true =>
   rw [hc] at e
   simp only [cnd] at e
   split at e <;> (try (cases e; done))
   rename_i es l old hb hold
   split at e <;> (try (cases e; done))
   rename_i hr
   simp only [bC, bP] at e
   obtain ⟨rfl, rfl⟩ := e
   have hq : q ≠ b := by
    simp only [Bool.and_eq_true, Bool.not_eq_true'] at hc
    exact Ne.symm (aVs hc.2)
   have hl : old.length = len * 4 ∧ ∀ v ∈ old, v.one = true := by
    unfold cellsAt at hold
    split at hold <;> (try (cases hold; done))
    obtain ⟨h1, _, _, h4⟩ := mH _ _ _ hold
    exact ⟨h1, h4⟩
   refine ⟨len, old, Tr.set (.row .sp (bR o l)) b h.bl, rfl, fun g => rfl, hl.1, hl.2, rfl, dNb _ _ _ _ hq, fun x hx => ?_, fun zs => ?_⟩
   ·by_cases e : x = b
    ·rw [e, hb]; simp
    ·rwa [dNb _ _ _ _ e] at hx
   ·unfold kB
    dsimp only
    rw [hc]
    simp only [cnd, hb, hold, if_pos hr]
theorem aZy {q : Pos} {l1 x v : DV} {cs : List DV} {h h' k : Hp} (S : Sim true h h') (hx : qK 4 x h' = some (1, cs)) (e : kB q l1 cs h = some (v, k)) : ∃ k', aY 4 56 l1 x h' = some (v, k') ∧ Sim true k k' := by
 unfold kB at e
 split at e <;> (try (cases e; done))
 ·simp only [bC, bP] at e
  obtain ⟨rfl, rfl⟩ := e
  refine ⟨⟨h'.next.succ, Tr.set (.row (.gr 4) cs) h'.next h'.bl⟩, ?_, ?_⟩
  ·unfold aY
   rw [hx]
   dsimp only
   rw [if_neg (by simp), if_pos (by decide), S.next]
  ·rw [S.next]; exact S.setR _ _ _ _
 ·rename_i b o len cap
  cases hc : (Nat.ble cap len && !(mV b q)) with
  | false => rw [hc] at e; cases e
  | true =>
   rw [hc] at e
   simp only [cnd] at e
   split at e <;> (try (cases e; done))
   rename_i es l old hb hold
   split at e <;> (try (cases e; done))
   rename_i hr
   simp only [bC, bP] at e
   obtain ⟨rfl, rfl⟩ := e
   have hle : cap ≤ len := by
    simp only [Bool.and_eq_true] at hc
    exact Nat.le_of_ble_eq_true hc.1
   refine ⟨⟨h'.next.succ, Tr.set (.row (.gr 4) (old ++ cs)) h'.next (Tr.set (.row .sp (bR o l)) b h'.bl)⟩, ?_, ?_⟩
   ·unfold aY
    rw [hx]
    dsimp only
    rw [if_neg (by omega), S.row hb, S.cellsAt hold]
    dsimp only
    rw [if_pos hr.2.2, if_pos ⟨hr.1, hr.2.1⟩, S.next]
   ·rw [S.next]
    exact (S.setR .sp (bR o l) b h.next).setR _ _ _ _
theorem aXm : ∀ (old zs cs : List DV), zs.length = cs.length → (∀ v ∈ zs, v.one = true) → (∀ v ∈ cs, v.one = true) → fL old.length (old ++ zs) cs = some (old ++ cs)
 | [], zs, cs, hl, hz, hc => by
  show jW zs cs = some cs
  induction cs generalizing zs with
  | nil => cases zs with
   | nil => rfl
   | cons z zs => simp at hl
  | cons c cs ih => cases zs with
   | nil => simp at hl
   | cons z zs =>
    simp only [jW, hz z (by simp), hc c (by simp), Bool.and_self, if_true]
    rw [ih zs (by simpa using hl) (fun v hv => hz v (by simp [hv])) (fun v hv => hc v (by simp [hv]))]
    rfl
 | x :: old, zs, cs, hl, hz, hc => by
  show (fL old.length (old ++ zs) cs).map (x :: ·) = _
  rw [aXm old zs cs hl hz hc]
  rfl
end Go.Dd

namespace Go.Dd
open Go.Proofs
theorem bFa : (Tryz.prog.funcs.toList.all fun fn => !(fn.name == "runtime.NumGoroutine")) = true := by kernel_rfl
theorem Try_ok : POk Tryz.prog where
 mixed := by kernel_rfl
 names := by
  intro f fn hf
  have h := List.all_eq_true.1 bFa fn (by
   obtain ⟨hlt, rfl⟩ := Array.getElem?_eq_some_iff.1 hf
   simp)
  simpa using h
theorem KC0 : OkC CF0 (fnD CF0 60) := ⟨fun G g F h => (by cases h), fun G g => bVg (C := CF0) Try_ok (fun G g F h => (by cases h)) 60 G g⟩
theorem cQc (e : bA) (h : Hp) : aV CF0 Tryz.f214 e h = some (e 4, h) := by kernel_rfl
theorem dEm : Tryz.f214.ntmps = 49 := by kernel_rfl
theorem dGo : Tryz.prog.funcs[214]? = some Tryz.f214 := by kernel_rfl
theorem cBo : Tryz.f214.body = some (cf Tryz.f214) := by kernel_rfl
theorem dBp : eL CF0.P (fM (cR (cR (cR (cL (cR (cL (cR (cR (cf Tryz.f214)))))))))) = true := by kernel_rfl
theorem aYi {X : Nat → bA → Hp → Prop} {N : bA → Hp → Prop} {env : bA} {v : DV} {h h1 : Hp} (he : env 5 = v) (S : Sim true h1 h) :
  rO CF0 (fnD CF0 60) 49 (.seq (.region 8 (fM (cL (cR (cR (cR (cf Tryz.f214)))))) false) .ret) X (fun env h' => ∃ h2, aV CF0 Tryz.f214 env h' = some (v, h2) ∧ Le h2 h1) N env h := by
 refine wpS (aRo ?_)
 rw [rg8]
 refine tN fun _ => ?_
 exact ⟨h, (cQc _ _).trans (by rw [show (bO (bO env (some 48) (env 5)) (some 4) (env 5)) 4 = env 5 from rfl, he]), fun G ρ w H => H.sub S⟩
theorem zC {F : Hp → aH} (hF : PureP F) {h g : Hp} {v : DV} (e : F h = some (v, g)) : g = h ∧ ∀ h', F h' = some (v, h') := hF h v g e
theorem rJ {h g : Hp} {c : Pos} {o : Nat} {v : DV} (e : aA (.p c o) h = some (v, g)) : g = h ∧ ∃ u, h.bl.get c = some u := by
 change (match cellD c o h with
  | some v => some (v, h)
  | none => none) = _ at e
 split at e <;> (try (cases e; done))
 rename_i u hu
 simp only [bC, bP] at e
 refine ⟨e.2.symm, ?_⟩
 unfold cellD rowOf at hu
 cases hc : h.bl.get c with
 | none => rw [hc] at hu; cases hu
 | some u => exact ⟨u, rfl⟩
theorem sC {h g : Hp} {c : Pos} {o n : Nat} {v : DV} (e : aK n (.p c o) h = some (v, g)) : g = h ∧ (∃ u, h.bl.get c = some u) ∧ ∃ cs, v = .a cs ∧ cs.length = n ∧ ∀ x ∈ cs, x.one = true := by
 change (match cellsAt c o n h with
  | some cs => some (DV.a cs, h)
  | none => none) = _ at e
 split at e <;> (try (cases e; done))
 rename_i u hu
 simp only [bC, bP] at e
 refine ⟨e.2.symm, ?_⟩
 unfold cellsAt rowOf at hu
 cases hc : h.bl.get c with
 | none => rw [hc] at hu; cases hu
 | some ob =>
  refine ⟨⟨ob, rfl⟩, u, e.1.symm, ?_⟩
  rw [hc] at hu
  split at hu <;> (try (cases hu; done))
  obtain ⟨h1, _, _, h4⟩ := mH _ _ _ hu
  exact ⟨h1, h4⟩
theorem Sim.of_get {h h' : Hp} (e : h'.next = h.next) (g : ∀ b o, h.bl.get b = some o → h'.bl.get b = some o) : Sim true h h' := ⟨e, fun b o hb => ⟨o, g b o hb, lT o⟩⟩
theorem bSi (c : Pos) (h : Hp) : aZ (.p c 0) h = some (.p c 0, h) := rfl
theorem cQp (c : Pos) (h : Hp) : aB 0 (.p c 0) h = some (.p c 0, h) := rfl
theorem cVl (c : Pos) (h : Hp) : aB 4 (.p c 0) h = some (.p c 4, h) := rfl
theorem aLj (env : bA) (i : Nat) (v : DV) (j : Nat) (h : Nat.beq j i = false) : bO env (some i) v j = env j := by
 show (bif Nat.beq j i then v else env j) = _
 rw [h]; rfl
theorem bKf (env : bA) (i : Nat) (v : DV) : bO env (some i) v i = v := by
 show (bif Nat.beq i i then v else env i) = _
 rw [Nat.beq_refl]; rfl
theorem zI : ∀ cs : List DV, (∀ v ∈ cs, v.one = true) → gR cs.length cs = some cs
 | [], _ => rfl
 | c :: cs, h => by
  show (if c.one then (gR cs.length cs).map (c :: ·) else none) = _
  rw [if_pos (h c (by simp)), zI cs fun v hv => h v (by simp [hv])]
  rfl
theorem bBa {cs : List DV} (h4 : cs.length = 4) (ho : ∀ v ∈ cs, v.one = true) (p n : Pos) (t : Tr Ob) : qK 4 (.l p 0 1 1) ⟨n, Tr.set (.row .ex cs) p t⟩ = some (1, cs) := by
 have e : cellsAt p 0 (1 * 4) ⟨n, Tr.set (.row .ex cs) p t⟩ = some cs := by
  unfold cellsAt rowOf
  simp only [dNc, List.drop_zero]
  rw [show 1 * 4 = cs.length by rw [h4]]
  exact zI cs ho
 simp only [qK, e]
theorem bOs {h h' : Hp} {n o : Nat} {q : Pos} {v : DV} (hg : h'.bl.get q = h.bl.get q) (e : aK n (.p q o) h = some (v, h)) : aK n (.p q o) h' = some (v, h') := by
 have e1 : cellsAt q o n h' = cellsAt q o n h := by
  unfold cellsAt rowOf
  rw [hg]
 change (match cellsAt q o n h with
  | some cs => some (DV.a cs, h)
  | none => none) = _ at e
 show (match cellsAt q o n h' with
  | some cs => some (DV.a cs, h')
  | none => none) = _
 rw [e1]
 split at e <;> (try (cases e; done))
 simp only [bC, bP] at e
 rw [e.1]
structure Way (g3 h5 : Hp) (c q : Pos) (l1 l2 n u : DV) (cs : List DV) (k3 k4 : Hp) (env : bA) : Prop where
 fr : oG g3
 af : After g3 h5
 hl : aA (.p c 4) g3 = some (l1, g3)
 hx : aK 4 (.p q 0) g3 = some (.a cs, g3)
 ne : c ≠ q
 hn : cB l1 g3 = some (n, g3)
 ap : kB q l1 cs ⟨g3.next.succ.succ, g3.bl⟩ = some (l2, k3)
 st : aI 1 (.p c 4) l2 k3 = some (u, k4)
 e0 : env 0 = .p c 0
 e3 : env 3 = .p q 0
 e5 : env 5 = n
section
theorem Way.up {g3 h5 : Hp} {c q : Pos} {l1 l2 n u : DV} {cs : List DV} {k3 k4 : Hp} {env : bA} (W : Way g3 h5 c q l1 l2 n u cs k3 k4 env) : ∀ b o, g3.bl.get b = some o → h5.bl.get b = some o := fun b o hb => by
 rw [W.af.get b (fun e => ?_)]
 ·exact hb
 ·subst e; exact Nat.lt_irrefl _ (W.fr _ _ hb)
theorem Way.c5 {g3 h5 : Hp} {c q : Pos} {l1 l2 n u : DV} {cs : List DV} {k3 k4 : Hp} {env : bA} (W : Way g3 h5 c q l1 l2 n u cs k3 k4 env) (n' : Pos) : aA (.p c 4) ⟨n', h5.bl⟩ = some (l1, ⟨n', h5.bl⟩) := bTj W.up W.hl
theorem Way.q5 {g3 h5 : Hp} {c q : Pos} {l1 l2 n u : DV} {cs : List DV} {k3 k4 : Hp} {env : bA} (W : Way g3 h5 c q l1 l2 n u cs k3 k4 env) (n' : Pos) : aK 4 (.p q 0) ⟨n', h5.bl⟩ = some (.a cs, ⟨n', h5.bl⟩) := bRk W.up W.hx
theorem Way.len {g3 h5 : Hp} {c q : Pos} {l1 l2 n u : DV} {cs : List DV} {k3 k4 : Hp} {env : bA} (W : Way g3 h5 c q l1 l2 n u cs k3 k4 env) (h : Hp) : cB l1 h = some (n, h) := (zC (nM l1) W.hn).2 h
theorem Way.base {g3 h5 : Hp} {c q : Pos} {l1 l2 n u : DV} {cs : List DV} {k3 k4 : Hp} {env : bA} (W : Way g3 h5 c q l1 l2 n u cs k3 k4 env) (o : Ob) : Sim true ⟨g3.next.succ.succ, g3.bl⟩ ⟨h5.next.succ, Tr.set o h5.next h5.bl⟩ := Sim.of_get (by rw [W.af.next]) fun b ob hb => by
 show (Tr.set o h5.next h5.bl).get b = _
 rw [dNb, W.up b ob hb]
 intro e
 have h1 := W.fr b ob hb
 have s1 := dNd g3.next
 rw [e, W.af.next] at h1
 omega
theorem Way.app {g3 h5 : Hp} {c q : Pos} {l1 l2 n u : DV} {cs : List DV} {k3 k4 : Hp} {env : bA} (W : Way g3 h5 c q l1 l2 n u cs k3 k4 env) {hh : Hp} (S : Sim true ⟨g3.next.succ.succ, g3.bl⟩ hh) {y : DV} (hy : qK 4 y hh = some (1, cs)) : ∃ k', aY 4 56 l1 y hh = some (l2, k') ∧ ∃ k'', aI 1 (.p c 4) l2 k' = some (u, k'') ∧ Sim true k4 k'' := by
 obtain ⟨k', h1, h2⟩ := aZy S hy W.ap
 obtain ⟨k'', h3, h4⟩ := lJ 1 _ _ _ _ h2 _ _ W.st
 exact ⟨k', h1, k'', h3, h4⟩
theorem Way.one {g3 h5 : Hp} {c q : Pos} {l1 l2 n u : DV} {cs : List DV} {k3 k4 : Hp} {env : bA} (W : Way g3 h5 c q l1 l2 n u cs k3 k4 env) : cs.length = 4 ∧ ∀ v ∈ cs, v.one = true := by
 obtain ⟨_, _, cs', e, h1, h2⟩ := sC W.hx
 cases e
 exact ⟨h1, h2⟩
theorem Way.B {g3 h5 : Hp} {c q : Pos} {l1 l2 n u : DV} {cs : List DV} {k3 k4 : Hp} {env : bA} (W : Way g3 h5 c q l1 l2 n u cs k3 k4 env) {X : Nat → bA → Hp → Prop} {R N : bA → Hp → Prop} (hN : ∀ env' h', env' 5 = n → Sim true k4 h' → N env' h') : rO CF0 (fnD CF0 60) 49 (.region 7 (fM (cR (cR (cR (cL (cR (cL (cR (cR (cf Tryz.f214)))))))))) true) X R N env h5 := by
 obtain ⟨k', h1, k'', h2, h3⟩ := W.app (W.base (.row .ex cs)) (bBa W.one.1 W.one.2 h5.next h5.next.succ h5.bl)
 have fl : bL (cF 0 h5.next) [(.i .i64 (Int.ofNat 0)), (.s []), (.i .i64 (Int.ofNat 0)), .l0] 1 [(0, 4, .a cs)] ⟨h5.next.succ, h5.bl⟩ = some (.l h5.next 0 1 1, ⟨h5.next.succ, Tr.set (.row .ex cs) h5.next h5.bl⟩) := by
  simp only [bL, jK, dC, W.one.1]
  simp [cF]
 refine dIc dBp ?_
 rw [rg7]
 simp only [W.e0, W.e3, bSi, aO, cQp, cVl, show resv 1 h5 = ⟨h5.next.succ, h5.bl⟩ from rfl, W.c5, W.q5, fl, h1, h2]
 refine tN fun _ => hN _ _ ?_ h3
 simp only [aLj, Nat.beq]
 exact W.e5
theorem Way.A {g3 h5 : Hp} {c q : Pos} {l1 l2 n u : DV} {cs : List DV} {k3 k4 : Hp} {env : bA} (W : Way g3 h5 c q l1 l2 n u cs k3 k4 env) {X : Nat → bA → Hp → Prop} {R N : bA → Hp → Prop} (hN : ∀ env' h', env' 5 = n → Sim true k4 h' → N env' h') : rO CF0 (fnD CF0 60) 49 (.seq (.region 5 (fM (cL (cL (cR (cR (cL (cR (cL (cR (cR (cf Tryz.f214))))))))))) false)
  (.region 6 (fM (cR (cL (cR (cR (cL (cR (cL (cR (cR (cf Tryz.f214))))))))))) false)) X R N env h5 := by
 obtain ⟨m, old, t, hl2, hm, hol, hoo, hk3, htq, htd, hz⟩ := bGj W.ap
 have hzz := hz [.i .i64 (Int.ofNat 0), .s [], .i .i64 (Int.ofNat 0), .l0]
 have hn : n = .i .i64 (m : Int) := by
  have e1 := W.len g3
  rw [hm] at e1
  simp only [bC, bP, and_true] at e1
  exact e1.symm
 dsimp only at hl2 hk3 htq htd hzz
 obtain ⟨_, uc, huc⟩ := rJ W.hl
 have hcs : c ≠ g3.next.succ.succ := fun e => by
  have h1 := W.fr _ _ huc
  have s1 := dNd g3.next
  have s2 := dNd g3.next.succ
  rw [e] at h1
  omega
 obtain ⟨_, ⟨uq, huq⟩, _⟩ := sC W.hx
 have hqs : q ≠ g3.next.succ.succ := fun e => by
  have h1 := W.fr _ _ huq
  have s1 := dNd g3.next
  have s2 := dNd g3.next.succ
  rw [e] at h1
  omega
 have hst := W.st
 rw [hk3] at hst
 have hst2 : ∃ kd l l', t.get c = some (.row kd l) ∧ k4 = ⟨g3.next.succ.succ.succ, Tr.set (.row kd l') c (Tr.set (.row (.gr 4) (old ++ cs)) g3.next.succ.succ t)⟩ ∧
   ∀ zs, aI 1 (.p c 4) l2 ⟨g3.next.succ.succ.succ, Tr.set (.row (.gr 4) zs) g3.next.succ.succ t⟩ = some (u, ⟨g3.next.succ.succ.succ, Tr.set (.row kd l') c (Tr.set (.row (.gr 4) zs) g3.next.succ.succ t)⟩) := by
  rw [hl2] at hst ⊢
  simp only [aI, dC, List.length_singleton, if_true, cU, dNb _ _ _ _ hcs] at hst ⊢
  cases htc : t.get c with
  | none => rw [htc] at hst; cases hst
  | some o =>
   rw [htc] at hst
   cases o with
   | row kd l =>
    dsimp only at hst ⊢
    cases hw : kd.writable with
    | false => rw [hw] at hst; cases hst
    | true =>
     rw [hw, if_pos rfl] at hst
     cases hp : fL 4 l [.l g3.next.succ.succ 0 (m + 1) (m + 1)] with
     | none => rw [hp] at hst; cases hst
     | some l' =>
      rw [hp] at hst
      simp only [bC, bP] at hst
      exact ⟨kd, l, l', rfl, hst.2.symm, fun zs => by simp only [hw, if_true, hp, hst.1]⟩
   | it s p => cases hst
   | mp es => cases hst
   | big n t => cases hst
   | mi t => cases hst
 obtain ⟨kd, l, l', htc, hk4, hstz⟩ := hst2
 obtain ⟨k6, h6, S6⟩ := aZy (W.base (.row .ex [.i .i64 (Int.ofNat 0), .s [], .i .i64 (Int.ofNat 0), .l0])) (bBa rfl (by simp [DV.one]) h5.next h5.next.succ h5.bl) hzz
 obtain ⟨k7, h7, S7⟩ := lJ 1 _ _ _ _ S6 _ _ (hstz _)
 have hqz := bOs (h' := ⟨g3.next.succ.succ.succ, Tr.set (.row kd l') c (Tr.set (.row (.gr 4) (old ++ [.i .i64 (Int.ofNat 0), .s [], .i .i64 (Int.ofNat 0), .l0])) g3.next.succ.succ t)⟩) (by
  show (Tr.set _ c (Tr.set _ _ t)).get q = _
  rw [dNb _ _ _ _ (Ne.symm W.ne), dNb _ _ _ _ hqs, htq]) W.hx
 obtain ⟨k8, h8, S8⟩ := lF 4 _ _ _ S7 _ _ hqz
 have hfin : aI 4 (.p g3.next.succ.succ (0 + m * 4)) (.a cs) ⟨g3.next.succ.succ.succ, Tr.set (.row kd l') c (Tr.set (.row (.gr 4) (old ++ [.i .i64 (Int.ofNat 0), .s [], .i .i64 (Int.ofNat 0), .l0])) g3.next.succ.succ t)⟩ =
   some (aU, ⟨g3.next.succ.succ.succ, Tr.set (.row (.gr 4) (old ++ cs)) g3.next.succ.succ (Tr.set (.row kd l') c (Tr.set (.row (.gr 4) (old ++ [.i .i64 (Int.ofNat 0), .s [], .i .i64 (Int.ofNat 0), .l0])) g3.next.succ.succ t))⟩) := by
  have hp := aXm old [.i .i64 (Int.ofNat 0), .s [], .i .i64 (Int.ofNat 0), .l0] cs (by rw [W.one.1]; rfl) (by simp [DV.one]) W.one.2
  simp only [aI, dC, W.one.1, if_true, cU, dNb _ _ _ _ (Ne.symm hcs), dNc, Kind.writable, Nat.zero_add, ← hol, hp]
 obtain ⟨k9, h9, S9⟩ := lJ 4 _ _ _ _ S8 _ _ hfin
 have S10 : Sim true k4 k9 := by
  refine Sim.trans ?_ S9
  rw [hk4]
  refine Sim.of_get rfl fun b o hb => ?_
  change (Tr.set (.row kd l') c (Tr.set _ g3.next.succ.succ t)).get b = some o at hb
  show (Tr.set _ g3.next.succ.succ (Tr.set (.row kd l') c (Tr.set _ g3.next.succ.succ t))).get b = some o
  by_cases e1 : b = g3.next.succ.succ
  ·rw [e1] at hb ⊢
   rw [dNb _ _ _ _ (Ne.symm hcs), dNc] at hb
   rw [dNc, hb]
  ·rw [dNb _ _ _ _ e1]
   by_cases e2 : b = c
   ·rw [e2] at hb ⊢
    rw [dNc] at hb ⊢
    exact hb
   ·rw [dNb _ _ _ _ e2, dNb _ _ _ _ e1] at hb ⊢
    exact hb
 have fl : aN [(.i .i64 (Int.ofNat 0)), (.s []), (.i .i64 (Int.ofNat 0)), .l0] 1 [(0, 4, (.a [(.i .i64 (Int.ofNat 0)), (.s []), (.i .i64 (Int.ofNat 0)), .l0]))] h5 = some (.l h5.next 0 1 1, ⟨h5.next.succ, Tr.set (.row .ex [.i .i64 (Int.ofNat 0), .s [], .i .i64 (Int.ofNat 0), .l0]) h5.next h5.bl⟩) := by
  simp [aN, jK, dC]
 refine wpS (aRo ?_)
 rw [rg5]
 have c5 : aA (.p c 4) h5 = some (l1, h5) := W.c5 h5.next
 have ix : aE 4 l2 n k8 = some (.p g3.next.succ.succ (0 + m * 4), k8) := by
  rw [hl2, hn]
  show (if (0 : Int) ≤ (m : Int) ∧ (m : Int) < ((m + 1 : Nat) : Int) then some (DV.p g3.next.succ.succ (0 + (m : Int).toNat * 4), k8) else none) = _
  rw [if_pos (by omega)]
  simp
 simp only [W.e0, W.e3, bSi, aO, cQp, cVl, c5, W.len, fl, h6, h7]
 refine tN fun _ => aRo ?_
 rw [rg6]
 simp only [aLj, bKf, Nat.beq, W.e3, h8, aO, ix, h9]
 refine tN fun _ => hN _ _ ?_ S10
 simp only [aLj, Nat.beq]
 exact W.e5
end
theorem cLr {h h1 : Hp} {c q : Pos} {v : DV} (hr : sL c q h = some (v, h1)) (hf : oG h) {env : bA} (e0 : env 0 = .p c 0) (e3 : env 3 = .p q 0)
  {X : Nat → bA → Hp → Prop} {R N : bA → Hp → Prop} (hN : ∀ env' h', env' 5 = v → Sim true h1 h' → N env' h') :
  rO CF0 (fnD CF0 60) 49 (.seq (.region 3 (fM (cL (cL (cR (cL (cR (cR (cf Tryz.f214)))))))) false) (.seq (.region 4 R4 true) (.cond (.tmp 22)
   (.seq (.region 5 (fM (cL (cL (cR (cR (cL (cR (cL (cR (cR (cf Tryz.f214))))))))))) false) (.region 6 (fM (cR (cL (cR (cR (cL (cR (cL (cR (cR (cf Tryz.f214))))))))))) false))
   (.region 7 (fM (cR (cR (cR (cL (cR (cL (cR (cR (cf Tryz.f214)))))))))) true)))) X R N env h := by
 unfold sL at hr
 obtain ⟨l1, g1, hl1, hr⟩ := dI hr
 obtain ⟨n, g2, hn, hr⟩ := dI hr
 obtain ⟨x, g3, hx, hr⟩ := dI hr
 obtain ⟨rfl, uc, huc⟩ := rJ hl1
 have hn0 := hn
 obtain ⟨rfl, hn⟩ := zC (nM l1) hn
 obtain ⟨rfl, ⟨uq, huq⟩, cs, rfl, hcl, hco⟩ := sC hx
 dsimp only at hr
 cases hcq : mV c q with
 | true => rw [hcq] at hr; cases hr
 | false =>
 rw [hcq] at hr
 have hcq' : c ≠ q := aVs hcq
 simp only [cnd, Bool.not_false] at hr
 obtain ⟨l2, k3, ha, hr⟩ := dI hr
 obtain ⟨u, k4, hs, hr⟩ := dI hr
 simp only [bC, bP] at hr
 obtain ⟨rfl, rfl⟩ := hr
 refine wpS (aRo ?_)
 rw [rg3]
 rw [show aZ (env 0) g3 = some (.p c 0, g3) from by rw [e0]; rfl]
 show ∃ r, bnd (aA (.p c 4) g3) _ = some r
 rw [hl1]
 show ∃ r, bnd (cB l1 g3) _ = some r
 rw [hn0, aO]
 refine tN fun _ => ?_
 refine wpS (dHp (dHy fun x h5 A F5 => ?_))
 have W : Way g3 h5 c q l1 l2 n u cs k3 k4 (bO (bO (bO (bO (bO (bO (bO (bO (bO env (some 15) (env 0)) (some 16) (DV.p c 0)) (some 17) (DV.p c (0 + 0))) (some 18) (DV.p c (0 + 0 + 4))) (some 19) l1) (some 20) n) (some 5) n) (some 21) (DV.p g3.next 0)) (some 22) (DV.b x)) :=
  ⟨hf, A, hl1, hx, hcq', hn0, ha, hs, e0, e3, rfl⟩
 refine wpC (t := x) rfl ⟨fun _ => ?_, fun _ => ?_⟩
 ·exact W.A hN
 ·exact W.B hN
theorem bCk (c : Pos) (lit : List DV) (h : Hp) : bU (aJ [.p c 0, .a lit] 1) h = some (.p h.next 0, ⟨h.next.succ, Tr.set (.row .ex lit) h.next h.bl⟩) := rfl
theorem cUj (G : Gd) : hZ Tryz.prog G 214 mQ := by
 refine cYp (C := CF0) (rec := fnD CF0 60) KC0 Try_ok dGo cBo fun args h v h1 hr hf => ?_
 unfold mQ at hr
 split at hr <;> (try (cases hr; done))
 rename_i c lit
 obtain ⟨vb, hb, h0, hr⟩ := dI hr
 simp only [bY, bC, bP] at h0
 obtain ⟨rfl, rfl⟩ := h0
 obtain ⟨ls, h2, hl, hr⟩ := dI hr
 obtain ⟨rfl, _⟩ := rJ hl
 obtain ⟨i, h3, hi, hr⟩ := dI hr
 obtain ⟨tt, h4, ht, hif⟩ := dI hr
 clear hr
 obtain ⟨rfl, hlt⟩ := zC (xX _ _ _) ht
 rw [dCi, dEm]
 refine wpS (aRo ?_)
 rw [rg0, bCk, aO]
 refine tN fun _ => ?_
 refine wpS (aRo ?_)
 rw [rg1]
 simp only [aLj, bKf, Nat.beq, show aJ [.p c 0, .a lit] 0 = .p c 0 from rfl, bSi, aO, cQp, cVl, hl, hi]
 refine tN fun F4 => ?_
 refine wpS (wpS (aRo ?_))
 rw [rg2]
 simp only [aLj, bKf, Nat.beq, ht, aO]
 refine tN fun _ => ?_
 unfold aX at hif
 split at hif <;> (try (cases hif; done))
 ·refine wpC (t := true) rfl ⟨fun _ => ?_, fun e => (by cases e)⟩
  refine cLr hif F4 ?_ ?_ ?_
  ·rfl
  ·rfl
  ·intro env' h' e5 S
   exact aYi e5 S
 ·simp only [bC, bP] at hif
  obtain ⟨rfl, rfl⟩ := hif
  refine wpC (t := false) rfl ⟨fun e => (by cases e), fun _ => ?_⟩
  exact aYi rfl (Sim.refl _)
end Go.Dd

namespace Go.Dd
open Go.Proofs
theorem cCl : (itm.ops.toList.all fS) = true := by kernel_rfl
theorem bId : Tryz.f162.body = some itm.code := by kernel_rfl
theorem cQk : ItOk Tryz.prog itm where
 pre := by kernel_rfl
 test := by kernel_rfl
 after := by kernel_rfl
 post := by kernel_rfl
 step := by kernel_rfl
 ops := List.all_eq_true.1 cCl
 dst := by kernel_rfl
 guard := by kernel_rfl
 op := ⟨#[3], by kernel_rfl⟩
 fn := ⟨Tryz.f162, Tryz.func162, bId, by kernel_rfl, by kernel_rfl, by kernel_rfl⟩
theorem dLa : gO (cf Tryz.f95) = true := by kernel_rfl
theorem dFh : gO (cf Tryz.f287) = true := by kernel_rfl
theorem bAy {fn : Func} {c : Code} (h : fn.body = some c) : cf fn = c := by unfold cf; rw [h]
theorem cYk (f : FuncId) (hf : zJ f = true) (fn : Func) (c : Code) (h1 : Tryz.prog.funcs[f]? = some fn) (h2 : fn.body = some c) : gO c = true := by
 unfold zJ at hf
 simp only [Bool.or_eq_true] at hf
 rcases hf with hf | hf <;> (have e := Nat.eq_of_beq_eq_true hf; subst e)
 ·rw [Tryz.func95] at h1
  cases h1
  rw [← bAy h2]
  exact dLa
 ·rw [Tryz.func287] at h1
  cases h1
  rw [← bAy h2]
  exact dFh
end Go.Dd

namespace Go.Dd
open Go.Proofs Go.Lib Go.RowKit
theorem aJy (c : Nat) (hc : c < 256) : ∀ (l : List UInt8) (i : Nat), aJt c (l.map (·.toNat)) i = if indexByte l c.toUInt8 = -1 then -1 else indexByte l c.toUInt8 + i
 | [], i => rfl
 | b :: l, i => by
  have hb : Nat.beq b.toNat c = (b == c.toUInt8) := by
   rw [Bool.eq_iff_iff]
   constructor
   ·intro h
    have := Nat.eq_of_beq_eq_true h
    simp [← this]
   ·intro h
    have h2 : b = c.toUInt8 := by simpa using h
    rw [h2]
    have : (c.toUInt8).toNat = c := by simp [Nat.toUInt8]; omega
    rw [this]; simp
  show (bif Nat.beq b.toNat c then Int.ofNat i else aJt c (l.map (·.toNat)) (i + 1)) = _
  rw [hb]
  unfold indexByte
  cases h : (b == c.toUInt8) with
  | true => simp
  | false =>
   have ih := aJy c hc l (i + 1)
   have hge := indexByte_ge l c.toUInt8
   simp only [cond_false, Bool.false_eq_true, if_false]
   rw [ih]
   by_cases h1 : indexByte l c.toUInt8 = -1
   ·simp [h1]
   ·simp only [h1, if_false, beq_iff_eq]
    rw [if_neg (by omega)]
    omega
theorem cSo (G : Gd) : hZ Tryz.prog G 229 mU := by
 intro args h v h1 hr ρ w args' H hargs
 unfold mU at hr
 split at hr <;> (try (cases hr; done))
 rename_i l c
 cases hc : Nat.blt c 256 with
 | false => rw [hc] at hr; cases hr
 | true =>
  rw [hc] at hr
  have hc' : c < 256 := by simpa using hc
  simp only [cond_true, bC, bP] at hr
  obtain ⟨rfl, rfl⟩ := hr
  obtain ⟨a⟩ := args'
  cases hargs with
  | cons x x' l1 l1' hx hxs =>
  cases hxs with
  | cons y y' l2 l2' hy hys =>
  cases hys
  cases hx with
  | s l bs hbs =>
  cases hy with
  | i k n =>
  refine .inr ⟨ρ, w, .int .i64 (indexByte bs.data.toList c.toUInt8), ?_, Ex.refl _ _, ?_, H, Kp.refl _ _⟩
  ·rw [run_callFunc_extern (fn := Tryz.f229) (e := Extern.BytealgIndexByte.indexByte) (by kernel_rfl) (by kernel_rfl) (by kernel_rfl) (by kernel_rfl) (by kernel_rfl)]
   rw [run_indexByteString bs (Int.ofNat c) w]
   rfl
  ·have e := aJy c hc' bs.data.toList 0
   rw [hbs] at e
   have e2 : aJt c l 0 = indexByte bs.data.toList c.toUInt8 := by
    rw [e]
    split
    ·rename_i h; exact h.symm
    ·simp
   rw [e2]
   exact .i _ _
theorem pW (G : Gd) (g : FuncId) (F : List DV → Hp → aH) (h : CF1.I g = some F) : hZ CF1.P G g F := by
 have e : CF1.I g = bif Nat.beq g 229 then some mU else bif Nat.beq g 214 then some mQ else none := rfl
 rw [e] at h
 cases hg : Nat.beq g 229 with
 | true => rw [hg] at h; cases h; cases Nat.eq_of_beq_eq_true hg; exact cSo G
 | false =>
 rw [hg, cond_false] at h
 cases hg : Nat.beq g 214 with
 | true => rw [hg] at h; cases h; cases Nat.eq_of_beq_eq_true hg; exact cUj G
 | false => rw [hg] at h; cases h
theorem xM (n : Nat) (G : Gd) (f : FuncId) : hZ Tryz.prog G f (fG CF1 n f) := bNi (C := CF1) Try_ok pW cQk cYk n G f
end Go.Dd

namespace Go.Dd
open Go.RowKit (Below)
theorem HR.later {G : Gd} {ρ : cM} {h : Hp} {w w' : World} (H : HR G ρ h w) (e : Below w.heap.size w w') : HR G ρ h w' where
 gl := fun k hk => (e.block k (Nat.lt_of_lt_of_le hk H.sz.1)).trans (H.gl k hk)
 sz := ⟨Nat.le_trans H.sz.1 e.size, fun k hk => Nat.lt_of_lt_of_le (H.sz.2 k hk) e.size⟩
 nx := H.nx
 ro := H.ro
 dom := H.dom
 lt := H.lt
 cell := fun b k l L i v h1 h2 h3 h4 => by
  obtain ⟨v', h5, h6⟩ := H.cell b k l L i v h1 h2 h3 h4
  exact ⟨v', by rw [e.cell (eA h5)]; exact h5, h6⟩
 spare := fun b l L es j h1 h2 h3 => by
  obtain ⟨v', h5⟩ := H.spare b l L es j h1 h2 h3
  exact ⟨v', by rw [e.cell (eA h5)]; exact h5⟩
 free := fun b a h1 h2 => by
  obtain ⟨v, hv⟩ := H.lt_cell h1
  rw [e.frozen (eA hv)]
  exact H.free b a h1 h2
 inj := H.inj
 ex := H.ex
 grone := H.grone
 itr := fun b o L h1 h2 h3 => by
  obtain ⟨a, b, x, c, d⟩ := H.itr b o L h1 h2 h3
  refine ⟨a, b, x, ?_, d⟩
  rw [e.block _ (Array.getElem?_eq_some_iff.1 c).1]
  exact c
 itj := H.itj
theorem Kp.later {G : Gd} {ρ : cM} {h : Hp} {w w' : World} (H : HR G ρ h w) (e : Below w.heap.size w w') : Kp G w w' :=
 ⟨e.mono H.sz.1, fun k hk => e.block k (H.sz.2 k hk)⟩
def lN (ρ ρ2 : cM) : cM := fun b => match ρ b with
 | some L => some L
 | none => ρ2 b
section
variable {G G2 : Gd} {ρ ρ2 : cM} {h g : Hp} {w w' : World} {J : Tr Ob}
theorem HR.join (H : HR G ρ h w) (hb : Below w.heap.size w w') (H2 : HR G2 ρ2 g w') (hG2 : G2.B = w.heap.size) (low : ∀ b L, ρ2 b = some L → h.next.toNat ≤ b.toNat)
  (hk : ∀ b o, g.bl.get b = some o → o.sg = true ∨ ∃ l, o = .row .ex l) (hn : h.next.toNat ≤ g.next.toNat)
  (hJ : ∀ b, J.get b = match h.bl.get b with
   | some o => some o
   | none => g.bl.get b) : HR G (lN ρ ρ2) ⟨g.next, J⟩ w' ∧ Ex G ρ (lN ρ ρ2) ∧ Ext ρ2 (lN ρ ρ2) := by
 have H' := H.later hb
 have e1 : Ext ρ (lN ρ ρ2) := fun b L hL => by unfold lN; rw [hL]
 have no : ∀ b, h.next.toNat ≤ b.toNat → ρ b = none := fun b hb => by
  cases e : ρ b with
  | none => rfl
  | some L => have := H.lt b L e; omega
 have e2 : Ext ρ2 (lN ρ ρ2) := fun b L hL => by unfold lN; rw [no b (low b L hL)]; exact hL
 have two : ∀ b o, J.get b = some o → (h.bl.get b = some o ∧ ∃ L, ρ b = some L ∧ lN ρ ρ2 b = some L) ∨ (g.bl.get b = some o ∧ ∃ L, ρ2 b = some L ∧ lN ρ ρ2 b = some L) := fun b o ho => by
  rw [hJ] at ho
  cases hh : h.bl.get b with
  | some o' =>
   rw [hh] at ho
   cases ho
   obtain ⟨L, hL⟩ := H.dom b _ hh
   exact .inl ⟨rfl, L, hL, e1 _ _ hL⟩
  | none =>
   rw [hh] at ho
   obtain ⟨L, hL⟩ := H2.dom b o ho
   exact .inr ⟨ho, L, hL, e2 _ _ hL⟩
 have cl : ∀ {b a}, Claims (lN ρ ρ2) ⟨g.next, J⟩ b a → (Claims ρ h b a ∧ ∀ l, J.get b = some (.row .ro l) → h.bl.get b = some (.row .ro l)) ∨ (Claims ρ2 g b a ∧ ¬ isRo g b ∧ ∀ l, J.get b ≠ some (.row .ro l)) := by
  rintro b a ⟨k, l, L, q1, q2, q3⟩
  change J.get b = some (.row k l) at q1
  rcases two b _ q1 with ⟨c1, L', c2, c3⟩ | ⟨c1, L', c2, c3⟩
  ·have c3' := c3.symm.trans q2
   cases c3'
   exact .inl ⟨⟨k, l, L, c1, c2, q3⟩, fun l' hl' => by rw [q1] at hl'; rw [c1]; exact hl'⟩
  ·have c3' := c3.symm.trans q2
   cases c3'
   refine .inr ⟨⟨k, l, L, c1, c2, q3⟩, ?_, ?_⟩
   ·rintro ⟨l', hl'⟩
    rw [c1] at hl'
    cases hl'
    rcases hk b _ c1 with hs | ⟨_, hs⟩ <;> cases hs
   ·intro l' hl'
    rw [q1] at hl'
    cases hl'
    rcases hk b _ c1 with hs | ⟨_, hs⟩ <;> cases hs
 have old : ∀ {b a}, Claims ρ h b a → a.block < w.heap.size := fun hc => by
  obtain ⟨v, hv⟩ := H.lt_cell hc
  exact eA hv
 have own2 : ∀ {k}, Own G2 k → Own G k ∧ w.heap.size ≤ k := fun {k} ho => by
  have h1 := ho.1
  rw [hG2] at h1
  exact ⟨⟨Nat.le_trans H.sz.1 h1, fun hX => by have := H.sz.2 k hX; omega⟩, h1⟩
 refine ⟨⟨H'.gl, H'.sz, Nat.le_trans H.nx hn, ?_, ?_, ?_, ?_, ?_, ?_, ?_, ?_, ?_, ?_, ?_⟩, ⟨e1, fun b L hL => ?_⟩, e2⟩
 ·rintro b a hc ⟨l, hl⟩
  rcases cl hc with ⟨c, hr⟩ | ⟨_, _, hr⟩
  ·exact H'.ro b a c ⟨l, hr l hl⟩
  ·exact absurd hl (hr l)
 ·intro b o ho
  rcases two b o ho with ⟨_, L, _, c⟩ | ⟨_, L, _, c⟩
  ·exact ⟨L, c⟩
  ·exact ⟨L, c⟩
 ·intro b L hL
  unfold lN at hL
  cases e : ρ b with
  | some L' => have := H.lt b L' e; show b.toNat < g.next.toNat; omega
  | none => rw [e] at hL; exact H2.lt b L hL
 ·intro b k l L i v ho hL hi hv
  rcases two b _ ho with ⟨c1, L', c2, c3⟩ | ⟨c1, L', c2, c3⟩
  ·have c3' := c3.symm.trans hL
   cases c3'
   obtain ⟨v', q1, q2⟩ := H'.cell b k l L i v c1 c2 hi hv
   exact ⟨v', q1, q2.mono e1⟩
  ·have c3' := c3.symm.trans hL
   cases c3'
   obtain ⟨v', q1, q2⟩ := H2.cell b k l L i v c1 c2 hi hv
   exact ⟨v', q1, q2.mono e2⟩
 ·intro b l L es j ho hL hj
  rcases two b _ ho with ⟨c1, L', c2, c3⟩ | ⟨c1, L', c2, c3⟩
  ·have c3' := c3.symm.trans hL
   cases c3'
   exact H'.spare b l L es j c1 c2 hj
  ·have c3' := c3.symm.trans hL
   cases c3'
   exact H2.spare b l L es j c1 c2 hj
 ·intro b a hc hr
  rcases cl hc with ⟨c, hro⟩ | ⟨c, hnr, _⟩
  ·refine H'.free b a c fun ⟨l, hl⟩ => hr ⟨l, ?_⟩
   show J.get b = _
   rw [hJ, hl]
  ·obtain ⟨q1, q2⟩ := H2.free b a c hnr
   exact ⟨q1, (own2 q2).1⟩
 ·intro b b' a hc hc' hr
  rcases cl hc with ⟨c, _⟩ | ⟨c, hnr, _⟩
  ·rcases cl hc' with ⟨c', _⟩ | ⟨c', hnr', _⟩
   ·refine H'.inj b b' a c c' fun ⟨l, hl⟩ => hr ⟨l, ?_⟩
    show J.get b = _
    rw [hJ, hl]
   ·have h1 := old c
    have h2 := (own2 (H2.free b' a c' hnr').2).2
    omega
  ·rcases cl hc' with ⟨c', _⟩ | ⟨c', hnr', _⟩
   ·have h1 := old c'
    have h2 := (own2 (H2.free b a c hnr).2).2
    omega
   ·exact H2.inj b b' a c c' hnr
 ·intro b l L ho hL
  have key : ∀ o, J.get b = some o → (o = .row .ro l ∨ o = .row .ex l) → L.sp = 0 := fun o ho' hor => by
   rcases two b o ho' with ⟨c1, L', c2, c3⟩ | ⟨c1, L', c2, c3⟩
   ·have c3' := c3.symm.trans hL
    cases c3'
    rcases hor with rfl | rfl
    ·exact H'.ex b l L (.inl c1) c2
    ·exact H'.ex b l L (.inr c1) c2
   ·have c3' := c3.symm.trans hL
    cases c3'
    rcases hor with rfl | rfl
    ·exact H2.ex b l L (.inl c1) c2
    ·exact H2.ex b l L (.inr c1) c2
  rcases ho with ho | ho
  ·exact key _ ho (.inl rfl)
  ·exact key _ ho (.inr rfl)
 ·intro b es l i v ho hi
  rcases two b _ ho with ⟨c1, _⟩ | ⟨c1, _⟩
  ·exact H'.grone b es l i v c1 hi
  ·exact H2.grone b es l i v c1 hi
 ·intro b o L h0 ho hL
  rcases two b o ho with ⟨c1, L', c2, c3⟩ | ⟨c1, L', c2, c3⟩
  ·have c3' := c3.symm.trans hL
   cases c3'
   obtain ⟨q1, q2, x, q3, q4⟩ := H'.itr b o L h0 c1 c2
   exact ⟨q1, q2, x, q3, q4.mono e1⟩
  ·have c3' := c3.symm.trans hL
   cases c3'
   obtain ⟨q1, q2, x, q3, q4⟩ := H2.itr b o L h0 c1 c2
   exact ⟨(own2 q1).1, q2, x, q3, q4.mono e2⟩
 ·intro b o b' o' L L' h0 h0' ho ho' hL hL' he
  have lo : ∀ {b o L}, o.sg = true → h.bl.get b = some o → ρ b = some L → L.bl < w.heap.size := fun {b o L} s1 s2 s3 => by
   obtain ⟨_, _, x, q, _⟩ := H.itr b o L s1 s2 s3
   exact (Array.getElem?_eq_some_iff.1 q).1
  rcases two b o ho with ⟨c1, K, c2, c3⟩ | ⟨c1, K, c2, c3⟩ <;> (have c3' := c3.symm.trans hL; cases c3') <;>
   rcases two b' o' ho' with ⟨d1, K', d2, d3⟩ | ⟨d1, K', d2, d3⟩ <;> (have d3' := d3.symm.trans hL'; cases d3')
  ·exact H'.itj b o b' o' L L' h0 h0' c1 d1 c2 d2 he
  ·have q1 := lo h0 c1 c2
   have q2 := (own2 (H2.itr b' o' L' h0' d1 d2).1).2
   omega
  ·have q1 := lo h0' d1 d2
   have q2 := (own2 (H2.itr b o L h0 c1 c2).1).2
   omega
  ·exact H2.itj b o b' o' L L' h0 h0' c1 d1 c2 d2 he
 ·unfold lN at hL
  cases e : ρ b with
  | some L' => rw [e] at hL; exact .inl hL
  | none =>
   rw [e] at hL
   exact .inr (Nat.le_trans H.nx (low b L hL))
end
end Go.Dd

namespace Go.Dd
open Go.Proofs Go.RowKit
def gdS (w : World) (N : Nat) : Gd := ⟨w.heap.size, fun _ => False, N, w.heap, fun _ _ => trivial⟩
theorem HR.empty (w : World) (N : Nat) (p : Pos) (hN : N ≤ p.toNat) : HR (gdS w N) (fun _ => none) ⟨p, .e⟩ w := by
 constructor
 ·exact fun _ _ => rfl
 ·exact ⟨Nat.le_refl _, fun _ h => h.elim⟩
 ·exact hN
 ·rintro b a ⟨k, l, L, _, h2, _⟩; cases h2
 ·intro b o h; cases b <;> cases h
 ·intro b L h; cases h
 ·intro b k l L i v h h2; cases h2
 ·intro b l L es j h h2; cases h2
 ·rintro b a ⟨k, l, L, _, h2, _⟩; cases h2
 ·rintro b b' a ⟨k, l, L, _, h2, _⟩; cases h2
 ·intro b l L h h2; cases h2
 ·intro b es l i v h; cases b <;> cases h
 ·intro b s pos L h h2; cases h2
 ·intro b s pos b' s' pos' L L' h h' h2; cases h2
theorem aKt {f : FuncId} {args : List DV} {F : List DV → Hp → aH} {v : DV} {g1 : Hp} (hF : ∀ G, hZ Tryz.prog G f F) (hr : F args hS = some (v, g1)) (fn : Func) (hf : Tryz.prog.funcs[f]? = some fn) (hb : fn.body.isSome = true)
  (w : World) (args' : Array Value) (hargs : VRs (fun _ => none) args args'.toList) :
  Calls Tryz.prog f args' w fun e w' => ∃ ρ' v', e = .returned v' ∧ VR ρ' v v' ∧ HR (gdS w 1024) ρ' g1 w' ∧ Below w.heap.size w w' ∧ ∀ b L, ρ' b = some L → 1024 ≤ b.toNat := by
 have hp : (aL 1).toNat = 1024 := by kernel_rfl
 have H : HR (gdS w 1024) (fun _ => none) hS w := HR.empty w 1024 (aL 1) (by rw [hp]; exact Nat.le_refl _)
 rcases hF (gdS w 1024) args hS v g1 hr _ w args' H hargs with ⟨_, h⟩ | ⟨ρ', w', v', h, _⟩
 ·refine h.mono ?_
  rintro e w' ⟨ρ', v', h1, h2, h3, h4, h5⟩
  exact ⟨ρ', v', h1, h3, h4, h5.low, fun b L hL => (h2.new b L hL).resolve_left (fun e => by cases e)⟩
 ·exfalso
  have hn : ¬ fn.name = "runtime.NumGoroutine" := by simpa using Try_ok.names f fn hf
  have hbn : fn.body ≠ none := by intro e; rw [e] at hb; cases hb
  unfold callFunc at h
  simp [hf, hn, hbn] at h
theorem nA {f : FuncId} {fn : Func} (hf : Tryz.prog.funcs[f]? = some fn) (hb : fn.body.isSome = true) (args : Array Value) (w : World) : (callFunc f args).run Tryz.prog w = .ok (.enter f args) w := by
 have hn : ¬ fn.name = "runtime.NumGoroutine" := by simpa using Try_ok.names f fn hf
 have hbn : fn.body ≠ none := by intro e; rw [e] at hb; cases hb
 unfold callFunc
 simp [hf, hn, hbn]
theorem bDr {f : FuncId} {F : List DV → Hp → aH} {r : Bool} {h1 : Hp} (hF : ∀ G, hZ Tryz.prog G f F) (hr : F [] hS = some (.b r, h1)) (fn : Func) (hf : Tryz.prog.funcs[f]? = some fn) (hb : fn.body.isSome = true) (G : Gd) :
  hZ Tryz.prog G f (fun args h => match args with
   | [] => some (.b r, h)
   | _ => none) := by
 intro args h v h2 he ρ w args' H hargs
 cases args with
 | cons _ _ => cases he
 | nil =>
  simp only [bC, bP] at he
  obtain ⟨rfl, rfl⟩ := he
  have e0 : args' = #[] := by
   obtain ⟨a⟩ := args'
   cases hargs
   rfl
  subst e0
  refine .inl ⟨nA hf hb _ _, ?_⟩
  refine (aKt hF hr fn hf hb w #[] .nil).mono ?_
  rintro e w' ⟨ρ', v', rfl, hv, _, hbel, _⟩
  cases hv
  exact ⟨ρ, _, rfl, Ex.refl _ _, .b _, H.later hbel, Kp.later H hbel⟩
theorem Sim.tf {a b c : Hp} (h : Sim true a b) (k : Sim false b c) : Sim false a c := ⟨k.next.trans h.next, fun p o hp => by
 obtain ⟨o', h1, h2⟩ := h.get p o hp
 rw [kR h2] at h1
 exact k.get p o h1⟩
theorem zY (o : Ob) : vG true o o := by cases o <;> simp [vG]
theorem dOj : Sim false hS hS := ⟨rfl, fun b o hb => by cases b <;> cases hb⟩
theorem aCo (g : FuncId) (F : List DV → Hp → aH) (hg : CF.I g = some F) (n : Nat) (args : List DV) : SimP false (F args) (bH CF1 (fG CF1 (n + 12)) g args) := by
 change (bif Nat.beq g 229 then some mU else bif Nat.beq g 214 then some mQ else aAi g) = some F at hg
 have hcall : bH CF1 (fG CF1 (n + 12)) g args = fun h => match (bif Nat.beq g 229 then some mU else bif Nat.beq g 214 then some mQ else none : Option (List DV → Hp → aH)) with
  | some F => F args h
  | none => fG CF1 (n + 12) g args h := rfl
 rw [hcall]
 cases h1 : Nat.beq g 229 with
 | true => rw [h1] at hg; cases hg; exact aHd args
 | false =>
  cases h2 : Nat.beq g 214 with
  | true => rw [h1, h2] at hg; cases hg; exact aEa args
  | false =>
   rw [h1, h2] at hg
   exact aMu g F hg n args
theorem qP {g : FuncId} (hg : CF.I g = none) : CF1.I g = none := by
 show (bif Nat.beq g 229 then some mU else bif Nat.beq g 214 then some mQ else none) = none
 change (bif Nat.beq g 229 then some mU else bif Nat.beq g 214 then some mQ else aAi g) = none at hg
 cases h1 : Nat.beq g 229 with
 | true => rw [h1] at hg; cases hg
 | false =>
  cases h2 : Nat.beq g 214 with
  | true => rw [h1, h2] at hg; cases hg
  | false => rfl
theorem aOg : ∃ g', fG CF1 912 7 [.i .i64 (.ofNat 20000)] hS = some (.t [.p (aL 7) 0, .i .i64 (.ofNat 0)], g') ∧ Sim false hN g' := by
 obtain ⟨g, h1, h2⟩ := cQn
 rw [oL] at h1
 obtain ⟨g', h3, h4⟩ := yP 900 7 [.i .i64 (.ofNat 20000)] hS hS dOj _ _ h1
 exact ⟨g', h3, h2.tf h4⟩
section known
variable {g1 : Hp} {HL : List (Pos × Ob)} {nx0 : Nat}
noncomputable def exL (g1 : Hp) (l : List (Pos × Ob)) : List (Pos × Ob) := l.map fun x => (x.1, (g1.bl.get x.1).getD x.2)
theorem aLo (l : List (Pos × Ob)) (t : Tr Ob) (b : Pos) : (eT l t).get b = match (eT l .e).get b with
  | some o => some o
  | none => t.get b := by
 induction l with
 | nil => rw [show eT [] t = t from rfl, show eT [] .e = .e from rfl, Tr.get_e]
 | cons x l ih =>
  show (Tr.set x.2 x.1 (eT l t)).get b = match (Tr.set x.2 x.1 (eT l .e)).get b with
   | some o => some o
   | none => t.get b
  by_cases e : b = x.1
  ·rw [e, dNc, dNc]
  ·rw [dNb _ _ _ _ e, dNb _ _ _ _ e]
   exact ih
theorem bGr (l : List (Pos × Ob)) (b : Pos) (o : Ob) (h : (eT l .e).get b = some o) : (b, o) ∈ l := by
 induction l with
 | nil => rw [show eT [] .e = .e from rfl, Tr.get_e] at h; cases h
 | cons x l ih =>
  change (Tr.set x.2 x.1 (eT l .e)).get b = some o at h
  by_cases e : b = x.1
  ·rw [e, dNc] at h
   cases h
   rw [e]
   exact List.mem_cons_self
  ·rw [dNb _ _ _ _ e] at h
   exact List.mem_cons_of_mem _ (ih h)
theorem nR (g1 : Hp) (l : List (Pos × Ob)) (b : Pos) : (eT (exL g1 l) .e).get b = ((eT l .e).get b).map fun o => (g1.bl.get b).getD o := by
 induction l with
 | nil => rw [show exL g1 [] = [] from rfl, show eT [] .e = .e from rfl, Tr.get_e]; rfl
 | cons x l ih =>
  show (Tr.set ((g1.bl.get x.1).getD x.2) x.1 (eT (exL g1 l) .e)).get b = ((Tr.set x.2 x.1 (eT l .e)).get b).map _
  by_cases e : b = x.1
  ·rw [e, dNc, dNc]
   rfl
  ·rw [dNb _ _ _ _ e, dNb _ _ _ _ e]
   exact ih
theorem aGg (S : Sim false (dW nx0 HL) g1) {b : Pos} {o : Ob} (h : (eT HL .e).get b = some o) : ∃ o', g1.bl.get b = some o' ∧ vG false o o' ∧ (eT (exL g1 HL) .e).get b = some o' := by
 obtain ⟨o', h1, h2⟩ := S.get b o h
 refine ⟨o', h1, h2, ?_⟩
 rw [nR, h, h1]
 rfl
noncomputable def aMw (o : Ob) : Bool := match o with
 | .row .ex _ => true
 | .mp _ => true
 | .big _ _ => true
 | .mi _ => true
 | _ => false
noncomputable def bPu (l : List (Pos × Ob)) : Bool := List.rec (motive := fun _ => Bool) true (fun x _ ih => aMw x.2 && ih) l
theorem aKp : ∀ {l : List (Pos × Ob)}, bPu l = true → ∀ x ∈ l, aMw x.2 = true
 | [], _, x, h => by cases h
 | y :: l, hl, x, h => by
  change (aMw y.2 && bPu l) = true at hl
  simp only [Bool.and_eq_true] at hl
  simp only [List.mem_cons] at h
  rcases h with rfl | h
  ·exact hl.1
  ·exact aKp hl.2 x h
theorem bBr {o o' : Ob} (hk : aMw o = true) (h : vG false o o') : o'.sg = true ∨ ∃ l, o' = .row .ex l := by
 unfold aMw at hk
 split at hk
 ·have : o' = _ := h
  exact .inr ⟨_, this⟩
 ·have : o' = _ := h
  rw [this]
  exact .inl rfl
 ·exact .inr ⟨_, h⟩
 ·obtain ⟨es, h1, _⟩ := h
  rw [h1]
  exact .inl rfl
 ·cases hk
noncomputable def sN (p : List DV → Bool) (v0 : DV) (nx0 : Nat) (HL : List (Pos × Ob)) (g1 : Hp) (args : List DV) (h : Hp) : aH :=
 bif p args && mV h.next (aL 1) then some (v0, ⟨aL nx0, eT (exL g1 HL) h.bl⟩) else none
theorem aBr (S1 : Sim false (dW nx0 HL) g1) (p : List DV → Bool) (v0 : DV) (args : List DV) : SimP false (wY p v0 nx0 HL args) (sN p v0 nx0 HL g1 args) := by
 intro h h' S
 unfold wY sN
 rw [S.next]
 cases (p args && mV h.next (aL 1)) with
 | false => exact SimR.none _
 | true =>
  intro v k e
  simp only [cond_true, bC, bP] at e
  obtain ⟨rfl, rfl⟩ := e
  refine ⟨⟨aL nx0, eT (exL g1 HL) h'.bl⟩, rfl, rfl, fun b o ho => ?_⟩
  change (eT HL h.bl).get b = some o at ho
  show ∃ o', (eT (exL g1 HL) h'.bl).get b = some o' ∧ vG false o o'
  rw [aLo] at ho ⊢
  cases hb : (eT HL .e).get b with
  | some o1 =>
   rw [hb] at ho
   cases ho
   obtain ⟨o', _, h2, h3⟩ := aGg S1 hb
   exact ⟨o', by rw [h3], h2⟩
  | none =>
   rw [hb] at ho
   rw [nR, hb]
   exact S.get b o ho
theorem aJv {f : FuncId} {F : List DV → Hp → aH} (hF : ∀ G, hZ Tryz.prog G f F) {args0 : List DV} {v0 : DV} (hr0 : F args0 hS = some (v0, g1)) (S1 : Sim false (dW nx0 HL) g1) (hk : bPu HL = true) (hnx0 : 1024 ≤ (aL nx0).toNat)
  (fn : Func) (hf : Tryz.prog.funcs[f]? = some fn) (hb : fn.body.isSome = true) {p : List DV → Bool} (hp : ∀ args, p args = true → args = args0) (h0 : ∀ ρ l, VRs ρ args0 l → VRs (fun _ => none) args0 l) (G : Gd) : hZ Tryz.prog G f (sN p v0 nx0 HL g1) := by
 intro args h v h1 hr ρ w args' H hargs
 unfold sN at hr
 cases hc : (p args && mV h.next (aL 1)) with
 | false => rw [hc] at hr; cases hr
 | true =>
  rw [hc] at hr
  simp only [cond_true, bC, bP] at hr
  obtain ⟨rfl, rfl⟩ := hr
  simp only [Bool.and_eq_true] at hc
  have ha := hp _ hc.1
  subst ha
  have hnx := mP _ _ hc.2
  have hp1 : (aL 1).toNat = 1024 := by kernel_rfl
  refine .inl ⟨nA hf hb _ _, ?_⟩
  refine (aKt hF hr0 fn hf hb w args' (h0 _ _ hargs)).mono ?_
  rintro e w' ⟨ρ2, v', rfl, hv, H2, hbel, hlow⟩
  have S2 : Sim true ⟨g1.next, eT (exL g1 HL) .e⟩ g1 := ⟨rfl, fun b o ho => by
   change (eT (exL g1 HL) .e).get b = some o at ho
   rw [nR] at ho
   cases hb : (eT HL .e).get b with
   | none => rw [hb] at ho; cases ho
   | some o1 =>
    obtain ⟨o', q1, _, q3⟩ := aGg S1 hb
    rw [nR] at q3
    rw [q3] at ho
    cases ho
    exact ⟨_, q1, zY _⟩⟩
  have hgn : g1.next = aL nx0 := S1.next
  have H3 := HR.sub S2 H2
  obtain ⟨j1, j2, j3⟩ := H.join (J := eT (exL g1 HL) h.bl) hbel H3 rfl (fun b L hL => by rw [hnx, hp1]; exact hlow b L hL) (fun b o ho => by
    change (eT (exL g1 HL) .e).get b = some o at ho
    rw [nR] at ho
    cases hb : (eT HL .e).get b with
    | none => rw [hb] at ho; cases ho
    | some o1 =>
     obtain ⟨o', q1, q2, q3⟩ := aGg S1 hb
     rw [nR] at q3
     rw [q3] at ho
     cases ho
     exact bBr (aKp hk _ (bGr _ _ _ hb)) q2) (by
    show h.next.toNat ≤ g1.next.toNat
    rw [hnx, hgn, hp1]
    exact hnx0) (fun b => by
    rw [aLo]
    cases hb : (eT (exL g1 HL) .e).get b with
    | none => cases h.bl.get b <;> rfl
    | some o =>
     cases hh : h.bl.get b with
     | none => rfl
     | some o1 =>
      exfalso
      obtain ⟨L, hL⟩ := H.dom b o1 hh
      have q1 := H.lt b L hL
      obtain ⟨L2, hL2⟩ := H3.dom b o hb
      have q2 := hlow b L2 hL2
      rw [hnx, hp1] at q1
      omega)
  rw [hgn] at j1
  exact ⟨lN ρ ρ2, v', rfl, j2, hv.mono j3, j1, Kp.later H hbel⟩
end known
noncomputable def gN1 : Hp := Classical.choose aOg
theorem bZb : fG CF1 912 7 [.i .i64 (.ofNat 20000)] hS = some (.t [.p (aL 7) 0, .i .i64 (.ofNat 0)], gN1) := (Classical.choose_spec aOg).1
theorem aUy : Sim false hN gN1 := (Classical.choose_spec aOg).2
theorem bEd : bPu HLN = true := by kernel_rfl
noncomputable def bHe : List DV → Hp → aH := sN aWm (.t [.p (aL 7) 0, .i .i64 (.ofNat 0)]) 26855 HLN gN1
theorem bGs (args : List DV) : SimP false (newK args) (bHe args) := aBr aUy _ _ _
theorem bUe (args : List DV) (h : aWm args = true) : args = [.i .i64 (.ofNat 20000)] := by
 unfold aWm at h
 split at h
 ·rw [Nat.eq_of_beq_eq_true h]
 ·cases h
theorem aYn {k : IntKind} {n : Int} (ρ : cM) (l : List Value) (h : VRs ρ [.i k n] l) : VRs (fun _ => none) [.i k n] l := by
 cases h with
 | cons _ _ _ _ q1 q2 =>
  cases q1
  cases q2
  exact .cons _ _ _ _ (.i _ _) .nil
theorem bLb (G : Gd) : hZ Tryz.prog G 7 bHe :=
 aJv (fun G => xM 912 G 7) bZb aUy bEd (by rw [show (aL 26855).toNat = 27878 from by kernel_rfl]; decide) Tryz.f7 Tryz.func7 (by kernel_rfl) bUe aYn G
noncomputable def sW : RT := fun g => bif Nat.beq g 7 then bHe else fG CF1 912 g
theorem bTk : OkC CF1 sW := by
 refine ⟨pW, fun G g => ?_⟩
 unfold sW
 cases hg : Nat.beq g 7 with
 | true => cases Nat.eq_of_beq_eq_true hg; exact bLb G
 | false => exact xM 912 G g
theorem cEy (n : Nat) (g : FuncId) (args : List DV) (h : Hp) : aRj n g args h = bif Nat.beq g 7 then newK args h else cA n g args h := rfl
theorem bYy (g : FuncId) (args : List DV) : SimP false (aRj 900 g args) (sW g args) := by
 intro h h' S
 rw [cEy]
 unfold sW
 cases hg : Nat.beq g 7 with
 | false =>
  rw [cond_false, cond_false, oL]
  exact yP 900 g args h h' S
 | true => exact bGs args h h' S
theorem HCN (g : FuncId) (args : List DV) : SimP false (bH CF (aRj 900) g args) (bH CF1 sW g args) := by
 cases hg : CF.I g with
 | none => rw [dQ hg, dQ (qP hg)]; exact bYy g args
 | some F =>
  have e : bH CF (aRj 900) g args = F args := by funext k; unfold bH; rw [hg]
  rw [e]
  have e1 : bH CF1 sW g args = bH CF1 (fG CF1 912) g args := by
   cases h10 : Nat.beq g 7 with
   | true =>
    cases Nat.eq_of_beq_eq_true h10
    exact absurd hg (by show ¬ CF.I 7 = some F; exact fun e => by cases e)
   | false =>
    funext k
    unfold bH sW
    rw [h10]
    rfl
  rw [e1]
  exact aCo g F hg 900 args
structure Ro (w : World) (ρ : cM) (h : Hp) : Prop where
 dom : ∀ b o, h.bl.get b = some o → ∃ L, ρ b = some L
 lt : ∀ b L, ρ b = some L → b.toNat < h.next.toNat
 row : ∀ b o, h.bl.get b = some o → ∃ l, o = .row .ro l
 cell : ∀ b l L i v, h.bl.get b = some (.row .ro l) → ρ b = some L → l[i]? = some v → ∃ v', w.cell? (fF L i) = some v' ∧ VR ρ v v'
 sp : ∀ b o L, h.bl.get b = some o → ρ b = some L → L.sp = 0
theorem Ro.isRo {w : World} {ρ : cM} {h : Hp} (R : Ro w ρ h) {b : Pos} {a : Addr} (c : Claims ρ h b a) : isRo h b := by
 obtain ⟨k, l, L, h1, h2, _⟩ := c
 obtain ⟨l', e⟩ := R.row b _ h1
 exact ⟨l', by rw [h1, e]⟩
theorem Ro.hr {w : World} {ρ : cM} {h : Hp} (R : Ro w ρ h) : HR (gdS w 0) ρ h w where
 gl := fun _ _ => rfl
 sz := ⟨Nat.le_refl _, fun _ hh => hh.elim⟩
 nx := Nat.zero_le _
 ro := fun b a c _ => by
  obtain ⟨k, l, L, h1, h2, h3⟩ := c
  obtain ⟨l', e⟩ := R.row b _ h1
  cases e
  rcases h3 with ⟨i, v, h4, h5, rfl⟩ | ⟨es, j, h4, _⟩
  ·obtain ⟨v', h6, _⟩ := R.cell b _ L i v h1 h2 h4
   exact eA h6
  ·cases h4
 dom := R.dom
 lt := R.lt
 cell := fun b k l L i v h1 h2 h3 h4 => by
  obtain ⟨l', e⟩ := R.row b _ h1
  cases e
  exact R.cell b _ L i v h1 h2 h3
 spare := fun b l L es j h1 => by
  obtain ⟨l', e⟩ := R.row b _ h1
  cases e
 free := fun b a c hn => absurd (R.isRo c) hn
 inj := fun b b' a c c' hn => absurd (R.isRo c) hn
 ex := fun b l L h1 h2 => by
  rcases h1 with h1 | h1
  ·exact R.sp b _ L h1 h2
  ·exact R.sp b _ L h1 h2
 grone := fun b es l i v h1 => by
  obtain ⟨l', e⟩ := R.row b _ h1
  cases e
 itr := fun b o L hs h1 _ => by
  obtain ⟨l', rfl⟩ := R.row b _ h1
  cases hs
 itj := fun b o b' o' L L' hs hs' h1 _ _ _ _ => by
  obtain ⟨l', rfl⟩ := R.row b _ h1
  cases hs
theorem Ro.none (w : World) (p : Pos) : Ro w (fun _ => none) ⟨p, .e⟩ where
 dom := fun b o h => by cases b <;> cases h
 lt := fun b L h => by cases h
 row := fun b o h => by cases b <;> cases h
 cell := fun b l L i v h => by cases b <;> cases h
 sp := fun b o L h => by cases b <;> cases h
theorem Ro.add {w : World} {ρ : cM} {h : Hp} (R : Ro w ρ h) (L : Loc) (l : List DV) (hsp : L.sp = 0)
  (hc : ∀ (i : Nat) v, l[i]? = some v → ∃ v', w.cell? (fF L i) = some v' ∧ VR ρ v v') :
  Ro w (lV ρ h.next L) ⟨h.next.succ, Tr.set (.row .ro l) h.next h.bl⟩ ∧ Ext ρ (lV ρ h.next L) := by
 have fresh : ρ h.next = Option.none := by
  cases e : ρ h.next with
  | none => rfl
  | some L' => exact absurd (R.lt _ _ e) (Nat.lt_irrefl _)
 have ext : Ext ρ (lV ρ h.next L) := fun b L' e => by
  have hb : b ≠ h.next := fun e2 => by rw [e2, fresh] at e; cases e
  rw [aS _ _ hb]; exact e
 refine ⟨?_, ext⟩
 have get : ∀ b o, (⟨h.next.succ, Tr.set (.row .ro l) h.next h.bl⟩ : Hp).bl.get b = some o → (b = h.next ∧ o = .row .ro l) ∨ (b ≠ h.next ∧ h.bl.get b = some o) := fun b o e => by
  by_cases hb : b = h.next
  ·subst hb
   rw [show ((⟨h.next.succ, Tr.set (.row .ro l) h.next h.bl⟩ : Hp).bl.get h.next) = some (.row .ro l) from dNc _ _ _] at e
   cases e
   exact .inl ⟨rfl, rfl⟩
  ·refine .inr ⟨hb, ?_⟩
   rw [← dNb (.row .ro l) h.next b h.bl hb]
   exact e
 constructor
 ·intro b o e
  rcases get b o e with ⟨rfl, _⟩ | ⟨hb, e2⟩
  ·exact ⟨L, bS _ _ _⟩
  ·rw [aS _ _ hb]; exact R.dom b o e2
 ·intro b L' e
  show b.toNat < h.next.succ.toNat
  rw [dNd]
  by_cases hb : b = h.next
  ·rw [hb]; omega
  ·rw [aS _ _ hb] at e
   have := R.lt b L' e
   omega
 ·intro b o e
  rcases get b o e with ⟨rfl, rfl⟩ | ⟨hb, e2⟩
  ·exact ⟨l, rfl⟩
  ·exact R.row b o e2
 ·intro b l' L' i v e e2 e3
  rcases get b _ e with ⟨rfl, e4⟩ | ⟨hb, e4⟩
  ·cases e4
   rw [bS] at e2
   cases e2
   obtain ⟨v', h1, h2⟩ := hc i v e3
   exact ⟨v', h1, h2.mono ext⟩
  ·rw [aS _ _ hb] at e2
   obtain ⟨v', h1, h2⟩ := R.cell b l' L' i v e4 e2 e3
   exact ⟨v', h1, h2.mono ext⟩
 ·intro b o L' e e2
  rcases get b _ e with ⟨rfl, e4⟩ | ⟨hb, e4⟩
  ·rw [bS] at e2
   cases e2
   exact hsp
  ·rw [aS _ _ hb] at e2
   exact R.sp b o L' e4 e2
theorem Ro.sim {w : World} {ρ : cM} {h : Hp} (R : Ro w ρ h) : Sim false h h := ⟨rfl, fun b o e => by
 obtain ⟨l, rfl⟩ := R.row b o e
 exact ⟨_, e, rfl⟩⟩
theorem Ro.skip {w : World} {ρ : cM} {h : Hp} (R : Ro w ρ h) (p : Pos) (hp : h.next.toNat ≤ p.toNat) : Ro w ρ ⟨p, h.bl⟩ := ⟨R.dom, fun b L hL => Nat.lt_of_lt_of_le (R.lt b L hL) hp, R.row, R.cell, R.sp⟩
end Go.Dd

namespace Go.Dd
open Go.Proofs Go.RowKit
noncomputable def Tr.mapO (f : Ob → Option Ob) (t : Tr Ob) : Tr Ob := Tr.rec (motive := fun _ => Tr Ob) .e (fun _ v _ ihl ihr => .n ihl (v.bind f) ihr) t
theorem dNy (f : Ob → Option Ob) : ∀ (t : Tr Ob) (p : Pos), (t.mapO f).get p = (t.get p).bind f
 | .e, p => by
  show (Tr.e : Tr Ob).get p = ((Tr.e : Tr Ob).get p).bind f
  rw [Tr.get_e]
  rfl
 | .n l v r, .h => rfl
 | .n l v r, .o p => dNy f l p
 | .n l v r, .i p => dNy f r p
def dM (o : Ob) : Option Ob := match o with
 | .row .ro l => if l.all DV.one = true then some (.row .ro l) else none
 | .row .ex l => if l.all DV.one = true then some (.row .ro l) else none
 | _ => none
noncomputable def roify (h : Hp) : Hp := ⟨h.next, h.bl.mapO dM⟩
theorem bDz {o o' : Ob} (h : dM o = some o') : ∃ l, (o = .row .ro l ∨ o = .row .ex l) ∧ o' = .row .ro l ∧ ∀ v ∈ l, v.one = true := by
 unfold dM at h
 split at h
 ·rename_i l
  by_cases c : l.all DV.one = true
  ·rw [if_pos c] at h; cases h; exact ⟨l, .inl rfl, rfl, List.all_eq_true.1 c⟩
  ·rw [if_neg c] at h; cases h
 ·rename_i l
  by_cases c : l.all DV.one = true
  ·rw [if_pos c] at h; cases h; exact ⟨l, .inr rfl, rfl, List.all_eq_true.1 c⟩
  ·rw [if_neg c] at h; cases h
 ·cases h
theorem lL {h : Hp} {b : Pos} {o' : Ob} (e : (roify h).bl.get b = some o') : ∃ l, (h.bl.get b = some (.row .ro l) ∨ h.bl.get b = some (.row .ex l)) ∧ o' = .row .ro l ∧ ∀ v ∈ l, v.one = true := by
 change (h.bl.mapO dM).get b = some o' at e
 rw [dNy] at e
 cases hb : h.bl.get b with
 | none => rw [hb] at e; cases e
 | some o =>
  rw [hb] at e
  obtain ⟨l, h1, h2, h3⟩ := bDz (show dM o = some o' from e)
  refine ⟨l, ?_, h2, h3⟩
  rcases h1 with rfl | rfl
  ·exact .inl rfl
  ·exact .inr rfl
theorem aBk {h : Hp} {b : Pos} {l : List DV} (e : h.bl.get b = some (.row .ro l) ∨ h.bl.get b = some (.row .ex l)) (hl : ∀ v ∈ l, v.one = true) : (roify h).bl.get b = some (.row .ro l) := by
 show (h.bl.mapO dM).get b = _
 rw [dNy]
 have hc : l.all DV.one = true := List.all_eq_true.2 hl
 rcases e with e | e
 ·rw [e]
  show (if l.all DV.one = true then some (Ob.row .ro l) else none) = _
  rw [if_pos hc]
 ·rw [e]
  show (if l.all DV.one = true then some (Ob.row .ro l) else none) = _
  rw [if_pos hc]
theorem HR.roify {G : Gd} {ρ : cM} {h : Hp} {w : World} (H : HR G ρ h w) : Ro w ρ (roify h) where
 dom := fun b o e => by
  obtain ⟨l, q, _⟩ := lL e
  rcases q with q | q
  ·exact H.dom b _ q
  ·exact H.dom b _ q
 lt := H.lt
 row := fun b o e => by
  obtain ⟨l, _, q, _⟩ := lL e
  exact ⟨l, q⟩
 cell := fun b l L i v e e2 e3 => by
  obtain ⟨l', q, q2, q3⟩ := lL e
  cases q2
  have ho : v.one = true := q3 v (List.mem_of_getElem? e3)
  rcases q with q | q
  ·exact H.cell b _ _ L i v q e2 e3 ho
  ·exact H.cell b _ _ L i v q e2 e3 ho
 sp := fun b o L e e2 => by
  obtain ⟨l, q, _⟩ := lL e
  exact H.ex b l L q e2
def sF (v : DV) : Bool := match v with
 | .b _ => true
 | .i _ _ => true
 | .s _ => true
 | .l0 => true
 | .p0 => true
 | _ => false
def kD (v : DV) : Bool := match v with
 | .t l => l.all sF
 | v => sF v
theorem aAj {v : DV} {v' : Value} {ρ ρ' : cM} (hp : sF v = true) (h : VR ρ v v') : VR ρ' v v' := by
 cases h <;> first | (cases hp; done) | skip
 ·exact .b _
 ·exact .i _ _
 ·rename_i l bs hb; exact .s _ _ hb
 ·exact .p0
 ·exact .l0
theorem bDe {ρ ρ' : cM} (l : List DV) : ∀ (l' : List Value), (l.all sF) = true → VRs ρ l l' → VRs ρ' l l' := by
 induction l with
 | nil => intro l' _ h; cases h; exact .nil
 | cons x l ih =>
  intro l' hp h
  simp only [List.all_cons, Bool.and_eq_true] at hp
  cases h with
  | cons _ x' _ l'' hx hs => exact .cons _ _ _ _ (aAj hp.1 hx) (ih _ hp.2 hs)
theorem aMy {v : DV} {v' : Value} {ρ ρ' : cM} (hp : kD v = true) (h : VR ρ v v') : VR ρ' v v' := by
 cases h with
 | t x x' hx => exact .t _ _ (bDe x _ hp hx)
 | b x => exact .b _
 | i k n => exact .i _ _
 | s l bs hb => exact .s _ _ hb
 | p0 => exact .p0
 | l0 => exact .l0
 | _ => cases hp
noncomputable def fgt (F : List DV → Hp → aH) (args : List DV) (h : Hp) : aH := match F args (roify h) with
 | some (v, _) => bif kD v then some (v, h) else none
 | none => none
theorem lG {F : List DV → Hp → aH} {args : List DV} {h g : Hp} {v : DV} (e : F args (roify h) = some (v, g)) (hp : kD v = true) : fgt F args h = some (v, h) := by
 unfold fgt
 rw [e]
 simp only [hp, cond_true]
theorem aWl {F : List DV → Hp → aH} {args : List DV} {h h1 : Hp} {v : DV} (e : fgt F args h = some (v, h1)) : h1 = h ∧ kD v = true ∧ ∃ g, F args (roify h) = some (v, g) := by
 unfold fgt at e
 cases hr : F args (roify h) with
 | none => rw [hr] at e; cases e
 | some p =>
  obtain ⟨u, g⟩ := p
  rw [hr] at e
  change (bif kD u then some (u, h) else none) = some (v, h1) at e
  cases hp : kD u with
  | false => rw [hp] at e; cases e
  | true =>
   rw [hp] at e
   cases e
   exact ⟨rfl, hp, g, rfl⟩
theorem cXv {f : FuncId} {F : List DV → Hp → aH} (hF : ∀ G, hZ Tryz.prog G f F) (fn : Func) (hf : Tryz.prog.funcs[f]? = some fn) (hb : fn.body.isSome = true) (G : Gd) : hZ Tryz.prog G f (fgt F) := by
 intro args h v h1 he ρ w args' H hargs
 obtain ⟨rfl, hp, g, hr⟩ := aWl he
 refine .inl ⟨nA hf hb _ _, ?_⟩
 have R := H.roify
 rcases hF (gdS w 0) args (roify h1) v g hr ρ w args' R.hr hargs with ⟨_, hc⟩ | ⟨ρ', w', v', hc, _⟩
 ·refine hc.mono ?_
  rintro e w' ⟨ρ', v', h1, h2, h3, h4, h5⟩
  exact ⟨ρ, v', h1, Ex.refl _ _, aMy hp h3, H.later h5.low, Kp.later H h5.low⟩
 ·exfalso
  have hn : ¬ fn.name = "runtime.NumGoroutine" := by simpa using Try_ok.names f fn hf
  have hbn : fn.body ≠ none := by intro e; rw [e] at hb; cases hb
  unfold callFunc at hc
  simp [hf, hn, hbn] at hc
theorem Sim.roify {h h' : Hp} (S : Sim false h h') : Sim false (Go.Dd.roify h) (Go.Dd.roify h') := ⟨S.next, fun b o e => by
 obtain ⟨l, q, rfl, ho⟩ := lL e
 rcases q with q | q
 ·obtain ⟨o', e1, e2⟩ := S.get b _ q
  have : o' = .row .ro l := e2
  subst this
  exact ⟨_, aBk (.inl e1) ho, rfl⟩
 ·obtain ⟨o', e1, e2⟩ := S.get b _ q
  have : o' = .row .ex l := e2
  subst this
  exact ⟨_, aBk (.inr e1) ho, rfl⟩⟩
theorem cGx {F2 F1 : List DV → Hp → aH} {args : List DV} (hs : SimP false (F2 args) (F1 args)) : SimP false (fgt F2 args) (fgt F1 args) := by
 intro h h' S v k e
 obtain ⟨rfl, hp, g, hr⟩ := aWl e
 obtain ⟨g', e', _⟩ := hs (roify k) (roify h') S.roify v g hr
 exact ⟨h', lG e' hp, S⟩
noncomputable def ovr (rec : RT) (g : FuncId) (F : List DV → Hp → aH) : RT := fun x => bif Nat.beq x g then F else rec x
theorem cXm {rec : RT} (K : OkC CF1 rec) {g : FuncId} {F : List DV → Hp → aH} (hF : ∀ G, hZ Tryz.prog G g F) : OkC CF1 (ovr rec g F) := by
 refine ⟨K.own, fun G x => ?_⟩
 unfold ovr
 cases hx : Nat.beq x g with
 | true => cases Nat.eq_of_beq_eq_true hx; exact hF G
 | false => exact K.fns G x
theorem cDf {rec rec1 : RT} (HC : ∀ g args, SimP false (bH CF rec g args) (bH CF1 rec1 g args)) {g : FuncId} (h2 : CF.I g = none) (h1 : CF1.I g = none) {F F1 : List DV → Hp → aH} (hF : ∀ args, SimP false (F args) (F1 args)) :
  ∀ x args, SimP false (bH CF (ovr rec g F) x args) (bH CF1 (ovr rec1 g F1) x args) := by
 intro x args
 cases hx : Nat.beq x g with
 | true =>
  cases Nat.eq_of_beq_eq_true hx
  rw [dQ h2, dQ h1]
  have e : ∀ (r : RT) (F : List DV → Hp → aH), ovr r g F g = F := fun r F => by unfold ovr; rw [hx]; rfl
  rw [e, e]
  exact hF args
 | false =>
  have e : ∀ (C : Cfg) (r : RT) (F : List DV → Hp → aH), bH C (ovr r g F) x args = bH C r x args := fun C r F => by
   funext k
   unfold bH ovr
   rw [hx]
   rfl
  rw [e, e]
  exact HC x args
end Go.Dd

namespace Go.Dd
open Go.Proofs Go.RowKit
noncomputable def Tr.mapP (t : Tr Ob) : (Pos → Ob → Option Ob) → Tr Ob :=
 Tr.rec (motive := fun _ => (Pos → Ob → Option Ob) → Tr Ob) (fun _ => .e) (fun _ v _ ihl ihr f => .n (ihl fun p => f (.o p)) (v.bind (f .h)) (ihr fun p => f (.i p))) t
theorem dNv : ∀ (t : Tr Ob) (f : Pos → Ob → Option Ob) (p : Pos), (t.mapP f).get p = (t.get p).bind (f p)
 | .e, f, p => by
  show (Tr.e : Tr Ob).get p = ((Tr.e : Tr Ob).get p).bind (f p)
  rw [Tr.get_e]
  rfl
 | .n l v r, f, .h => rfl
 | .n l v r, f, .o p => dNv l (fun p => f (.o p)) p
 | .n l v r, f, .i p => dNv r (fun p => f (.i p)) p
def gV (n : Nat) (v : DV) : Bool := match v with
 | .u | .b _ | .i _ _ | .s _ | .p0 | .l0 | .le | .m0 | .f0 | .n0 => true
 | .p b _ => Nat.blt b.toNat n
 | .l b _ _ _ => Nat.blt b.toNat n
 | .lx b _ _ _ => Nat.blt b.toNat n
 | .m b => Nat.blt b.toNat n
 | _ => false
def clV (n : Nat) (v : DV) : DV := bif gV n v then v else .u
def jG (n : Nat) (p : Pos) (o : Ob) : Option Ob := bif Nat.blt p.toNat n then (match o with
 | .row k l => bif l.all (gV n) then some (.row k l) else none
 | .mp es => some (.mp (es.map fun e => (clV n e.1, clV n e.2)))
 | o => some o) else none
noncomputable def cut (p : Pos) (h : Hp) : Hp := ⟨p, h.bl.mapP (jG p.toNat)⟩
def aEj (n : Nat) (ρ : cM) : cM := fun b => bif Nat.blt b.toNat n then ρ b else none
theorem cutR_some {n : Nat} {ρ : cM} {b : Pos} {L : Loc} : aEj n ρ b = some L ↔ b.toNat < n ∧ ρ b = some L := by
 unfold aEj
 cases hc : Nat.blt b.toNat n with
 | true => rw [cond_true]; exact ⟨fun h => ⟨by simpa [Nat.blt_eq] using hc, h⟩, fun h => h.2⟩
 | false =>
  rw [cond_false]
  refine ⟨fun h => (by cases h), fun h => ?_⟩
  have : Nat.blt b.toNat n = true := by simpa [Nat.blt_eq] using h.1
  rw [hc] at this
  cases this
theorem nX {p : Pos} {h : Hp} {b : Pos} {o' : Ob} (e : (cut p h).bl.get b = some o') : b.toNat < p.toNat ∧ ∃ o, h.bl.get b = some o ∧ jG p.toNat b o = some o' := by
 change (h.bl.mapP (jG p.toNat)).get b = some o' at e
 rw [dNv] at e
 cases hb : h.bl.get b with
 | none => rw [hb] at e; cases e
 | some o =>
  rw [hb] at e
  change jG p.toNat b o = some o' at e
  refine ⟨?_, o, rfl, e⟩
  unfold jG at e
  cases hc : Nat.blt b.toNat p.toNat with
  | true => simpa [Nat.blt_eq] using hc
  | false => rw [hc] at e; cases e
theorem xQ {n : Nat} {b : Pos} {o : Ob} {k : Kind} {l : List DV} (e : jG n b o = some (.row k l)) : o = .row k l ∧ ∀ v ∈ l, gV n v = true := by
 unfold jG at e
 cases hc : Nat.blt b.toNat n with
 | false => rw [hc] at e; cases e
 | true =>
  rw [hc, cond_true] at e
  cases o with
  | row k' l' =>
   change (bif l'.all (gV n) then some (Ob.row k' l') else none) = _ at e
   cases ha : l'.all (gV n) with
   | false => rw [ha] at e; cases e
   | true =>
    rw [ha] at e
    cases e
    exact ⟨rfl, List.all_eq_true.1 ha⟩
  | it s p => cases e
  | mp es => cases e
  | big n t => cases e
  | mi t => cases e
theorem uX {p : Pos} {h : Hp} {b : Pos} {k : Kind} {l : List DV} (e : h.bl.get b = some (.row k l)) (hb : b.toNat < p.toNat) (hl : ∀ v ∈ l, gV p.toNat v = true) : (cut p h).bl.get b = some (.row k l) := by
 show (h.bl.mapP (jG p.toNat)).get b = _
 rw [dNv, e]
 show jG p.toNat b (.row k l) = _
 unfold jG
 rw [show Nat.blt b.toNat p.toNat = true by simpa [Nat.blt_eq] using hb, cond_true]
 show (bif l.all (gV p.toNat) then some (Ob.row k l) else none) = _
 rw [List.all_eq_true.2 hl, cond_true]
theorem bWv {n : Nat} {ρ : cM} {v : DV} {v' : Value} (h : VR ρ v v') (hl : gV n v = true) : VR (aEj n ρ) v v' := by
 have key : ∀ {b : Pos} {L : Loc}, ρ b = some L → Nat.blt b.toNat n = true → aEj n ρ b = some L := fun h hb => cutR_some.2 ⟨by simpa [Nat.blt_eq] using hb, h⟩
 cases h with
 | u => exact .u _
 | b x => exact .b x
 | i k m => exact .i k m
 | s l bs hb => exact .s l bs hb
 | p0 => exact .p0
 | p b o L h => exact .p b o L (key h hl)
 | l0 => exact .l0
 | le a c => exact .le a c
 | l b o m c L h => exact .l b o m c L (key h hl)
 | lx b o m c L h => exact .lx b o m c L (key h hl)
 | m0 => exact .m0
 | m b L h => exact .m b L (key h hl)
 | f0 => exact .f0
 | f g x y x' y' hx hy => cases hl
 | n0 => exact .n0
 | c t v v' h => cases hl
 | a x x' h => cases hl
 | t x x' h => cases hl
 | yl b L h => cases hl
theorem dGm {n : Nat} {ρ : cM} {v : DV} {v' : Value} (h : VR ρ v v') : VR (aEj n ρ) (clV n v) v' := by
 unfold clV
 cases hl : gV n v with
 | true => rw [cond_true]; exact bWv h hl
 | false => exact .u v'
theorem aQo {n : Nat} {ρ : cM} (f : DV × DV → DV) : ∀ (es : List (DV × DV)) (l' : List Value), VRs ρ (es.map f) l' → VRs (aEj n ρ) (es.map fun e => clV n (f e)) l'
 | [], l', h => by cases h; exact .nil
 | e :: es, l', h => by
  cases h with
  | cons _ x' _ l'' hx hs => exact .cons _ _ _ _ (dGm hx) (aQo f es _ hs)
theorem HR.cut {G : Gd} {ρ : cM} {h : Hp} {w : World} (H : HR G ρ h w) (p : Pos) (hN : G.N ≤ p.toNat) : HR G (aEj p.toNat ρ) (Go.Dd.cut p h) w := by
 have row : ∀ {b : Pos} {k : Kind} {l : List DV}, (Go.Dd.cut p h).bl.get b = some (.row k l) → h.bl.get b = some (.row k l) ∧ ∀ v ∈ l, gV p.toNat v = true := fun e => by
  obtain ⟨_, o, e1, e2⟩ := nX e
  obtain ⟨rfl, q⟩ := xQ e2
  exact ⟨e1, q⟩
 have cl : ∀ {b : Pos} {a : Addr}, Claims (aEj p.toNat ρ) (Go.Dd.cut p h) b a → Claims ρ h b a ∧ (isRo h b → isRo (Go.Dd.cut p h) b) := fun c => by
  obtain ⟨k, l, L, h1, h2, h3⟩ := c
  refine ⟨⟨k, l, L, (row h1).1, (cutR_some.1 h2).2, h3⟩, ?_⟩
  rintro ⟨l', q⟩
  rw [(row h1).1] at q
  cases q
  exact ⟨l, h1⟩
 have ro : ∀ {b : Pos}, isRo (Go.Dd.cut p h) b → isRo h b := fun ⟨l, q⟩ => ⟨l, (row q).1⟩
 exact {
  gl := H.gl
  sz := H.sz
  nx := hN
  ro := fun b a c r => H.ro b a (cl c).1 (ro r)
  dom := fun b o e => by
   obtain ⟨hb, o', e1, _⟩ := nX e
   obtain ⟨L, hL⟩ := H.dom b o' e1
   exact ⟨L, cutR_some.2 ⟨hb, hL⟩⟩
  lt := fun b L e => (cutR_some.1 e).1
  cell := fun b k l L i v e e2 e3 ho => by
   obtain ⟨q1, q2⟩ := row e
   obtain ⟨v', c1, c2⟩ := H.cell b k l L i v q1 (cutR_some.1 e2).2 e3 ho
   exact ⟨v', c1, bWv c2 (q2 v (List.mem_of_getElem? e3))⟩
  spare := fun b l L es j e e2 hj => H.spare b l L es j (row e).1 (cutR_some.1 e2).2 hj
  free := fun b a c r => H.free b a (cl c).1 (fun q => r ((cl c).2 q))
  inj := fun b b' a c c' r => H.inj b b' a (cl c).1 (cl c').1 (fun q => r ((cl c).2 q))
  ex := fun b l L e e2 => H.ex b l L (e.imp (fun q => (row q).1) (fun q => (row q).1)) (cutR_some.1 e2).2
  grone := fun b es l i v e e2 => H.grone b es l i v (row e).1 e2
  itr := fun b o L hs e e2 => by
   obtain ⟨hb, o', e1, q⟩ := nX e
   have e3 := (cutR_some.1 e2).2
   unfold jG at q
   rw [show Nat.blt b.toNat p.toNat = true by simpa [Nat.blt_eq] using hb, cond_true] at q
   cases o' with
   | row k l =>
    change (bif l.all (gV p.toNat) then some (Ob.row k l) else none) = _ at q
    cases ha : l.all (gV p.toNat) with
    | false => rw [ha] at q; cases q
    | true => rw [ha] at q; cases q; cases hs
   | it s ps =>
    cases q
    exact H.itr b _ L rfl e1 e3
   | mp es =>
    cases q
    obtain ⟨a1, a2, x, a3, arr, ck, a4, a5, a6, a7⟩ := H.itr b _ L rfl e1 e3
    refine ⟨a1, a2, x, a3, arr, ck, a4, ?_, ?_, a7⟩
    ·rw [List.map_map]; exact aQo (·.1) es _ a5
    ·rw [List.map_map]; exact aQo (·.2) es _ a6
   | big n t => cases q; cases hs
   | mi t => cases q; cases hs
  itj := fun b o b' o' L L' hs hs' e e' e2 e2' hb => by
   have sg : ∀ {b : Pos} {o : Ob}, o.sg = true → (Go.Dd.cut p h).bl.get b = some o → ∃ o', h.bl.get b = some o' ∧ o'.sg = true := fun {b o} hs e => by
    obtain ⟨hb, o', e1, q⟩ := nX e
    refine ⟨o', e1, ?_⟩
    unfold jG at q
    rw [show Nat.blt b.toNat p.toNat = true by simpa [Nat.blt_eq] using hb, cond_true] at q
    cases o' with
    | row k l =>
     change (bif l.all (gV p.toNat) then some (Ob.row k l) else none) = _ at q
     cases ha : l.all (gV p.toNat) with
     | false => rw [ha] at q; cases q
     | true => rw [ha] at q; cases q; cases hs
    | it s ps => rfl
    | mp es => rfl
    | big n t => cases q; cases hs
    | mi t => cases q; cases hs
   obtain ⟨o1, q1, q2⟩ := sg hs e
   obtain ⟨o2, q3, q4⟩ := sg hs' e'
   exact H.itj b o1 b' o2 L L' q2 q4 q1 q3 (cutR_some.1 e2).2 (cutR_some.1 e2').2 hb }
noncomputable def fgc (F : List DV → Hp → aH) (args : List DV) (h : Hp) : aH := match F args h with
 | some (v, g) => bif kD v then some (v, cut h.next g) else none
 | none => none
theorem xZ {F : List DV → Hp → aH} {args : List DV} {h g : Hp} {v : DV} (e : F args h = some (v, g)) (hp : kD v = true) : fgc F args h = some (v, cut h.next g) := by
 unfold fgc
 rw [e]
 simp only [hp, cond_true]
theorem aYd {F : List DV → Hp → aH} {args : List DV} {h h1 : Hp} {v : DV} (e : fgc F args h = some (v, h1)) : ∃ g, F args h = some (v, g) ∧ h1 = cut h.next g ∧ kD v = true := by
 unfold fgc at e
 cases hr : F args h with
 | none => rw [hr] at e; cases e
 | some p =>
  obtain ⟨u, g⟩ := p
  rw [hr] at e
  change (bif kD u then some (u, cut h.next g) else none) = some (v, h1) at e
  cases hp : kD u with
  | false => rw [hp] at e; cases e
  | true =>
   rw [hp] at e
   cases e
   exact ⟨g, rfl, rfl, hp⟩
theorem cVd {f : FuncId} {F : List DV → Hp → aH} (hF : ∀ G, hZ Tryz.prog G f F) (fn : Func) (hf : Tryz.prog.funcs[f]? = some fn) (hb : fn.body.isSome = true) (G : Gd) : hZ Tryz.prog G f (fgc F) := by
 intro args h v h1 he ρ w args' H hargs
 obtain ⟨g, hr, rfl, hp⟩ := aYd he
 refine .inl ⟨nA hf hb _ _, ?_⟩
 rcases hF G args h v g hr ρ w args' H hargs with ⟨_, hc⟩ | ⟨ρ', w', v', hc, _⟩
 ·refine hc.mono ?_
  rintro e w' ⟨ρ', v', h1, h2, h3, h4, h5⟩
  refine ⟨aEj h.next.toNat ρ', v', h1, ⟨fun b L hb => cutR_some.2 ⟨H.lt b L hb, h2.ext b L hb⟩, fun b L hb => h2.new b L (cutR_some.1 hb).2⟩, aMy hp h3, h4.cut h.next H.nx, h5⟩
 ·exfalso
  have hn : ¬ fn.name = "runtime.NumGoroutine" := by simpa using Try_ok.names f fn hf
  have hbn : fn.body ≠ none := by intro e; rw [e] at hb; cases hb
  unfold callFunc at hc
  simp [hf, hn, hbn] at hc
theorem aZv {n : Nat} {a : Int} : ∀ {es : List (DV × DV)} {r : Option DV}, cY (.int .i64) (.i .i64 a) es = some r → cY (.int .i64) (.i .i64 a) (es.map fun e => (clV n e.1, clV n e.2)) = some (r.map (clV n))
 | [], r, h => by
  cases h
  rfl
 | e :: es, r, h => by
  obtain ⟨k, v⟩ := e
  simp only [cY] at h
  simp only [List.map_cons, cY]
  have hk : ∀ b, mL (.int .i64) (.i .i64 a) k = some b → clV n k = k := fun b hb => by
   cases k <;> first | rfl | (exfalso; revert hb; simp [mL]; done)
  cases hc : mL (.int .i64) (.i .i64 a) k with
  | none => rw [hc] at h; cases h
  | some b =>
   rw [hk b hc, hc]
   rw [hc] at h
   cases b with
   | true => cases h; rfl
   | false => exact aZv h
theorem Sim.cut {h h' : Hp} (S : Sim false h h') (p : Pos) : Sim false (Go.Dd.cut p h) (Go.Dd.cut p h') := ⟨rfl, fun b o e => by
 obtain ⟨hb, o0, e1, q⟩ := nX e
 obtain ⟨o1, e2, hr⟩ := S.get b o0 e1
 have hbt : Nat.blt b.toNat p.toNat = true := by simpa [Nat.blt_eq] using hb
 have get' : (Go.Dd.cut p h').bl.get b = jG p.toNat b o1 := by
  show (h'.bl.mapP (jG p.toNat)).get b = _
  rw [dNv, e2]
  rfl
 rw [get']
 cases o0 with
 | row k l =>
  have : o1 = .row k l := hr
  subst this
  rw [q]
  obtain ⟨e3, _⟩ := xQ (k := k) (l := l) (o := .row k l) (n := p.toNat) (b := b) (by
   unfold jG at q ⊢
   rw [hbt, cond_true] at q ⊢
   change (bif l.all (gV p.toNat) then some (Ob.row k l) else none) = some o at q
   change (bif l.all (gV p.toNat) then some (Ob.row k l) else none) = _
   cases ha : l.all (gV p.toNat) with
   | false => rw [ha] at q; cases q
   | true => rfl)
  refine ⟨o, rfl, ?_⟩
  unfold jG at q
  rw [hbt, cond_true] at q
  change (bif l.all (gV p.toNat) then some (Ob.row k l) else none) = some o at q
  cases ha : l.all (gV p.toNat) with
  | false => rw [ha] at q; cases q
  | true => rw [ha] at q; cases q; rfl
 | it s ps =>
  have : o1 = .it s ps := hr
  subst this
  unfold jG at q ⊢
  rw [hbt, cond_true] at q ⊢
  cases q
  exact ⟨_, rfl, rfl⟩
 | mp es =>
  have : o1 = .mp es := hr
  subst this
  unfold jG at q ⊢
  rw [hbt, cond_true] at q ⊢
  cases q
  exact ⟨_, rfl, rfl⟩
 | big n t =>
  have : o1 = .row .ex (gG n t) := hr
  subst this
  unfold jG at q ⊢
  rw [hbt, cond_true] at q ⊢
  cases q
  refine ⟨.row .ex (gG n t), ?_, rfl⟩
  show (bif (gG n t).all (gV p.toNat) then some (Ob.row .ex (gG n t)) else none) = _
  rw [List.all_eq_true.2 (fun v hv => by
   obtain ⟨i, _, rfl⟩ := List.mem_map.1 hv
   rfl), cond_true]
 | mi t =>
  obtain ⟨es, rfl, hes⟩ : ∃ es, o1 = .mp es ∧ ∀ a : Int, cY (.int .i64) (.i .i64 a) es = some (if 0 ≤ a ∧ t.get a.toNat ≠ 0 then some (.b true) else none) := hr
  unfold jG at q ⊢
  rw [hbt, cond_true] at q ⊢
  cases q
  refine ⟨_, rfl, es.map fun e => (clV p.toNat e.1, clV p.toNat e.2), rfl, fun a => ?_⟩
  rw [aZv (hes a)]
  split
  ·rfl
  ·rfl⟩
theorem cIs {F2 F1 : List DV → Hp → aH} {args : List DV} (hs : SimP false (F2 args) (F1 args)) : SimP false (fgc F2 args) (fgc F1 args) := by
 intro h h' S v k e
 obtain ⟨g, hr, rfl, hp⟩ := aYd e
 obtain ⟨g', e', S'⟩ := hs h h' S v g hr
 exact ⟨_, xZ e' hp, by rw [S.next]; exact S'.cut _⟩
end Go.Dd

namespace Go.Dd
open Go.Proofs Go.RowKit
noncomputable def aNg (d : Nat) : (Pos → Option Ob) → Tr Ob :=
 Nat.rec (motive := fun _ => (Pos → Option Ob) → Tr Ob) (fun _ => .e) (fun _ ih f => .n (ih fun p => f (.o p)) (f .h) (ih fun p => f (.i p))) d
theorem cLi (p : Pos) : (Pos.o p).toNat = 2 * p.toNat := by simp [Pos.toNat]
theorem cLo (p : Pos) : (Pos.i p).toNat = 2 * p.toNat + 1 := by simp [Pos.toNat]
theorem pQ : ∀ (d : Nat) (f : Pos → Option Ob) (p : Pos), (aNg d f).get p = if p.toNat < 2 ^ d then f p else none
 | 0, f, p => by
  have := dOe p
  rw [if_neg (by simp; omega)]
  exact Tr.get_e p
 | d + 1, f, .h => by
  rw [if_pos (by show 1 < 2 ^ (d + 1); have := Nat.one_lt_two_pow (n := d + 1) (by omega); exact this)]
  rfl
 | d + 1, f, .o p => by
  have := pQ d (fun p => f (.o p)) p
  show (aNg d fun p => f (.o p)).get p = _
  rw [this, cLi, Nat.pow_succ]
  by_cases c : p.toNat < 2 ^ d
  ·rw [if_pos c, if_pos (by omega)]
  ·rw [if_neg c, if_neg (by omega)]
 | d + 1, f, .i p => by
  have := pQ d (fun p => f (.i p)) p
  show (aNg d fun p => f (.i p)).get p = _
  rw [this, cLo, Nat.pow_succ]
  by_cases c : p.toNat < 2 ^ d
  ·rw [if_pos c, if_pos (by omega)]
  ·rw [if_neg c, if_neg (by omega)]
noncomputable def Tr.setO (x : Option Ob) (p : Pos) : Tr Ob → Tr Ob :=
 Pos.rec (motive := fun _ => Tr Ob → Tr Ob)
  (fun t => Tr.rec (motive := fun _ => Tr Ob) (.n .e x .e) (fun l _ r _ _ => .n l x r) t)
  (fun _ ih t => Tr.rec (motive := fun _ => Tr Ob) (.n (ih .e) none .e) (fun l v r _ _ => .n (ih l) v r) t)
  (fun _ ih t => Tr.rec (motive := fun _ => Tr Ob) (.n .e none (ih .e)) (fun l v r _ _ => .n l v (ih r)) t) p
theorem jD (x : Option Ob) : ∀ (p : Pos) (t : Tr Ob) (q : Pos), (t.setO x p).get q = if q = p then x else t.get q
 | .h, .e, .h => rfl
 | .h, .e, .o q => by rw [if_neg (by simp), Tr.get_e]; exact Tr.get_e q
 | .h, .e, .i q => by rw [if_neg (by simp), Tr.get_e]; exact Tr.get_e q
 | .h, .n l v r, .h => rfl
 | .h, .n l v r, .o q => by rw [if_neg (by simp)]; rfl
 | .h, .n l v r, .i q => by rw [if_neg (by simp)]; rfl
 | .o p, .e, .h => by rw [if_neg (by simp), Tr.get_e]; rfl
 | .o p, .e, .o q => by
  show ((Tr.e : Tr Ob).setO x p).get q = _
  rw [jD x p .e q, Tr.get_e, Tr.get_e]
  simp
 | .o p, .e, .i q => by rw [if_neg (by simp), Tr.get_e]; exact Tr.get_e q
 | .o p, .n l v r, .h => by rw [if_neg (by simp)]; rfl
 | .o p, .n l v r, .o q => by
  show (l.setO x p).get q = _
  rw [jD x p l q]
  simp only [Pos.o.injEq]
  rfl
 | .o p, .n l v r, .i q => by rw [if_neg (by simp)]; rfl
 | .i p, .e, .h => by rw [if_neg (by simp), Tr.get_e]; rfl
 | .i p, .e, .i q => by
  show ((Tr.e : Tr Ob).setO x p).get q = _
  rw [jD x p .e q, Tr.get_e, Tr.get_e]
  simp
 | .i p, .e, .o q => by rw [if_neg (by simp), Tr.get_e]; exact Tr.get_e q
 | .i p, .n l v r, .h => by rw [if_neg (by simp)]; rfl
 | .i p, .n l v r, .i q => by
  show (r.setO x p).get q = _
  rw [jD x p r q]
  simp only [Pos.i.injEq]
  rfl
 | .i p, .n l v r, .o q => by rw [if_neg (by simp)]; rfl
noncomputable def skL (f : Pos → Option Ob) (ps : List Pos) : Tr Ob := List.rec (motive := fun _ => Tr Ob) (aNg 10 f) (fun p _ ih => Tr.setO (f p) p ih) ps
theorem aZr (f : Pos → Option Ob) : ∀ (ps : List Pos) (q : Pos), (skL f ps).get q = if q.toNat < 1024 ∨ q ∈ ps then f q else none
 | [], q => by
  show (aNg 10 f).get q = _
  rw [pQ]
  simp
 | p :: ps, q => by
  show (Tr.setO (f p) p (skL f ps)).get q = _
  rw [jD, aZr f ps q]
  by_cases c : q = p
  ·subst c; rw [if_pos rfl, if_pos (by simp)]
  ·rw [if_neg c]
   simp only [List.mem_cons, c, false_or]
noncomputable def view (ps : List Pos) (h : Hp) : Hp := ⟨h.next, skL (fun p => (h.bl.get p).bind dM) ps⟩
theorem sT (h : Hp) (p : Pos) : (roify h).bl.get p = (h.bl.get p).bind dM := dNy _ _ _
theorem view_get {ps : List Pos} {h : Hp} {b : Pos} {o : Ob} : (view ps h).bl.get b = some o ↔ (b.toNat < 1024 ∨ b ∈ ps) ∧ (roify h).bl.get b = some o := by
 show (skL _ ps).get b = some o ↔ _
 rw [aZr, sT]
 by_cases c : b.toNat < 1024 ∨ b ∈ ps
 ·rw [if_pos c]; exact ⟨fun e => ⟨c, e⟩, fun e => e.2⟩
 ·rw [if_neg c]; exact ⟨fun e => (by cases e), fun e => absurd e.1 c⟩
theorem HR.view {G : Gd} {ρ : cM} {h : Hp} {w : World} (H : HR G ρ h w) (ps : List Pos) : Ro w ρ (Go.Dd.view ps h) where
 dom := fun b o e => H.roify.dom b o (view_get.1 e).2
 lt := H.roify.lt
 row := fun b o e => H.roify.row b o (view_get.1 e).2
 cell := fun b l L i v e => H.roify.cell b l L i v (view_get.1 e).2
 sp := fun b o L e => H.roify.sp b o L (view_get.1 e).2
theorem Sim.view {h h' : Hp} (S : Sim false h h') (ps : List Pos) : Sim false (Go.Dd.view ps h) (Go.Dd.view ps h') := ⟨S.next, fun b o e => by
 obtain ⟨c, q⟩ := view_get.1 e
 obtain ⟨o', e1, e2⟩ := S.roify.get b o q
 exact ⟨o', view_get.2 ⟨c, e1⟩, e2⟩⟩
def cl1 (v : DV) : DV := bif sF v then v else .u
def clA (v : DV) : DV := match v with
 | .t l => .t (l.map cl1)
 | v => cl1 v
theorem bQt {v : DV} {v' : Value} {ρ ρ' : cM} (h : VR ρ v v') : VR ρ' (cl1 v) v' := by
 unfold cl1
 cases hp : sF v with
 | true => rw [cond_true]; exact aAj hp h
 | false => exact .u v'
theorem aWw {ρ ρ' : cM} : ∀ (l : List DV) (l' : List Value), VRs ρ l l' → VRs ρ' (l.map cl1) l'
 | [], l', h => by cases h; exact .nil
 | x :: l, l', h => by
  cases h with
  | cons _ x' _ l'' hx hs => exact .cons _ _ _ _ (bQt hx) (aWw l _ hs)
theorem cVn {v : DV} {v' : Value} {ρ ρ' : cM} (h : VR ρ v v') : VR ρ' (clA v) v' := by
 unfold clA
 split
 ·cases h with
  | t x x' hx => exact .t _ _ (aWw _ _ hx)
 ·exact bQt h
noncomputable def fgv (ps : List Pos) (F : List DV → Hp → aH) (args : List DV) (h : Hp) : aH := match F args (view ps h) with
 | some (v, _) => some (clA v, h)
 | none => none
theorem xO {ps : List Pos} {F : List DV → Hp → aH} {args : List DV} {h g : Hp} {v : DV} (e : F args (view ps h) = some (v, g)) : fgv ps F args h = some (clA v, h) := by
 unfold fgv
 rw [e]
theorem aXn {ps : List Pos} {F : List DV → Hp → aH} {args : List DV} {h h1 : Hp} {v : DV} (e : fgv ps F args h = some (v, h1)) : h1 = h ∧ ∃ u g, F args (view ps h) = some (u, g) ∧ v = clA u := by
 unfold fgv at e
 cases hr : F args (view ps h) with
 | none => rw [hr] at e; cases e
 | some p =>
  obtain ⟨u, g⟩ := p
  rw [hr] at e
  cases e
  exact ⟨rfl, u, g, rfl, rfl⟩
theorem cQi {ps : List Pos} {f : FuncId} {F : List DV → Hp → aH} (hF : ∀ G, hZ Tryz.prog G f F) (fn : Func) (hf : Tryz.prog.funcs[f]? = some fn) (hb : fn.body.isSome = true) (G : Gd) : hZ Tryz.prog G f (fgv ps F) := by
 intro args h v h1 he ρ w args' H hargs
 obtain ⟨rfl, u, g, hr, rfl⟩ := aXn he
 refine .inl ⟨nA hf hb _ _, ?_⟩
 have R := H.view ps
 rcases hF (gdS w 0) args (view ps h1) u g hr ρ w args' R.hr hargs with ⟨_, hc⟩ | ⟨ρ', w', v', hc, _⟩
 ·refine hc.mono ?_
  rintro e w' ⟨ρ', v', h1, h2, h3, h4, h5⟩
  exact ⟨ρ, v', h1, Ex.refl _ _, cVn h3, H.later h5.low, Kp.later H h5.low⟩
 ·exfalso
  have hn : ¬ fn.name = "runtime.NumGoroutine" := by simpa using Try_ok.names f fn hf
  have hbn : fn.body ≠ none := by intro e; rw [e] at hb; cases hb
  unfold callFunc at hc
  simp [hf, hn, hbn] at hc
theorem cLs {ps : List Pos} {F2 F1 : List DV → Hp → aH} {args : List DV} (hs : SimP false (F2 args) (F1 args)) : SimP false (fgv ps F2 args) (fgv ps F1 args) := by
 intro h h' S v k e
 obtain ⟨rfl, u, g, hr, rfl⟩ := aXn e
 obtain ⟨g', e', _⟩ := hs (view ps k) (view ps h') (S.view ps) u g hr
 exact ⟨h', xO e', S⟩
end Go.Dd

namespace Go.Dd
open Go.Proofs
theorem he6 : fP (bRs 60000) (eU 0) 432 (fY 60000 553 84 18 [1076, 1096, 6, 24, 42, 60, 78, 96, 114, 132, 150, 168, 186, 204, 222, 240, 258, 276] [(10, 0), (19, 0), (46, 0), (55, 0), (64, 0), (91, 0), (100, 0), (109, 0), (118, 0), (127, 0), (145, 0)] 0) = true := by kernel_rfl
theorem bTh : ∃ e h', Sim true (dW 432 (fY 60000 553 84 18 [1076, 1096, 6, 24, 42, 60, 78, 96, 114, 132, 150, 168, 186, 204, 222, 240, 258, 276] [(10, 0), (19, 0), (46, 0), (55, 0), (64, 0), (91, 0), (100, 0), (109, 0), (118, 0), (127, 0), (145, 0)] 0)) h' ∧ e 5 = .p (aL 7) 0 ∧ e 155 = .l (aL 431) 0 75 75 ∧ e 156 = .i .i64 (.ofNat 75) ∧ e 157 = .i .i64 (.ofNat 0) ∧
  ∀ X kr k, aP CF R9 179 899 bEh X kr k (aJ [.i .i64 (.ofNat 60000)]) hS = k e h' := by
 obtain ⟨O, hO⟩ := wZ (C := CF) (rec := R9) (nt := 179) 899 bEh
 obtain ⟨g, e1, e2⟩ := aJh he6
 have e1' : dOi (O (aJ [.i .i64 (.ofNat 60000)]) hS) (fun _ _ _ => none) (fun _ _ => none) cZa = some (.t (eU 0), g) := (hO _ _ _ _ _).symm.trans e1
 cases ho : O (aJ [.i .i64 (.ofNat 60000)]) hS with
 | none => rw [ho] at e1'; cases e1'
 | some o =>
  rw [ho] at e1'
  cases o with
  | x i e h' => cases e1'
  | r e h' => cases e1'
  | n e h' =>
   have q : (some (.t [e 5, e 155, e 156, e 157], h') : aH) = some (.t (eU 0), g) := e1'
   simp only [eU, bC, bP, DV.t.injEq, List.cons.injEq, and_true] at q
   obtain ⟨⟨q1, q2, q3, q4⟩, q5⟩ := q
   exact ⟨e, h', by rw [q5]; exact e2, q1, q2, q3, q4, fun X kr k => by rw [hO, ho]; rfl⟩
theorem cIr : ∃ g, cA 900 7 [.i .i64 (.ofNat 60000)] hS = some (.t [.p (aL 7) 0, .i .i64 (.ofNat 0)], g) ∧ Sim true (dW 26855 (fY 60000 4321 583 80 [8370, 1096, 6, 24, 42, 60, 78, 96, 114, 132, 150, 168, 186, 204, 222, 240, 258, 276] [] 75)) g := by
 obtain ⟨e, h0, S0, p1, p2, p3, p4, hpre⟩ := bTh
 obtain ⟨h1, S1, c1⟩ := dT hz0 894 S0
 obtain ⟨h2, S2, c2⟩ := dT hz5 889 S1
 obtain ⟨h3, S3, c3⟩ := dT dHz 884 S2
 obtain ⟨h4, S4, c4⟩ := dT dJg 879 S3
 obtain ⟨h5, S5, c5⟩ := dT dJm 874 S4
 obtain ⟨h6, S6, c6⟩ := dT dIn 869 S5
 obtain ⟨h7, S7, c7⟩ := dT dJf 864 S6
 obtain ⟨h8, S8, c8⟩ := dT dKb 859 S7
 obtain ⟨h9, S9, c9⟩ := dT dJy 854 S8
 obtain ⟨h10, S10, c10⟩ := dT dLm 849 S9
 obtain ⟨h11, S11, c11⟩ := dT dLi 844 S10
 obtain ⟨h12, S12, c12⟩ := dT dKw 839 S11
 obtain ⟨h13, S13, c13⟩ := dT dKd 834 S12
 obtain ⟨h14, S14, c14⟩ := dT dHx 829 S13
 obtain ⟨h15, S15, c15⟩ := dT dLp 824 S14
 refine ⟨h15, ?_, S15⟩
 have e0 : cA 900 7 [.i .i64 (.ofNat 60000)] hS = aF CF R9 899 7 [.i .i64 (.ofNat 60000)] hS := zK 7 rfl 899 _ _
 rw [e0, bRc, aBa, bNt, aUb, hpre]
 show bQe R9 899 (e 5) (e 155) (e 156) (e 157) h0 = _
 rw [p1, p2, p3, p4]
 show mT R9 899 899 _ _ _ _ h0 = _
 refine c1.trans ?_
 refine c2.trans ?_
 refine c3.trans ?_
 refine c4.trans ?_
 refine c5.trans ?_
 refine c6.trans ?_
 refine c7.trans ?_
 refine c8.trans ?_
 refine c9.trans ?_
 refine c10.trans ?_
 refine c11.trans ?_
 refine c12.trans ?_
 refine c13.trans ?_
 refine c14.trans ?_
 refine c15.trans ?_
 rw [show (824 : Nat) = 823 + 1 from rfl]
 show mR R9 899 (mT R9 899 823) _ _ _ _ h15 = _
 unfold mR
 have hl : decide (Int.ofNat 75 < Int.ofNat 75) = false := rfl
 simp only [cG, aO, hl, bG]
 rfl
noncomputable def HLZ : List (Pos × Ob) := fY 60000 4321 583 80 [8370, 1096, 6, 24, 42, 60, 78, 96, 114, 132, 150, 168, 186, 204, 222, 240, 258, 276] [] 75
noncomputable def hNZ : Hp := dW 26855 HLZ
noncomputable def aKs (args : List DV) : Bool := match args with
 | [.i .i64 (.ofNat m)] => Nat.beq m 60000
 | _ => false
noncomputable def aWa : List DV → Hp → aH := wY aKs (.t [.p (aL 7) 0, .i .i64 (.ofNat 0)]) 26855 HLZ
end Go.Dd

namespace Go.Dd
open Go.Proofs Go.RowKit
theorem dMz : okB (s25 (aRj 900) 900 hS) = true := by kernel_rfl
theorem aPh : ∃ g, aF CF1 sW 912 25 [] hS = some (.b true, g) := by
 have hl := dMz
 cases hr : s25 (aRj 900) 900 hS with
 | none => rw [hr] at hl; cases hl
 | some p =>
  obtain ⟨v, k⟩ := p
  rw [hr] at hl
  cases v <;> (try (cases hl; done))
  rename_i b
  change b = true at hl
  subst hl
  obtain ⟨g, h1, h2⟩ := mZ (P := Tryz.prog) (I2 := CF.I) (I1 := CF1.I) HCN 900 12 25 [] hS hS dOj _ _ ((cOu (aRj 900) 900 [] hS).trans hr)
  exact ⟨g, h1⟩
end Go.Dd

namespace Go.Dd
open Go.Proofs Go.RowKit
theorem aGl : ∃ g', fG CF1 912 7 [.i .i64 (.ofNat 60000)] hS = some (.t [.p (aL 7) 0, .i .i64 (.ofNat 0)], g') ∧ Sim false hNZ g' := by
 obtain ⟨g, h1, h2⟩ := cIr
 rw [oL] at h1
 obtain ⟨g', h3, h4⟩ := yP 900 7 [.i .i64 (.ofNat 60000)] hS hS dOj _ _ h1
 exact ⟨g', h3, h2.tf h4⟩
noncomputable def gZ1 : Hp := Classical.choose aGl
theorem cCv : fG CF1 912 7 [.i .i64 (.ofNat 60000)] hS = some (.t [.p (aL 7) 0, .i .i64 (.ofNat 0)], gZ1) := (Classical.choose_spec aGl).1
theorem aZs : Sim false hNZ gZ1 := (Classical.choose_spec aGl).2
theorem bEs : bPu HLZ = true := by kernel_rfl
noncomputable def bOg : List DV → Hp → aH := sN aKs (.t [.p (aL 7) 0, .i .i64 (.ofNat 0)]) 26855 HLZ gZ1
theorem bEz (args : List DV) : SimP false (aWa args) (bOg args) := aBr aZs _ _ _
theorem bIk (args : List DV) (h : aKs args = true) : args = [.i .i64 (.ofNat 60000)] := by
 unfold aKs at h
 split at h
 ·rw [Nat.eq_of_beq_eq_true h]
 ·cases h
theorem bMd (G : Gd) : hZ Tryz.prog G 7 bOg :=
 aJv (fun G => xM 912 G 7) cCv aZs bEs (by rw [show (aL 26855).toNat = 27878 from by kernel_rfl]; decide) Tryz.f7 Tryz.func7 (by kernel_rfl) bIk aYn G
noncomputable def tM (n : Nat) : RT := fun g args h => bif Nat.beq g 7 then aWa args h else cA n g args h
noncomputable def kX : RT := fun g => bif Nat.beq g 7 then bOg else fG CF1 912 g
theorem recNZ1_ok : OkC CF1 kX := by
 refine ⟨pW, fun G g => ?_⟩
 unfold kX
 cases hg : Nat.beq g 7 with
 | true => cases Nat.eq_of_beq_eq_true hg; exact bMd G
 | false => exact xM 912 G g
theorem aMz (n : Nat) (g : FuncId) (args : List DV) (h : Hp) : tM n g args h = bif Nat.beq g 7 then aWa args h else cA n g args h := rfl
theorem aBl (g : FuncId) (args : List DV) : SimP false (tM 900 g args) (kX g args) := by
 intro h h' S
 rw [aMz]
 unfold kX
 cases hg : Nat.beq g 7 with
 | false =>
  rw [cond_false, cond_false, oL]
  exact yP 900 g args h h' S
 | true => exact bEz args h h' S
theorem dIl (g : FuncId) (args : List DV) : SimP false (bH CF (tM 900) g args) (bH CF1 kX g args) := by
 cases hg : CF.I g with
 | none => rw [dQ hg, dQ (qP hg)]; exact aBl g args
 | some F =>
  have e : bH CF (tM 900) g args = F args := by funext k; unfold bH; rw [hg]
  rw [e]
  have e1 : bH CF1 kX g args = bH CF1 (fG CF1 912) g args := by
   cases h10 : Nat.beq g 7 with
   | true =>
    cases Nat.eq_of_beq_eq_true h10
    exact absurd hg (by show ¬ CF.I 7 = some F; exact fun e => by cases e)
   | false =>
    funext k
    unfold bH kX
    rw [h10]
    rfl
  rw [e1]
  exact aCo g F hg 900 args
noncomputable def aHy : RT := fun g args h => bif Nat.beq g 25 then (match args with
 | [] => some (.b true, h)
 | _ => none) else tM 900 g args h
noncomputable def aBj : RT := fun g => bif Nat.beq g 25 then (fun args h => match args with
 | [] => some (.b true, h)
 | _ => none) else kX g
theorem bXf : OkC CF1 aBj := by
 refine ⟨pW, fun G g => ?_⟩
 unfold aBj
 cases hg : Nat.beq g 25 with
 | true =>
  cases Nat.eq_of_beq_eq_true hg
  obtain ⟨k, hk⟩ := aPh
  exact bDr (fun G => pU bTk Try_ok 912 25) hk Tryz.f25 Tryz.func25 (by kernel_rfl) G
 | false => exact recNZ1_ok.fns G g
theorem HCZ (g : FuncId) (args : List DV) : SimP false (bH CF aHy g args) (bH CF1 aBj g args) := by
 cases hg : CF.I g with
 | none =>
  rw [dQ hg, dQ (qP hg)]
  intro h h' S
  show SimR false (bif Nat.beq g 25 then (match args with
   | [] => some (.b true, h)
   | _ => none) else tM 900 g args h) ((bif Nat.beq g 25 then (fun args h => match args with
   | [] => some (.b true, h)
   | _ => none : List DV → Hp → aH) else kX g) args h')
  cases h16 : Nat.beq g 25 with
  | true =>
   rw [cond_true, cond_true]
   cases args with
   | nil => exact SimR.some S _
   | cons a l => exact SimR.none _
  | false => rw [cond_false, cond_false]; exact aBl g args h h' S
 | some F =>
  have e : bH CF aHy g args = F args := by funext k; unfold bH; rw [hg]
  have e0 : bH CF (tM 900) g args = F args := by funext k; unfold bH; rw [hg]
  have e1 : bH CF1 aBj g args = bH CF1 kX g args := by
   cases h16 : Nat.beq g 25 with
   | true =>
    cases Nat.eq_of_beq_eq_true h16
    exact absurd hg (by show ¬ CF.I 25 = some F; exact fun e => by cases e)
   | false =>
    funext k
    unfold bH aBj
    rw [h16]
    rfl
  rw [e, e1, ← e0]
  exact dIl g args
end Go.Dd

namespace Go.Dd
open Go.Proofs Go.RowKit
structure Pr where
 r2 : RT
 r1 : RT
 ok : OkC CF1 r1
 hc : ∀ g args, SimP false (bH CF r2 g args) (bH CF1 r1 g args)
structure Pf (f : FuncId) where
 f2 : List DV → Hp → aH
 f1 : List DV → Hp → aH
 ok : ∀ G, hZ Tryz.prog G f f1
 sim : ∀ args, SimP false (f2 args) (f1 args)
theorem cTs (g : FuncId) (args : List DV) : SimP false (bH CF (cA 900) g args) (bH CF1 (fG CF1 912) g args) := by
 cases hg : CF.I g with
 | none =>
  rw [dQ hg, dQ (qP hg)]
  intro h h' S
  rw [oL]
  exact yP 900 g args h h' S
 | some F =>
  have e : bH CF (cA 900) g args = F args := by funext k; unfold bH; rw [hg]
  rw [e]
  exact aCo g F hg 900 args
noncomputable def prB : Pr := ⟨cA 900, fG CF1 912, ⟨pW, fun G g => xM 912 G g⟩, cTs⟩
noncomputable def prZ : Pr := ⟨aHy, aBj, bXf, HCZ⟩
noncomputable def Pr.body (p : Pr) (f : FuncId) : Pf f where
 f2 := aF CF p.r2 900 f
 f1 := aF CF1 p.r1 912 f
 ok := fun G => pU p.ok Try_ok 912 f
 sim := fun args h h' S v k e => mZ (P := Tryz.prog) (I2 := CF.I) (I1 := CF1.I) p.hc 900 12 f args h h' S v k e
noncomputable def Pr.fn (p : Pr) (f : FuncId) (h2 : CF.I f = none) (h1 : CF1.I f = none) : Pf f where
 f2 := p.r2 f
 f1 := p.r1 f
 ok := fun G => p.ok.fns G f
 sim := fun args => by
  have := p.hc f args
  rwa [dQ h2, dQ h1] at this
noncomputable def Pf.fgt {f : FuncId} (F : Pf f) (fn : Func) (hf : Tryz.prog.funcs[f]? = some fn) (hb : fn.body.isSome = true) : Pf f where
 f2 := Go.Dd.fgt F.f2
 f1 := Go.Dd.fgt F.f1
 ok := cXv F.ok fn hf hb
 sim := fun args => cGx (F.sim args)
noncomputable def Pf.fgc {f : FuncId} (F : Pf f) (fn : Func) (hf : Tryz.prog.funcs[f]? = some fn) (hb : fn.body.isSome = true) : Pf f where
 f2 := Go.Dd.fgc F.f2
 f1 := Go.Dd.fgc F.f1
 ok := cVd F.ok fn hf hb
 sim := fun args => cIs (F.sim args)
noncomputable def Pf.fgv {f : FuncId} (F : Pf f) (ps : List Pos) (fn : Func) (hf : Tryz.prog.funcs[f]? = some fn) (hb : fn.body.isSome = true) : Pf f where
 f2 := Go.Dd.fgv ps F.f2
 f1 := Go.Dd.fgv ps F.f1
 ok := cQi F.ok fn hf hb
 sim := fun args => cLs (F.sim args)
noncomputable def Pr.ovr (p : Pr) (g : FuncId) (F : Pf g) (h2 : CF.I g = none) (h1 : CF1.I g = none) : Pr where
 r2 := Go.Dd.ovr p.r2 g F.f2
 r1 := Go.Dd.ovr p.r1 g F.f1
 ok := cXm p.ok F.ok
 hc := cDf p.hc h2 h1 F.sim
theorem Pr.law_at (p : Pr) {f : FuncId} {args : List DV} {h0 : Hp} {ρ : cM} (hr : ∃ k, aF CF p.r2 900 f args h0 = some (.b true, k)) (fn : Func) (hf : Tryz.prog.funcs[f]? = some fn) (hb : fn.body.isSome = true)
  (w : World) (R : Ro w ρ h0) (args' : Array Value) (hargs : VRs ρ args args'.toList) :
  Calls Tryz.prog f args' w fun e w' => e = .returned (.bool true) ∧ Below w.heap.size w w' := by
 obtain ⟨k, hk⟩ := hr
 obtain ⟨g, h1, _⟩ := mZ (P := Tryz.prog) (I2 := CF.I) (I1 := CF1.I) p.hc 900 12 f args h0 h0 R.sim _ _ hk
 have H := R.hr
 rcases pU p.ok Try_ok 912 f args h0 _ g h1 _ w args' H hargs with ⟨_, h⟩ | ⟨ρ', w', v', h, _⟩
 ·refine h.mono ?_
  rintro e w' ⟨ρ', v', rfl, h2, h3, h4, h5⟩
  cases h3
  exact ⟨rfl, h5.low⟩
 ·exfalso
  have hn : ¬ fn.name = "runtime.NumGoroutine" := by simpa using Try_ok.names f fn hf
  have hbn : fn.body ≠ none := by intro e; rw [e] at hb; cases hb
  unfold callFunc at h
  simp [show CF1.P.funcs[f]? = some fn from hf, hn, hbn] at h
noncomputable def psL : List Pos := [aL 26855, aL 26856, aL 26857, aL 26858]
noncomputable def dJr : Pf 116 := (prB.ovr 142 ((prB.fn 142 rfl rfl).fgt Tryz.f142 Tryz.func142 (by kernel_rfl)) rfl rfl).body 116
noncomputable def p63 : Pf 63 := ((prB.ovr 116 dJr rfl rfl).body 63).fgv psL Tryz.f63 Tryz.func63 (by kernel_rfl)
noncomputable def p26 : Pf 26 := ((prB.ovr 63 p63 rfl rfl).body 26).fgc Tryz.f26 Tryz.func26 (by kernel_rfl)
noncomputable def p65 : Pf 65 := ((prB.ovr 118 ((prB.fn 118 rfl rfl).fgt Tryz.f118 Tryz.func118 (by kernel_rfl)) rfl rfl).body 65).fgt Tryz.f65 Tryz.func65 (by kernel_rfl)
noncomputable def p27 : Pf 27 := ((prB.ovr 65 p65 rfl rfl).body 27).fgv psL Tryz.f27 Tryz.func27 (by kernel_rfl)
noncomputable def prL : Pr := ((prZ.ovr 24 ((prB.fn 24 rfl rfl).fgt Tryz.f24 Tryz.func24 (by kernel_rfl)) rfl rfl).ovr 26 p26 rfl rfl).ovr 27 p27 rfl rfl
end Go.Dd

