/- A part of the proof: HD OC T0 TL TM TN TP TQ TR HX HY HZ HF XLW SV HKB: each text has a comment of its own. -/
import Derived.Test.YtdpdcbdfgfeoeaaGreatRm3
set_option linter.unusedVariables false
set_option linter.unusedSimpArgs false
set_option linter.constructorNameAsVariable false
set_option maxRecDepth 100000
namespace Go.Dd
theorem lM : ∀ p q : Pos, mB p q = true → p = q
 | .h, .h, _ => rfl
 | .h, .o q, h => by cases h
 | .h, .i q, h => by cases h
 | .o p, .h, h => by cases h
 | .o p, .o q, h => by rw [lM p q h]
 | .o p, .i q, h => by cases h
 | .i p, .h, h => by cases h
 | .i p, .o q, h => by cases h
 | .i p, .i q, h => by rw [lM p q h]
theorem bHa (x y : Int) (h : bXm x y = true) : x = y := by
 cases x <;> cases y <;> simp only [bXm] at h
 ·rw [Nat.eq_of_beq_eq_true h]
 ·cases h
 ·cases h
 ·rw [Nat.eq_of_beq_eq_true h]
theorem aJi : ∀ t u : WT, wtE t u = true → t = u
 | .e, .e, _ => rfl
 | .e, .n _ _ _, h => by cases h
 | .n _ _ _, .e, h => by cases h
 | .n l v r, .n l' v' r', h => by
  have h' : (bXm v v' && (wtE l l' && wtE r r')) = true := h
  simp only [Bool.and_eq_true] at h'
  rw [bHa _ _ h'.1, aJi _ _ h'.2.1, aJi _ _ h'.2.2]
theorem aZd (x y : DV) (h : dvE x y = true) : x = y := by
 unfold dvE at h
 split at h <;> (try (cases h; done)) <;> (try rfl)
 ·rw [bHa _ _ h]
 ·rw [(aJw _ _).1 h]
 ·simp only [Bool.and_eq_true] at h
  rw [lM _ _ h.1, Nat.eq_of_beq_eq_true h.2]
 ·simp only [Bool.and_eq_true] at h
  rw [lM _ _ h.1, Nat.eq_of_beq_eq_true h.2.1, Nat.eq_of_beq_eq_true h.2.2.1, Nat.eq_of_beq_eq_true h.2.2.2]
 ·rw [lM _ _ h]
 ·simp at h; rw [h]
theorem aMo : ∀ l m : List DV, cVh l m = true → l = m
 | [], [], _ => rfl
 | [], _ :: _, h => by cases h
 | _ :: _, [], h => by cases h
 | x :: l, y :: m, h => by
  have h' : (dvE x y && cVh l m) = true := h
  simp only [Bool.and_eq_true] at h'
  rw [aZd _ _ h'.1, aMo _ _ h'.2]
theorem bDz : ∀ l m : List (DV × DV), dGi l m = true → l = m
 | [], [], _ => rfl
 | [], _ :: _, h => by cases h
 | _ :: _, [], h => by cases h
 | x :: l, y :: m, h => by
  have h' : (dvE x.1 y.1 && (dvE x.2 y.2 && dGi l m)) = true := h
  simp only [Bool.and_eq_true] at h'
  rw [bDz _ _ h'.2.2]
  congr 1
  exact Prod.ext (aZd _ _ h'.1) (aZd _ _ h'.2.1)
theorem dEc (o p : Ob) (h : obE o p = true) : o = p := by
 unfold obE at h
 split at h <;> (try (cases h; done))
 ·rw [aMo _ _ h]
 ·rw [bDz _ _ h]
 ·simp only [Bool.and_eq_true] at h
  rw [Nat.eq_of_beq_eq_true h.1, aJi _ _ h.2]
 ·rw [aJi _ _ h]
theorem aRs (t : Tr Ob) : ∀ l : List (Pos × Ob), cCd t l = true → ∀ x ∈ l, t.get x.1 = some x.2
 | [], _, x, hx => by cases hx
 | y :: l, h, x, hx => by
  have h' : ((match t.get y.1 with
   | some o => obE o y.2
   | none => false) && cCd t l) = true := h
  simp only [Bool.and_eq_true] at h'
  rcases List.mem_cons.1 hx with rfl | hx
  ·have h1 := h'.1
   split at h1
   ·rename_i o ho
    rw [ho, dEc _ _ h1]
   ·cases h1
  ·exact aRs t l h'.2 x hx
theorem xD : ∀ (l : List (Pos × Ob)) (b : Pos) (o : Ob), (dKa l).get b = some o → (b, o) ∈ l
 | [], b, o, h => by cases b <;> cases h
 | y :: l, b, o, h => by
  have h' : (Tr.set y.2 y.1 (dKa l)).get b = some o := h
  by_cases e : b = y.1
  ·subst e
   rw [eDv] at h'
   simp only [bE] at h'
   rw [← h']
   exact List.mem_cons_self
  ·rw [eDu _ _ _ _ e] at h'
   exact List.mem_cons_of_mem _ (xD l b o h')
theorem gH (o : Ob) : Rep 1 o o := by cases o <;> exact rfl
theorem Sim.refl (h : Hp) : Sim 1 h h := ⟨rfl, fun b o hb => ⟨o, hb, gH o⟩⟩
theorem iW {o o' : Ob} (h : Rep 1 o o') : o' = o := by cases o <;> exact h
theorem Sim.trans {a b c : Hp} (h : Sim 1 a b) (k : Sim 1 b c) : Sim 1 a c := ⟨k.next.trans h.next, fun p o hp => by
 obtain ⟨o', h1, h2⟩ := h.get p o hp
 rw [iW h2] at h1
 exact k.get p o h1⟩
theorem bCu {r : aH} {vs : List DV} {nx : Nat} {l : List (Pos × Ob)} (h : lK r vs nx l = true) : ∃ g, r = some (.t vs, g) ∧ Sim 1 (eH nx l) g := by
 unfold lK at h
 split at h <;> (try (cases h; done))
 rename_i us g
 simp only [Bool.and_eq_true] at h
 refine ⟨g, by rw [aMo _ _ h.1], ?_, fun b o hb => ⟨o, ?_, gH o⟩⟩
 ·exact lM _ _ h.2.1
 ·exact aRs _ _ h.2.2 (b, o) (xD _ _ _ hb)
end Go.Dd

namespace Go.Dd
inductive Out where
 | n (e : aO) (h : Hp)
 | x (i : Nat) (e : aO) (h : Hp)
 | r (e : aO) (h : Hp)
def eEv (o : Option Out) (X : Nat → K) (kr k : K) : aH :=
 match o with
 | none => none
 | some (.n e h) => k e h
 | some (.x i e h) => X i e h
 | some (.r e h) => kr e h
section
variable {C : Cfg} {rec : FuncId → List DV → Hp → aH} {nt : Nat}
theorem bGv (all : Array Oper) : ∀ l : List Oper, ∃ O : aO → Hp → Option (aO × Hp), ∀ k env h, gT C rec nt all l k env h = match O env h with
  | none => none
  | some (e, h) => k e h
 | [] => ⟨fun e h => some (e, h), fun k env h => rfl⟩
 | o :: l => by
  obtain ⟨O, hO⟩ := bGv all l
  refine ⟨fun env h => bif cT nt o.dst then (match bL C rec all o env h with
   | some (v, h') => O (bO env o.dst v) h'
   | none => none) else none, fun k env h => ?_⟩
  change cnd (cT nt o.dst) (bnd (bL C rec all o env h) fun v h' => gT C rec nt all l k (bO env o.dst v) h') = _
  cases cT nt o.dst with
  | false => rfl
  | true =>
   simp only [cond_true]
   cases hs : bL C rec all o env h with
   | none => rfl
   | some p => exact hO k _ _
theorem aQp (all : Array Oper) (m : Array Nat) (p0 : Pos) : ∀ (l : List Oper) (i c : Nat) (dirty : Bool) (rd : List Seen) (hs : List (Option Nat × Hp)), ∃ O : aO → Hp → Option (aO × Hp),
  ∀ k env h, eF C rec nt all m p0 l k i c dirty rd hs env h = match O env h with
   | none => none
   | some (e, h) => k e h
 | [], i, c, dirty, rd, hs => ⟨fun e h => some (e, h), fun k env h => rfl⟩
 | o :: l, i, c, dirty, rd, hs => by
  have ih := aQp all m p0 l
  cases hc : bS C.P o.op with
  | pure =>
   obtain ⟨O, hO⟩ := ih (i + 1) c dirty rd hs
   refine ⟨fun env h => bif cT nt o.dst then (match bL C rec all o env h with
    | some (v, h') => O (bO env o.dst v) h'
    | none => none) else none, fun k env h => ?_⟩
   have e : eF C rec nt all m p0 (o :: l) k i c dirty rd hs env h = cnd (cT nt o.dst) (bnd (bL C rec all o env h) fun v h' => eF C rec nt all m p0 l k (i + 1) c dirty rd hs (bO env o.dst v) h') := by
    change cnd (cT nt o.dst) (match bS C.P o.op with | .pure => _ | .reads => _ | .makes => _ | .acts => _) = _
    rw [hc]
    rfl
   rw [e]
   cases cT nt o.dst with
   | false => rfl
   | true =>
    simp only [cond_true]
    cases hs : bL C rec all o env h with
    | none => rfl
    | some p => exact hO k _ _
  | reads =>
   have hex : ∀ (env : aO) (v : DV), ∃ O : aO → Hp → Option (aO × Hp), ∀ k e h, eF C rec nt all m p0 l k (i + 1) c dirty (⟨i, bL C rec all o env, v⟩ :: rd) hs e h = match O e h with
    | none => none
    | some (e, h) => k e h := fun env v => ih (i + 1) c dirty (⟨i, bL C rec all o env, v⟩ :: rd) hs
   refine ⟨fun env h => bif cT nt o.dst then (match bL C rec all o env h with
    | some (v, h') => bif eJ m i v (bL C rec all o env) dirty hs then (hex env v).choose (bO env o.dst v) h' else none
    | none => none) else none, fun k env h => ?_⟩
   have e : eF C rec nt all m p0 (o :: l) k i c dirty rd hs env h = cnd (cT nt o.dst) (bnd (bL C rec all o env h) fun v h' =>
     cnd (eJ m i v (bL C rec all o env) dirty hs) (eF C rec nt all m p0 l k (i + 1) c dirty (⟨i, bL C rec all o env, v⟩ :: rd) hs (bO env o.dst v) h')) := by
    change cnd (cT nt o.dst) (match bS C.P o.op with | .pure => _ | .reads => _ | .makes => _ | .acts => _) = _
    rw [hc]
    rfl
   rw [e]
   cases cT nt o.dst with
   | false => rfl
   | true =>
    simp only [cond_true]
    cases hs2 : bL C rec all o env h with
    | none => rfl
    | some p =>
     obtain ⟨v, h'⟩ := p
     show cnd (eJ m i v (bL C rec all o env) dirty hs) _ = _
     cases hcc : eJ m i v (bL C rec all o env) dirty hs with
     | false => simp only [hcc, cond_false]
     | true => simp only [hcc, cond_true]; exact (hex env v).choose_spec k _ _
  | makes =>
   obtain ⟨O, hO⟩ := ih (i + 1) (c + 1) true rd hs
   refine ⟨fun env h => bif cT nt o.dst then (match dQ C o (bB c p0) env h with
    | some (v, h') => O (bO env o.dst v) h'
    | none => none) else none, fun k env h => ?_⟩
   have e : eF C rec nt all m p0 (o :: l) k i c dirty rd hs env h = cnd (cT nt o.dst) (bnd (dQ C o (bB c p0) env h) fun v h' => eF C rec nt all m p0 l k (i + 1) (c + 1) true rd hs (bO env o.dst v) h') := by
    change cnd (cT nt o.dst) (match bS C.P o.op with | .pure => _ | .reads => _ | .makes => _ | .acts => _) = _
    rw [hc]
    rfl
   rw [e]
   cases cT nt o.dst with
   | false => rfl
   | true =>
    simp only [cond_true]
    cases hs : dQ C o (bB c p0) env h with
    | none => rfl
    | some p => exact hO k _ _
  | acts =>
   have hex : ∀ h' : Hp, ∃ O : aO → Hp → Option (aO × Hp), ∀ k e h, eF C rec nt all m p0 l k (i + 1) c false rd ((some i, h') :: hs) e h = match O e h with
    | none => none
    | some (e, h) => k e h := fun h' => ih (i + 1) c false rd ((some i, h') :: hs)
   refine ⟨fun env h => bif cT nt o.dst then (match bL C rec all o env h with
    | some (v, h') => bif rd.all (fun q => gM m q.at_ i || aZ (q.look h') q.v) then (hex h').choose (bO env o.dst v) h' else none
    | none => none) else none, fun k env h => ?_⟩
   have e : eF C rec nt all m p0 (o :: l) k i c dirty rd hs env h = cnd (cT nt o.dst) (bnd (bL C rec all o env h) fun v h' =>
     cnd (rd.all (fun q => gM m q.at_ i || aZ (q.look h') q.v)) (eF C rec nt all m p0 l k (i + 1) c false rd ((some i, h') :: hs) (bO env o.dst v) h')) := by
    change cnd (cT nt o.dst) (match bS C.P o.op with | .pure => _ | .reads => _ | .makes => _ | .acts => _) = _
    rw [hc]
    rfl
   rw [e]
   cases cT nt o.dst with
   | false => rfl
   | true =>
    simp only [cond_true]
    cases hs2 : bL C rec all o env h with
    | none => rfl
    | some p =>
     obtain ⟨v, h'⟩ := p
     show cnd (rd.all (fun q => gM m q.at_ i || aZ (q.look h') q.v)) _ = _
     cases hcc : rd.all (fun q => gM m q.at_ i || aZ (q.look h') q.v) with
     | false => simp only [hcc, cond_false]
     | true => simp only [hcc, cond_true]; exact (hex h').choose_spec k _ _
theorem aQg (n : Nat) : ∀ c : Code, ∃ O : aO → Hp → Option Out, ∀ X kr k env h, aM C rec nt n c X kr k env h = eEv (O env h) X kr k := by
 have hfail : ∃ O : aO → Hp → Option Out, ∀ (X : Nat → K) (kr k : K) (env : aO) (h : Hp), cH env h = eEv (O env h) X kr k := ⟨fun _ _ => none, fun X kr k env h => rfl⟩
 intro c
 induction c with
 | skip => exact ⟨fun e h => some (.n e h), fun X kr k env h => rfl⟩
 | region id ops dr =>
  cases dr with
  | false =>
   obtain ⟨O, hO⟩ := bGv (C := C) (rec := rec) (nt := nt) ops ops.toList
   refine ⟨fun env h => (O env h).map fun p => .n p.1 p.2, fun X kr k env h => ?_⟩
   show gT C rec nt ops ops.toList k env h = _
   rw [hO]
   dsimp only
   cases hh : O env h <;> rfl
  | true =>
   cases hd : eL C.P ops with
   | false =>
    refine ⟨fun _ _ => none, fun X kr k env h => ?_⟩
    show (Bool.rec (motive := fun _ => K) cH (iF C rec nt ops k) (eL C.P ops)) env h = _
    rw [hd]; rfl
   | true =>
    have hex : ∀ h : Hp, _ := fun h => aQp (C := C) (rec := rec) (nt := nt) ops (Region.before ops) h.next ops.toList 0 0 false [] [(none, resv (cB C.P ops.toList) h)]
    refine ⟨fun env h => ((hex h).choose env (resv (cB C.P ops.toList) h)).map fun p => .n p.1 p.2, fun X kr k env h => ?_⟩
    have e : aM C rec nt n (.region id ops true) X kr k env h = iF C rec nt ops k env h := by
     show (Bool.rec (motive := fun _ => K) cH (iF C rec nt ops k) (eL C.P ops)) env h = _
     rw [hd]
    rw [e]
    unfold iF
    rw [(hex h).choose_spec k env _]
    dsimp only
    cases hh : (hex h).choose env (resv (cB C.P ops.toList) h) <;> rfl
 | seq x y ihx ihy =>
  obtain ⟨O1, h1⟩ := ihx
  obtain ⟨O2, h2⟩ := ihy
  refine ⟨fun env h => match O1 env h with
   | some (.n e h) => O2 e h
   | o => o, fun X kr k env h => ?_⟩
  show aM C rec nt n x X kr (aM C rec nt n y X kr k) env h = _
  rw [h1]
  dsimp only
  cases ho : O1 env h with
  | none => rfl
  | some o =>
   cases o with
   | n e h' => exact h2 X kr k e h'
   | x i e h' => rfl
   | r e h' => rfl
 | cond c x y ihx ihy =>
  obtain ⟨O1, h1⟩ := ihx
  obtain ⟨O2, h2⟩ := ihy
  refine ⟨fun env h => match opr env c with
   | .b true => O1 env h
   | .b false => O2 env h
   | _ => none, fun X kr k env h => ?_⟩
  show aT (opr env c) (aM C rec nt n x X kr k env h) (aM C rec nt n y X kr k env h) = _
  rw [h1, h2]
  unfold aT
  dsimp only
  cases opr env c <;> try rfl
  rename_i b
  cases b <;> rfl
 | block id x ih =>
  obtain ⟨O1, h1⟩ := ih
  refine ⟨fun env h => match O1 env h with
   | some (.x i e h') => bif Nat.beq i id then some (.n e h') else some (.x i e h')
   | o => o, fun X kr k env h => ?_⟩
  show aM C rec nt n x (fun j => bif Nat.beq j id then k else X j) kr k env h = _
  rw [h1]
  dsimp only
  cases ho : O1 env h with
  | none => rfl
  | some o =>
   cases o with
   | n e h' => rfl
   | r e h' => rfl
   | x i e h' =>
    simp only [eEv]
    cases hb : Nat.beq i id with
    | true => rfl
    | false => rfl
 | loop x ih =>
  obtain ⟨O1, h1⟩ := ih
  have key : ∀ m : Nat, ∃ O : aO → Hp → Option Out, ∀ (X : Nat → K) (kr k : K) env h, aL (fun kk => aM C rec nt n x X kr kk) m env h = eEv (O env h) X kr k := by
   intro m
   induction m with
   | zero => exact ⟨fun _ _ => none, fun X kr k env h => rfl⟩
   | succ m ihm =>
    obtain ⟨O2, h2⟩ := ihm
    refine ⟨fun env h => match O1 env h with
     | some (.n e h) => O2 e h
     | o => o, fun X kr k env h => ?_⟩
    show aM C rec nt n x X kr (aL (fun kk => aM C rec nt n x X kr kk) m) env h = _
    rw [h1]
    dsimp only
    cases ho : O1 env h with
    | none => rfl
    | some o =>
     cases o with
     | n e h' => exact h2 X kr k e h'
     | x i e h' => rfl
     | r e h' => rfl
  exact key n
 | rangeFunc f ps x y ihx ihy => exact hfail
 | exit id => exact ⟨fun e h => some (.x id e h), fun X kr k env h => rfl⟩
 | scope x ih => exact ih
 | label l => exact ⟨fun e h => some (.n e h), fun X kr k env h => rfl⟩
 | goto l => exact hfail
 | ret => exact ⟨fun e h => some (.r e h), fun X kr k env h => rfl⟩
 | refuse why => exact hfail
end
end Go.Dd

namespace Go.Dd
open Go.Proofs
noncomputable def t20 (rec : FuncId → List DV → Hp → aH) (n : Nat) (x0 x1 : DV) (h0 : Hp) : aH :=
 bnd (aE .eql x1 (.i .i64 (Int.ofNat 0)) h0) fun v1 h1 =>
 bnd (gD v1 false (some (x1, h1)) h1) fun v2 h2 =>
 bnd (gD v1 false (aE .eql v2 (.i .i64 (Int.ofNat 2)) h2) h2) fun v3 h3 =>
 bnd (aP v1 (.b true) v3 h3) fun v4 h4 =>
 bnd (gD v4 false (some (x1, h4)) h4) fun v5 h5 =>
 bnd (gD v4 false (aE .eql v5 (.i .i64 (Int.ofNat 4)) h5) h5) fun v6 h6 =>
 bnd (aP v4 (.b true) v6 h6) fun v7 h7 =>
 bnd (gD v7 false (some (x1, h7)) h7) fun v8 h8 =>
 bnd (gD v7 false (rec 54 [v8] h8) h8) fun v9 h9 =>
 bnd (aP v7 (.b true) v9 h9) fun v10 h10 =>
 bnd (gD v10 false (some (x0, h10)) h10) fun v11 h11 =>
 bnd (gD v10 false (some (x1, h11)) h11) fun v12 h12 =>
 bnd (gD v10 false (rec 21 [v11, v12] h12) h12) fun v13 h13 =>
 bnd (aP v10 (.b true) v13 h13) fun v14 h14 =>
 some (v14, h14)
noncomputable def E20 (rec : FuncId → List DV → Hp → aH) (n : Nat) (c : Code) (X : Nat → K) (k : K) : K := aM CF1 rec 24 n c X (aQ CF1 Tryz.f20) k
theorem eAo (rec : FuncId → List DV → Hp → aH) (n : Nat) : E20 rec n (cf Tryz.f20) x0 (aQ CF1 Tryz.f20) = (fun (env : aO) (h : Hp) => t20 rec n (env 0) (env 1) h) :=
 (by kernel_rfl)
theorem dWc (rec : FuncId → List DV → Hp → aH) (n : Nat) (args : List DV) (h : Hp) : aG CF1 rec n 20 args h = t20 rec n (args.getD 0 aX) (args.getD 1 aX) h :=
 (by kernel_rfl : aG CF1 rec n 20 args h = E20 rec n (cf Tryz.f20) x0 (aQ CF1 Tryz.f20) (aK args) h).trans ((congrFun (congrFun (eAo rec n) (aK args)) h).trans (by kernel_rfl))
noncomputable def t21 (rec : FuncId → List DV → Hp → aH) (n : Nat) (x0 x1 : DV) (h0 : Hp) : aH :=
 bnd (rec 63 [x1] h0) fun v1 h1 =>
 bnd (gD v1 true (some (x0, h1)) h1) fun v2 h2 =>
 bnd (gD v1 true (aU v2 h2) h2) fun v3 h3 =>
 bnd (gD v1 true (aB 3 v3 h3) h3) fun v4 h4 =>
 bnd (gD v1 true (aA v4 h4) h4) fun v5 h5 =>
 bnd (gD v1 true (some (x1, h5)) h5) fun v6 h6 =>
 bnd (gD v1 true (rec 64 [v6] h6) h6) fun v7 h7 =>
 cnd (aZ (gD v1 true (aA v4 h7) h7) v5 && true) (
 bnd (gD v1 true (gL (.int .i64) (.b false) false v5 v7 h7) h7) fun v8 h8 =>
 bnd (aP v1 v8 (.b false) h8) fun v9 h9 =>
 some (v9, h9))
noncomputable def E21 (rec : FuncId → List DV → Hp → aH) (n : Nat) (c : Code) (X : Nat → K) (k : K) : K := aM CF1 rec 16 n c X (aQ CF1 Tryz.f21) k
theorem eAh (rec : FuncId → List DV → Hp → aH) (n : Nat) : E21 rec n (cf Tryz.f21) x0 (aQ CF1 Tryz.f21) = (fun (env : aO) (h : Hp) => t21 rec n (env 0) (env 1) h) :=
 (by kernel_rfl)
theorem dQn (rec : FuncId → List DV → Hp → aH) (n : Nat) (args : List DV) (h : Hp) : aG CF1 rec n 21 args h = t21 rec n (args.getD 0 aX) (args.getD 1 aX) h :=
 (by kernel_rfl : aG CF1 rec n 21 args h = E21 rec n (cf Tryz.f21) x0 (aQ CF1 Tryz.f21) (aK args) h).trans ((congrFun (congrFun (eAh rec n) (aK args)) h).trans (by kernel_rfl))
noncomputable def t22 (rec : FuncId → List DV → Hp → aH) (n : Nat) (x0 : DV) (h0 : Hp) : aH :=
 bnd (aU x0 h0) fun v1 h1 =>
 bnd (aB 0 v1 h1) fun v2 h2 =>
 bnd (aA v2 h2) fun v3 h3 =>
 bnd (bT v3 h3) fun v4 h4 =>
 some (v4, h4)
noncomputable def E22 (rec : FuncId → List DV → Hp → aH) (n : Nat) (c : Code) (X : Nat → K) (k : K) : K := aM CF1 rec 8 n c X (aQ CF1 Tryz.f22) k
theorem eBl (rec : FuncId → List DV → Hp → aH) (n : Nat) : E22 rec n (cf Tryz.f22) x0 (aQ CF1 Tryz.f22) = (fun (env : aO) (h : Hp) => t22 rec n (env 0) h) :=
 (by kernel_rfl)
theorem dRa (rec : FuncId → List DV → Hp → aH) (n : Nat) (args : List DV) (h : Hp) : aG CF1 rec n 22 args h = t22 rec n (args.getD 0 aX) h :=
 (by kernel_rfl : aG CF1 rec n 22 args h = E22 rec n (cf Tryz.f22) x0 (aQ CF1 Tryz.f22) (aK args) h).trans ((congrFun (congrFun (eBl rec n) (aK args)) h).trans (by kernel_rfl))
noncomputable def t29 (rec : FuncId → List DV → Hp → aH) (n : Nat) (x0 : DV) (h0 : Hp) : aH :=
 bnd (aU x0 h0) fun v1 h1 =>
 bnd (aB 0 v1 h1) fun v2 h2 =>
 bnd (aA v2 h2) fun v3 h3 =>
 bnd (bT v3 h3) fun v4 h4 =>
 bnd (aU x0 h4) fun v5 h5 =>
 bnd (aB 1 v5 h5) fun v6 h6 =>
 bnd (aA v6 h6) fun v7 h7 =>
 bnd (aE .sub v4 v7 h7) fun v8 h8 =>
 some (v8, h8)
noncomputable def E29 (rec : FuncId → List DV → Hp → aH) (n : Nat) (c : Code) (X : Nat → K) (k : K) : K := aM CF1 rec 13 n c X (aQ CF1 Tryz.f29) k
theorem eCp (rec : FuncId → List DV → Hp → aH) (n : Nat) : E29 rec n (cf Tryz.f29) x0 (aQ CF1 Tryz.f29) = (fun (env : aO) (h : Hp) => t29 rec n (env 0) h) :=
 (by kernel_rfl)
theorem dYc (rec : FuncId → List DV → Hp → aH) (n : Nat) (args : List DV) (h : Hp) : aG CF1 rec n 29 args h = t29 rec n (args.getD 0 aX) h :=
 (by kernel_rfl : aG CF1 rec n 29 args h = E29 rec n (cf Tryz.f29) x0 (aQ CF1 Tryz.f29) (aK args) h).trans ((congrFun (congrFun (eCp rec n) (aK args)) h).trans (by kernel_rfl))
noncomputable def t30 (rec : FuncId → List DV → Hp → aH) (n : Nat) (x0 x1 x2 x3 : DV) (h0 : Hp) : aH :=
 bnd (rec 74 [x0, x1] h0) fun v1 h1 =>
 bnd (fV .not v1 h1) fun v2 h2 =>
 bnd (gD v2 false (some (x2, h2)) h2) fun v3 h3 =>
 bnd (gD v2 false (aE .lss v3 (.i .i64 (Int.ofNat 0)) h3) h3) fun v4 h4 =>
 bnd (aP v2 (.b true) v4 h4) fun v5 h5 =>
 bnd (gD v5 false (some (x2, h5)) h5) fun v6 h6 =>
 bnd (gD v5 false (aE .gtr v6 (.i .i64 (Int.ofNat 2)) h6) h6) fun v7 h7 =>
 bnd (aP v5 (.b true) v7 h7) fun v8 h8 =>
 bnd (gD v8 false (some (x3, h8)) h8) fun v9 h9 =>
 bnd (gD v8 false (aE .lss v9 (.i .i64 (Int.ofNat 0)) h9) h9) fun v10 h10 =>
 bnd (aP v8 (.b true) v10 h10) fun v11 h11 =>
 bnd (gD v11 false (some (x3, h11)) h11) fun v12 h12 =>
 bnd (gD v11 false (aE .gtr v12 (.i .i64 (Int.ofNat 256)) h12) h12) fun v13 h13 =>
 bnd (aP v11 (.b true) v13 h13) fun v14 h14 =>
 aT v14 (
  some (.t [(.i .i64 (Int.ofNat 0)), (.i .i64 (Int.ofNat 1))], h14)) (
  bnd (rec 29 [x0] h14) fun v15 h15 =>
  bnd (aE .add x3 (.i .i64 (Int.ofNat 3)) h15) fun v16 h16 =>
  bnd (aE .lss v15 v16 h16) fun v17 h17 =>
  bnd (gD v17 false (some (x0, h17)) h17) fun v18 h18 =>
  bnd (gD v17 false (aU v18 h18) h18) fun v19 h19 =>
  bnd (gD v17 false (aB 2 v19 h19) h19) fun v20 h20 =>
  bnd (gD v17 false (aA v20 h20) h20) fun v21 h21 =>
  bnd (gD v17 false (aE .geq v21 (.i .i64 (Int.ofNat 1099511627776)) h21) h21) fun v22 h22 =>
  bnd (aP v17 (.b true) v22 h22) fun v23 h23 =>
  aT v23 (
   some (.t [(.i .i64 (Int.ofNat 0)), (.i .i64 (Int.ofNat 4))], h23)) (
   bnd (aU x0 h23) fun v24 h24 =>
   bnd (aB 1 v24 h24) fun v25 h25 =>
   bnd (aA v25 h25) fun v26 h26 =>
   bnd (aU x0 h26) fun v27 h27 =>
   bnd (aB 2 v27 h27) fun v28 h28 =>
   bnd (aA v28 h28) fun v29 h29 =>
   bnd (aE .add v29 (.i .i64 (Int.ofNat 1)) h29) fun v30 h30 =>
   bnd (aU x0 h30) fun v31 h31 =>
   bnd (aB 2 v31 h31) fun v32 h32 =>
   bnd (aC 1 v32 v30 h32) fun _ h33 =>
   bnd (aU x0 h33) fun v34 h34 =>
   bnd (aB 0 v34 h34) fun v35 h35 =>
   bnd (aA v35 h35) fun v36 h36 =>
   bnd (aU x0 h36) fun v37 h37 =>
   bnd (aB 0 v37 h37) fun v38 h38 =>
   bnd (aA v38 h38) fun v39 h39 =>
   bnd (aE .add v26 (.i .i64 (Int.ofNat 1)) h39) fun v40 h40 =>
   bnd (aU x0 h40) fun v41 h41 =>
   bnd (aB 0 v41 h41) fun v42 h42 =>
   bnd (aA v42 h42) fun v43 h43 =>
   bnd (aE .add v26 (.i .i64 (Int.ofNat 2)) h43) fun v44 h44 =>
   bnd (dE .shl x3 (.i .u64 (Int.ofNat 2)) h44) fun v45 h45 =>
   bnd (aE .or v45 x2 h45) fun v46 h46 =>
   bnd (aU x0 h46) fun v47 h47 =>
   bnd (aB 2 v47 h47) fun v48 h48 =>
   bnd (aA v48 h48) fun v49 h49 =>
   bnd (aJ 1 v36 v26 h49) fun v50 h50 =>
   bnd (aC 1 v50 v46 h50) fun v51 h51 =>
   bnd (aJ 1 v39 v40 h51) fun v52 h52 =>
   bnd (aC 1 v52 x1 h52) fun v53 h53 =>
   bnd (aJ 1 v43 v44 h53) fun v54 h54 =>
   bnd (aC 1 v54 v49 h54) fun v55 h55 =>
   bnd (aU x0 h55) fun v56 h56 =>
   bnd (aB 0 v56 h56) fun v57 h57 =>
   bnd (aA v57 h57) fun v58 h58 =>
   bnd (aE .add v26 (.i .i64 (Int.ofNat 3)) h58) fun v59 h59 =>
   bnd (aE .add v26 (.i .i64 (Int.ofNat 3)) h59) fun v60 h60 =>
   bnd (aE .add v60 x3 h60) fun v61 h61 =>
   bnd (cS 1 v58 (some v59) (some v61) h61) fun v62 h62 =>
   bnd (jH [(.i .i64 (Int.ofNat 0))] v62 h62) fun _ h63 =>
   bnd (aU x0 h63) fun v64 h64 =>
   bnd (aB 1 v64 h64) fun v65 h65 =>
   bnd (aA v65 h65) fun v66 h66 =>
   bnd (aE .add x3 (.i .i64 (Int.ofNat 3)) h66) fun v67 h67 =>
   bnd (aE .add v66 v67 h67) fun v68 h68 =>
   bnd (aU x0 h68) fun v69 h69 =>
   bnd (aB 1 v69 h69) fun v70 h70 =>
   bnd (aC 1 v70 v68 h70) fun _ h71 =>
   bnd (aU x0 h71) fun v72 h72 =>
   bnd (aB 3 v72 h72) fun v73 h73 =>
   bnd (aA v73 h73) fun v74 h74 =>
   bnd (gK (.int .i64) v74 v26 (.b true) h74) fun _ h75 =>
   bnd (rec 75 [v26] h75) fun v76 h76 =>
   bnd (aD 0 v76 h76) fun v77 h77 =>
   bnd (aD 1 v76 h77) fun v78 h78 =>
   some (.t [v77, (.i .i64 (Int.ofNat 0))], h78)))
noncomputable def E30 (rec : FuncId → List DV → Hp → aH) (n : Nat) (c : Code) (X : Nat → K) (k : K) : K := aM CF1 rec 118 n c X (aQ CF1 Tryz.f30) k
theorem eBg (rec : FuncId → List DV → Hp → aH) (n : Nat) : E30 rec n (cf Tryz.f30) x0 (aQ CF1 Tryz.f30) = (fun (env : aO) (h : Hp) => t30 rec n (env 0) (env 1) (env 2) (env 3) h) :=
 (by kernel_rfl)
theorem dUh (rec : FuncId → List DV → Hp → aH) (n : Nat) (args : List DV) (h : Hp) : aG CF1 rec n 30 args h = t30 rec n (args.getD 0 aX) (args.getD 1 aX) (args.getD 2 aX) (args.getD 3 aX) h :=
 (by kernel_rfl : aG CF1 rec n 30 args h = E30 rec n (cf Tryz.f30) x0 (aQ CF1 Tryz.f30) (aK args) h).trans ((congrFun (congrFun (eBg rec n) (aK args)) h).trans (by kernel_rfl))
noncomputable def t41 (rec : FuncId → List DV → Hp → aH) (n : Nat) (x0 : DV) (h0 : Hp) : aH :=
 bnd (aE .lss x0 (.i .i64 (Int.ofNat 16)) h0) fun v1 h1 =>
 bnd (gD v1 false (some (x0, h1)) h1) fun v2 h2 =>
 bnd (gD v1 false (aE .gtr v2 (.i .i64 (Int.ofNat 131072)) h2) h2) fun v3 h3 =>
 bnd (aP v1 (.b true) v3 h3) fun v4 h4 =>
 aT v4 (
  some (.p0, h4)) (
  bnd (cG 1 8 [(.i .i64 (Int.ofNat 0))] x0 x0 h4) fun v5 h5 =>
  bnd (dX h5) fun v6 h6 =>
  bnd (bA [.l0, (.i .i64 (Int.ofNat 0)), (.i .i64 (Int.ofNat 0)), .m0] [(0, 1, v5), (1, 1, (.i .i64 (Int.ofNat 3))), (3, 1, v6)] h6) fun v7 h7 =>
  bnd (bN v7 h7) fun v8 h8 =>
  some (v8, h8))
noncomputable def E41 (rec : FuncId → List DV → Hp → aH) (n : Nat) (c : Code) (X : Nat → K) (k : K) : K := aM CF1 rec 14 n c X (aQ CF1 Tryz.f41) k
theorem eCo (rec : FuncId → List DV → Hp → aH) (n : Nat) : E41 rec n (cf Tryz.f41) x0 (aQ CF1 Tryz.f41) = (fun (env : aO) (h : Hp) => t41 rec n (env 0) h) :=
 (by kernel_rfl)
theorem dDx (rec : FuncId → List DV → Hp → aH) (n : Nat) (args : List DV) (h : Hp) : aG CF1 rec n 41 args h = t41 rec n (args.getD 0 aX) h :=
 (by kernel_rfl : aG CF1 rec n 41 args h = E41 rec n (cf Tryz.f41) x0 (aQ CF1 Tryz.f41) (aK args) h).trans ((congrFun (congrFun (eCo rec n) (aK args)) h).trans (by kernel_rfl))
noncomputable def t44 (rec : FuncId → List DV → Hp → aH) (n : Nat) (x0 x1 x2 : DV) (h0 : Hp) : aH :=
 bnd (rec 105 [x0, x1] h0) fun v1 h1 =>
 bnd (aE .eql v1 (.i .i64 (Int.ofNat 0)) h1) fun v2 h2 =>
 bnd (gD v2 false (some (x0, h2)) h2) fun v3 h3 =>
 bnd (gD v2 false (some (x2, h3)) h3) fun v4 h4 =>
 bnd (gD v2 false (rec 74 [v3, v4] h4) h4) fun v5 h5 =>
 bnd (gD v2 false (fV .not v5 h5) h5) fun v6 h6 =>
 bnd (aP v2 (.b true) v6 h6) fun v7 h7 =>
 aT v7 (
  some ((.i .i64 (Int.ofNat 1)), h7)) (
  bnd (aU x0 h7) fun v8 h8 =>
  bnd (aB 0 v8 h8) fun v9 h9 =>
  bnd (aA v9 h9) fun v10 h10 =>
  bnd (aE .add v1 (.i .i64 (Int.ofNat 1)) h10) fun v11 h11 =>
  bnd (aJ 1 v10 v11 h11) fun v12 h12 =>
  bnd (aC 1 v12 x2 h12) fun _ h13 =>
  some ((.i .i64 (Int.ofNat 0)), h13))
noncomputable def E44 (rec : FuncId → List DV → Hp → aH) (n : Nat) (c : Code) (X : Nat → K) (k : K) : K := aM CF1 rec 27 n c X (aQ CF1 Tryz.f44) k
theorem eCq (rec : FuncId → List DV → Hp → aH) (n : Nat) : E44 rec n (cf Tryz.f44) x0 (aQ CF1 Tryz.f44) = (fun (env : aO) (h : Hp) => t44 rec n (env 0) (env 1) (env 2) h) :=
 (by kernel_rfl)
theorem dTk (rec : FuncId → List DV → Hp → aH) (n : Nat) (args : List DV) (h : Hp) : aG CF1 rec n 44 args h = t44 rec n (args.getD 0 aX) (args.getD 1 aX) (args.getD 2 aX) h :=
 (by kernel_rfl : aG CF1 rec n 44 args h = E44 rec n (cf Tryz.f44) x0 (aQ CF1 Tryz.f44) (aK args) h).trans ((congrFun (congrFun (eCq rec n) (aK args)) h).trans (by kernel_rfl))
noncomputable def sR (rec : FuncId → List DV → Hp → aH) (n : Nat) (x0 x3 x9 : DV) (h0 : Hp) : aH :=
 bnd (aU x0 h0) fun v1 h1 =>
 bnd (aB 0 v1 h1) fun v2 h2 =>
 bnd (aA v2 h2) fun v3 h3 =>
 bnd (aJ 1 v3 x9 h3) fun v4 h4 =>
 bnd (aC 1 v4 x3 h4) fun _ h5 =>
 some ((.i .i64 (Int.ofNat 0)), h5)
noncomputable def bAv (rec : FuncId → List DV → Hp → aH) (n : Nat) (x0 x1 x3 x9 : DV) (h0 : Hp) : aH :=
 bnd (rec 51 [x0, x1] h0) fun v11 h11 =>
 bnd (aE .eql v11 (.i .i64 (Int.ofNat 0)) h11) fun v12 h12 =>
 aT v12 (
  bnd (rec 20 [x0, x3] h12) fun v13 h13 =>
  bnd (fV .not v13 h13) fun v14 h14 =>
  aT v14 (
   some ((.i .i64 (Int.ofNat 6)), h14)) (
   sR rec n x0 x3 x9 h14)) (
  bnd (aE .eql v11 (.i .i64 (Int.ofNat 2)) h12) fun v15 h15 =>
  aT v15 (
   bnd (aE .lss x3 (.i .i64 (Int.ofNat 0)) h15) fun v16 h16 =>
   bnd (gD v16 false (some (x3, h16)) h16) fun v17 h17 =>
   bnd (gD v16 false (aE .gtr v17 (.i .i64 (Int.ofNat 255)) h17) h17) fun v18 h18 =>
   bnd (aP v16 (.b true) v18 h18) fun v19 h19 =>
   aT v19 (
    some ((.i .i64 (Int.ofNat 6)), h19)) (
    sR rec n x0 x3 x9 h19)) (
   sR rec n x0 x3 x9 h15))
noncomputable def aPu (rec : FuncId → List DV → Hp → aH) (n : Nat) (x0 x1 x3 x9 x10 : DV) (h0 : Hp) : aH :=
 bnd (aE .neq x10 (.i .i64 (Int.ofNat 0)) h0) fun v29 h29 =>
 aT v29 (
  some (x10, h29)) (
  bAv rec n x0 x1 x3 x9 h29)
noncomputable def bHl (rec : FuncId → List DV → Hp → aH) (n : Nat) (x0 x1 x2 x3 : DV) (h0 : Hp) : aH :=
 bnd (rec 107 [x0, x1, x2] h0) fun v31 h31 =>
 bnd (aD 0 v31 h31) fun v32 h32 =>
 bnd (aD 1 v31 h32) fun v33 h33 =>
 aPu rec n x0 x1 x3 v32 v33 h33
noncomputable def t47 (rec : FuncId → List DV → Hp → aH) (n : Nat) (x0 x1 x2 x3 : DV) (h0 : Hp) : aH :=
 bHl rec n x0 x1 x2 x3 h0
noncomputable def E47 (rec : FuncId → List DV → Hp → aH) (n : Nat) (c : Code) (X : Nat → K) (k : K) : K := aM CF1 rec 45 n c X (aQ CF1 Tryz.f47) k
theorem dIs (rec : FuncId → List DV → Hp → aH) (n : Nat) : E47 rec n (cR (cR (cR (cR (cf Tryz.f47))))) x0 (aQ CF1 Tryz.f47) = (fun (env : aO) (h : Hp) => sR rec n (env 0) (env 3) (env 9) h) :=
 (by kernel_rfl)
theorem cNm (rec : FuncId → List DV → Hp → aH) (n : Nat) : E47 rec n (cR (cR (cR (cf Tryz.f47)))) x0 (aQ CF1 Tryz.f47) = E47 rec n (cL (cR (cR (cR (cf Tryz.f47))))) x0 (fun (env : aO) (h : Hp) => sR rec n (env 0) (env 3) (env 9) h) :=
 congrArg (fun k => E47 rec n (cL (cR (cR (cR (cf Tryz.f47))))) x0 k) (dIs rec n)
theorem dNl (rec : FuncId → List DV → Hp → aH) (n : Nat) : E47 rec n (cR (cR (cR (cf Tryz.f47)))) x0 (aQ CF1 Tryz.f47) = (fun (env : aO) (h : Hp) => bAv rec n (env 0) (env 1) (env 3) (env 9) h) :=
 (cNm rec n).trans
 ((by kernel_rfl))
theorem cXq (rec : FuncId → List DV → Hp → aH) (n : Nat) : E47 rec n (cR (cR (cf Tryz.f47))) x0 (aQ CF1 Tryz.f47) = E47 rec n (cL (cR (cR (cf Tryz.f47)))) x0 (fun (env : aO) (h : Hp) => bAv rec n (env 0) (env 1) (env 3) (env 9) h) :=
 congrArg (fun k => E47 rec n (cL (cR (cR (cf Tryz.f47)))) x0 k) (dNl rec n)
theorem dOa (rec : FuncId → List DV → Hp → aH) (n : Nat) : E47 rec n (cR (cR (cf Tryz.f47))) x0 (aQ CF1 Tryz.f47) = (fun (env : aO) (h : Hp) => aPu rec n (env 0) (env 1) (env 3) (env 9) (env 10) h) :=
 (cXq rec n).trans
 ((by kernel_rfl))
theorem cOb (rec : FuncId → List DV → Hp → aH) (n : Nat) : E47 rec n (cR (cf Tryz.f47)) x0 (aQ CF1 Tryz.f47) = E47 rec n (cL (cR (cf Tryz.f47))) x0 (fun (env : aO) (h : Hp) => aPu rec n (env 0) (env 1) (env 3) (env 9) (env 10) h) :=
 congrArg (fun k => E47 rec n (cL (cR (cf Tryz.f47))) x0 k) (dOa rec n)
theorem dPs (rec : FuncId → List DV → Hp → aH) (n : Nat) : E47 rec n (cR (cf Tryz.f47)) x0 (aQ CF1 Tryz.f47) = (fun (env : aO) (h : Hp) => bHl rec n (env 0) (env 1) (env 2) (env 3) h) :=
 (cOb rec n).trans
 ((by kernel_rfl))
theorem dVm (rec : FuncId → List DV → Hp → aH) (n : Nat) : E47 rec n (cf Tryz.f47) x0 (aQ CF1 Tryz.f47) = E47 rec n (cL (cf Tryz.f47)) x0 (fun (env : aO) (h : Hp) => bHl rec n (env 0) (env 1) (env 2) (env 3) h) :=
 congrArg (fun k => E47 rec n (cL (cf Tryz.f47)) x0 k) (dPs rec n)
theorem dZm (rec : FuncId → List DV → Hp → aH) (n : Nat) : E47 rec n (cf Tryz.f47) x0 (aQ CF1 Tryz.f47) = (fun (env : aO) (h : Hp) => t47 rec n (env 0) (env 1) (env 2) (env 3) h) :=
 (dVm rec n).trans
 ((by kernel_rfl))
theorem dYv (rec : FuncId → List DV → Hp → aH) (n : Nat) (args : List DV) (h : Hp) : aG CF1 rec n 47 args h = t47 rec n (args.getD 0 aX) (args.getD 1 aX) (args.getD 2 aX) (args.getD 3 aX) h :=
 (by kernel_rfl : aG CF1 rec n 47 args h = E47 rec n (cf Tryz.f47) x0 (aQ CF1 Tryz.f47) (aK args) h).trans ((congrFun (congrFun (dZm rec n) (aK args)) h).trans (by kernel_rfl))
noncomputable def t50 (rec : FuncId → List DV → Hp → aH) (n : Nat) (x0 x1 : DV) (h0 : Hp) : aH :=
 bnd (aU x0 h0) fun v1 h1 =>
 bnd (aB 0 v1 h1) fun v2 h2 =>
 bnd (aA v2 h2) fun v3 h3 =>
 bnd (rec 105 [x0, x1] h3) fun v4 h4 =>
 cnd (aZ (aA v2 h4) v3 && true) (
 bnd (aE .add v4 (.i .i64 (Int.ofNat 1)) h4) fun v5 h5 =>
 bnd (aJ 1 v3 v5 h5) fun v6 h6 =>
 bnd (aA v6 h6) fun v7 h7 =>
 some (v7, h7))
noncomputable def E50 (rec : FuncId → List DV → Hp → aH) (n : Nat) (c : Code) (X : Nat → K) (k : K) : K := aM CF1 rec 15 n c X (aQ CF1 Tryz.f50) k
theorem eDp (rec : FuncId → List DV → Hp → aH) (n : Nat) : E50 rec n (cf Tryz.f50) x0 (aQ CF1 Tryz.f50) = (fun (env : aO) (h : Hp) => t50 rec n (env 0) (env 1) h) :=
 (by kernel_rfl)
theorem dTi (rec : FuncId → List DV → Hp → aH) (n : Nat) (args : List DV) (h : Hp) : aG CF1 rec n 50 args h = t50 rec n (args.getD 0 aX) (args.getD 1 aX) h :=
 (by kernel_rfl : aG CF1 rec n 50 args h = E50 rec n (cf Tryz.f50) x0 (aQ CF1 Tryz.f50) (aK args) h).trans ((congrFun (congrFun (eDp rec n) (aK args)) h).trans (by kernel_rfl))
noncomputable def t51 (rec : FuncId → List DV → Hp → aH) (n : Nat) (x0 x1 : DV) (h0 : Hp) : aH :=
 bnd (aU x0 h0) fun v1 h1 =>
 bnd (aB 0 v1 h1) fun v2 h2 =>
 bnd (aA v2 h2) fun v3 h3 =>
 bnd (rec 105 [x0, x1] h3) fun v4 h4 =>
 cnd (aZ (aA v2 h4) v3 && true) (
 bnd (aJ 1 v3 v4 h4) fun v5 h5 =>
 bnd (aA v5 h5) fun v6 h6 =>
 bnd (aE .and v6 (.i .i64 (Int.ofNat 3)) h6) fun v7 h7 =>
 some (v7, h7))
noncomputable def E51 (rec : FuncId → List DV → Hp → aH) (n : Nat) (c : Code) (X : Nat → K) (k : K) : K := aM CF1 rec 15 n c X (aQ CF1 Tryz.f51) k
theorem dYy (rec : FuncId → List DV → Hp → aH) (n : Nat) : E51 rec n (cf Tryz.f51) x0 (aQ CF1 Tryz.f51) = (fun (env : aO) (h : Hp) => t51 rec n (env 0) (env 1) h) :=
 (by kernel_rfl)
theorem dSn (rec : FuncId → List DV → Hp → aH) (n : Nat) (args : List DV) (h : Hp) : aG CF1 rec n 51 args h = t51 rec n (args.getD 0 aX) (args.getD 1 aX) h :=
 (by kernel_rfl : aG CF1 rec n 51 args h = E51 rec n (cf Tryz.f51) x0 (aQ CF1 Tryz.f51) (aK args) h).trans ((congrFun (congrFun (dYy rec n) (aK args)) h).trans (by kernel_rfl))
noncomputable def t52 (rec : FuncId → List DV → Hp → aH) (n : Nat) (x0 x1 : DV) (h0 : Hp) : aH :=
 bnd (aU x0 h0) fun v1 h1 =>
 bnd (aB 0 v1 h1) fun v2 h2 =>
 bnd (aA v2 h2) fun v3 h3 =>
 bnd (rec 105 [x0, x1] h3) fun v4 h4 =>
 cnd (aZ (aA v2 h4) v3 && true) (
 bnd (aJ 1 v3 v4 h4) fun v5 h5 =>
 bnd (aA v5 h5) fun v6 h6 =>
 bnd (dE .shr v6 (.i .u64 (Int.ofNat 2)) h6) fun v7 h7 =>
 some (v7, h7))
noncomputable def E52 (rec : FuncId → List DV → Hp → aH) (n : Nat) (c : Code) (X : Nat → K) (k : K) : K := aM CF1 rec 15 n c X (aQ CF1 Tryz.f52) k
theorem eDr (rec : FuncId → List DV → Hp → aH) (n : Nat) : E52 rec n (cf Tryz.f52) x0 (aQ CF1 Tryz.f52) = (fun (env : aO) (h : Hp) => t52 rec n (env 0) (env 1) h) :=
 (by kernel_rfl)
theorem dXr (rec : FuncId → List DV → Hp → aH) (n : Nat) (args : List DV) (h : Hp) : aG CF1 rec n 52 args h = t52 rec n (args.getD 0 aX) (args.getD 1 aX) h :=
 (by kernel_rfl : aG CF1 rec n 52 args h = E52 rec n (cf Tryz.f52) x0 (aQ CF1 Tryz.f52) (aK args) h).trans ((congrFun (congrFun (eDr rec n) (aK args)) h).trans (by kernel_rfl))
noncomputable def t54 (rec : FuncId → List DV → Hp → aH) (n : Nat) (x0 : DV) (h0 : Hp) : aH :=
 bnd (aE .and x0 (.i .i64 (Int.ofNat 1)) h0) fun v1 h1 =>
 bnd (aE .eql v1 (.i .i64 (Int.ofNat 1)) h1) fun v2 h2 =>
 bnd (gD v2 true (some (x0, h2)) h2) fun v3 h3 =>
 bnd (gD v2 true (dE .shr v3 (.i .u64 (Int.ofNat 1)) h3) h3) fun v4 h4 =>
 bnd (gD v2 true (rec 108 [v4, (.i .i64 (Int.negSucc 1073741823)), (.i .i64 (Int.ofNat 1073741823))] h4) h4) fun v5 h5 =>
 bnd (aP v2 v5 (.b false) h5) fun v6 h6 =>
 some (v6, h6)
noncomputable def E54 (rec : FuncId → List DV → Hp → aH) (n : Nat) (c : Code) (X : Nat → K) (k : K) : K := aM CF1 rec 11 n c X (aQ CF1 Tryz.f54) k
theorem eAa (rec : FuncId → List DV → Hp → aH) (n : Nat) : E54 rec n (cf Tryz.f54) x0 (aQ CF1 Tryz.f54) = (fun (env : aO) (h : Hp) => t54 rec n (env 0) h) :=
 (by kernel_rfl)
theorem dTz (rec : FuncId → List DV → Hp → aH) (n : Nat) (args : List DV) (h : Hp) : aG CF1 rec n 54 args h = t54 rec n (args.getD 0 aX) h :=
 (by kernel_rfl : aG CF1 rec n 54 args h = E54 rec n (cf Tryz.f54) x0 (aQ CF1 Tryz.f54) (aK args) h).trans ((congrFun (congrFun (eAa rec n) (aK args)) h).trans (by kernel_rfl))
noncomputable def t60 (rec : FuncId → List DV → Hp → aH) (n : Nat) (x0 : DV) (h0 : Hp) : aH :=
 bnd (rec 108 [x0, (.i .i64 (Int.negSucc 1073741823)), (.i .i64 (Int.ofNat 1073741823))] h0) fun v1 h1 =>
 bnd (fV .not v1 h1) fun v2 h2 =>
 aT v2 (
  some (.t [(.i .i64 (Int.ofNat 0)), (.b false)], h2)) (
  bnd (dE .shl x0 (.i .u64 (Int.ofNat 1)) h2) fun v3 h3 =>
  bnd (aE .or v3 (.i .i64 (Int.ofNat 1)) h3) fun v4 h4 =>
  some (.t [v4, (.b true)], h4))
noncomputable def E60 (rec : FuncId → List DV → Hp → aH) (n : Nat) (c : Code) (X : Nat → K) (k : K) : K := aM CF1 rec 10 n c X (aQ CF1 Tryz.f60) k
theorem eCv (rec : FuncId → List DV → Hp → aH) (n : Nat) : E60 rec n (cf Tryz.f60) x0 (aQ CF1 Tryz.f60) = (fun (env : aO) (h : Hp) => t60 rec n (env 0) h) :=
 (by kernel_rfl)
theorem dRy (rec : FuncId → List DV → Hp → aH) (n : Nat) (args : List DV) (h : Hp) : aG CF1 rec n 60 args h = t60 rec n (args.getD 0 aX) h :=
 (by kernel_rfl : aG CF1 rec n 60 args h = E60 rec n (cf Tryz.f60) x0 (aQ CF1 Tryz.f60) (aK args) h).trans ((congrFun (congrFun (eCv rec n) (aK args)) h).trans (by kernel_rfl))
noncomputable def t62 (rec : FuncId → List DV → Hp → aH) (n : Nat) (x0 : DV) (h0 : Hp) : aH :=
 bnd (rec 54 [x0] h0) fun v1 h1 =>
 bnd (fV .not v1 h1) fun v2 h2 =>
 aT v2 (
  some ((.i .i64 (Int.ofNat 0)), h2)) (
  bnd (dE .shr x0 (.i .u64 (Int.ofNat 1)) h2) fun v3 h3 =>
  some (v3, h3))
noncomputable def E62 (rec : FuncId → List DV → Hp → aH) (n : Nat) (c : Code) (X : Nat → K) (k : K) : K := aM CF1 rec 8 n c X (aQ CF1 Tryz.f62) k
theorem eBj (rec : FuncId → List DV → Hp → aH) (n : Nat) : E62 rec n (cf Tryz.f62) x0 (aQ CF1 Tryz.f62) = (fun (env : aO) (h : Hp) => t62 rec n (env 0) h) :=
 (by kernel_rfl)
theorem dRn (rec : FuncId → List DV → Hp → aH) (n : Nat) (args : List DV) (h : Hp) : aG CF1 rec n 62 args h = t62 rec n (args.getD 0 aX) h :=
 (by kernel_rfl : aG CF1 rec n 62 args h = E62 rec n (cf Tryz.f62) x0 (aQ CF1 Tryz.f62) (aK args) h).trans ((congrFun (congrFun (eBj rec n) (aK args)) h).trans (by kernel_rfl))
noncomputable def t63 (rec : FuncId → List DV → Hp → aH) (n : Nat) (x0 : DV) (h0 : Hp) : aH :=
 bnd (aE .and x0 (.i .i64 (Int.ofNat 1)) h0) fun v1 h1 =>
 bnd (aE .eql v1 (.i .i64 (Int.ofNat 0)) h1) fun v2 h2 =>
 bnd (gD v2 true (some (x0, h2)) h2) fun v3 h3 =>
 bnd (gD v2 true (dE .shr v3 (.i .u64 (Int.ofNat 1)) h3) h3) fun v4 h4 =>
 bnd (gD v2 true (rec 108 [v4, (.i .i64 (Int.ofNat 3)), (.i .i64 (Int.ofNat 131072))] h4) h4) fun v5 h5 =>
 bnd (aP v2 v5 (.b false) h5) fun v6 h6 =>
 some (v6, h6)
noncomputable def E63 (rec : FuncId → List DV → Hp → aH) (n : Nat) (c : Code) (X : Nat → K) (k : K) : K := aM CF1 rec 11 n c X (aQ CF1 Tryz.f63) k
theorem eDq (rec : FuncId → List DV → Hp → aH) (n : Nat) : E63 rec n (cf Tryz.f63) x0 (aQ CF1 Tryz.f63) = (fun (env : aO) (h : Hp) => t63 rec n (env 0) h) :=
 (by kernel_rfl)
theorem dUu (rec : FuncId → List DV → Hp → aH) (n : Nat) (args : List DV) (h : Hp) : aG CF1 rec n 63 args h = t63 rec n (args.getD 0 aX) h :=
 (by kernel_rfl : aG CF1 rec n 63 args h = E63 rec n (cf Tryz.f63) x0 (aQ CF1 Tryz.f63) (aK args) h).trans ((congrFun (congrFun (eDq rec n) (aK args)) h).trans (by kernel_rfl))
noncomputable def t64 (rec : FuncId → List DV → Hp → aH) (n : Nat) (x0 : DV) (h0 : Hp) : aH :=
 bnd (rec 63 [x0] h0) fun v1 h1 =>
 bnd (fV .not v1 h1) fun v2 h2 =>
 aT v2 (
  some ((.i .i64 (Int.ofNat 0)), h2)) (
  bnd (dE .shr x0 (.i .u64 (Int.ofNat 1)) h2) fun v3 h3 =>
  some (v3, h3))
noncomputable def E64 (rec : FuncId → List DV → Hp → aH) (n : Nat) (c : Code) (X : Nat → K) (k : K) : K := aM CF1 rec 8 n c X (aQ CF1 Tryz.f64) k
theorem eAt (rec : FuncId → List DV → Hp → aH) (n : Nat) : E64 rec n (cf Tryz.f64) x0 (aQ CF1 Tryz.f64) = (fun (env : aO) (h : Hp) => t64 rec n (env 0) h) :=
 (by kernel_rfl)
theorem dUp (rec : FuncId → List DV → Hp → aH) (n : Nat) (args : List DV) (h : Hp) : aG CF1 rec n 64 args h = t64 rec n (args.getD 0 aX) h :=
 (by kernel_rfl : aG CF1 rec n 64 args h = E64 rec n (cf Tryz.f64) x0 (aQ CF1 Tryz.f64) (aK args) h).trans ((congrFun (congrFun (eAt rec n) (aK args)) h).trans (by kernel_rfl))
noncomputable def t73 (rec : FuncId → List DV → Hp → aH) (n : Nat) (x0 x1 x2 : DV) (h0 : Hp) : aH :=
 bnd (rec 107 [x0, x1, x2] h0) fun v1 h1 =>
 bnd (aD 0 v1 h1) fun v2 h2 =>
 bnd (aD 1 v1 h2) fun v3 h3 =>
 bnd (aE .neq v3 (.i .i64 (Int.ofNat 0)) h3) fun v4 h4 =>
 aT v4 (
  some (.t [(.i .i64 (Int.ofNat 0)), v3], h4)) (
  bnd (aU x0 h4) fun v5 h5 =>
  bnd (aB 0 v5 h5) fun v6 h6 =>
  bnd (aA v6 h6) fun v7 h7 =>
  bnd (aJ 1 v7 v2 h7) fun v8 h8 =>
  bnd (aA v8 h8) fun v9 h9 =>
  some (.t [v9, (.i .i64 (Int.ofNat 0))], h9))
noncomputable def E73 (rec : FuncId → List DV → Hp → aH) (n : Nat) (c : Code) (X : Nat → K) (k : K) : K := aM CF1 rec 27 n c X (aQ CF1 Tryz.f73) k
theorem eBn (rec : FuncId → List DV → Hp → aH) (n : Nat) : E73 rec n (cf Tryz.f73) x0 (aQ CF1 Tryz.f73) = (fun (env : aO) (h : Hp) => t73 rec n (env 0) (env 1) (env 2) h) :=
 (by kernel_rfl)
theorem dDi (rec : FuncId → List DV → Hp → aH) (n : Nat) (args : List DV) (h : Hp) : aG CF1 rec n 73 args h = t73 rec n (args.getD 0 aX) (args.getD 1 aX) (args.getD 2 aX) h :=
 (by kernel_rfl : aG CF1 rec n 73 args h = E73 rec n (cf Tryz.f73) x0 (aQ CF1 Tryz.f73) (aK args) h).trans ((congrFun (congrFun (eBn rec n) (aK args)) h).trans (by kernel_rfl))
noncomputable def t74 (rec : FuncId → List DV → Hp → aH) (n : Nat) (x0 x1 : DV) (h0 : Hp) : aH :=
 bnd (aE .eql x1 (.i .i64 (Int.ofNat 0)) h0) fun v1 h1 =>
 bnd (gD v1 false (some (x0, h1)) h1) fun v2 h2 =>
 bnd (gD v1 false (some (x1, h2)) h2) fun v3 h3 =>
 bnd (gD v1 false (rec 21 [v2, v3] h3) h3) fun v4 h4 =>
 bnd (aP v1 (.b true) v4 h4) fun v5 h5 =>
 some (v5, h5)
noncomputable def E74 (rec : FuncId → List DV → Hp → aH) (n : Nat) (c : Code) (X : Nat → K) (k : K) : K := aM CF1 rec 12 n c X (aQ CF1 Tryz.f74) k
theorem eBk (rec : FuncId → List DV → Hp → aH) (n : Nat) : E74 rec n (cf Tryz.f74) x0 (aQ CF1 Tryz.f74) = (fun (env : aO) (h : Hp) => t74 rec n (env 0) (env 1) h) :=
 (by kernel_rfl)
theorem dRu (rec : FuncId → List DV → Hp → aH) (n : Nat) (args : List DV) (h : Hp) : aG CF1 rec n 74 args h = t74 rec n (args.getD 0 aX) (args.getD 1 aX) h :=
 (by kernel_rfl : aG CF1 rec n 74 args h = E74 rec n (cf Tryz.f74) x0 (aQ CF1 Tryz.f74) (aK args) h).trans ((congrFun (congrFun (eBk rec n) (aK args)) h).trans (by kernel_rfl))
noncomputable def t75 (rec : FuncId → List DV → Hp → aH) (n : Nat) (x0 : DV) (h0 : Hp) : aH :=
 bnd (rec 108 [x0, (.i .i64 (Int.ofNat 3)), (.i .i64 (Int.ofNat 131072))] h0) fun v1 h1 =>
 bnd (fV .not v1 h1) fun v2 h2 =>
 aT v2 (
  some (.t [(.i .i64 (Int.ofNat 0)), (.b false)], h2)) (
  bnd (dE .shl x0 (.i .u64 (Int.ofNat 1)) h2) fun v3 h3 =>
  some (.t [v3, (.b true)], h3))
noncomputable def E75 (rec : FuncId → List DV → Hp → aH) (n : Nat) (c : Code) (X : Nat → K) (k : K) : K := aM CF1 rec 9 n c X (aQ CF1 Tryz.f75) k
theorem eAq (rec : FuncId → List DV → Hp → aH) (n : Nat) : E75 rec n (cf Tryz.f75) x0 (aQ CF1 Tryz.f75) = (fun (env : aO) (h : Hp) => t75 rec n (env 0) h) :=
 (by kernel_rfl)
theorem dYb (rec : FuncId → List DV → Hp → aH) (n : Nat) (args : List DV) (h : Hp) : aG CF1 rec n 75 args h = t75 rec n (args.getD 0 aX) h :=
 (by kernel_rfl : aG CF1 rec n 75 args h = E75 rec n (cf Tryz.f75) x0 (aQ CF1 Tryz.f75) (aK args) h).trans ((congrFun (congrFun (eAq rec n) (aK args)) h).trans (by kernel_rfl))
noncomputable def dPq (rec : FuncId → List DV → Hp → aH) (n : Nat) (x0 x1 : DV) (h0 : Hp) : aH :=
 bnd (rec 21 [x0, x1] h0) fun v1 h1 =>
 bnd (fV .not v1 h1) fun v2 h2 =>
 aT v2 (
  some ((.i .i64 (Int.ofNat 0)), h2)) (
  bnd (rec 64 [x1] h2) fun v3 h3 =>
  some (v3, h3))
noncomputable def dWx (rec : FuncId → List DV → Hp → aH) (n : Nat) (c : Code) (X : Nat → K) (k : K) : K := aM CF1 rec 11 n c X (aQ CF1 Tryz.f105) k
theorem dVx (rec : FuncId → List DV → Hp → aH) (n : Nat) : dWx rec n (cf Tryz.f105) x0 (aQ CF1 Tryz.f105) = (fun (env : aO) (h : Hp) => dPq rec n (env 0) (env 1) h) :=
 (by kernel_rfl)
theorem dKm (rec : FuncId → List DV → Hp → aH) (n : Nat) (args : List DV) (h : Hp) : aG CF1 rec n 105 args h = dPq rec n (args.getD 0 aX) (args.getD 1 aX) h :=
 (by kernel_rfl : aG CF1 rec n 105 args h = dWx rec n (cf Tryz.f105) x0 (aQ CF1 Tryz.f105) (aK args) h).trans ((congrFun (congrFun (dVx rec n) (aK args)) h).trans (by kernel_rfl))
noncomputable def bKu (rec : FuncId → List DV → Hp → aH) (n : Nat) (x0 x1 x2 : DV) (h0 : Hp) : aH :=
 bnd (rec 105 [x0, x1] h0) fun v1 h1 =>
 bnd (aE .eql v1 (.i .i64 (Int.ofNat 0)) h1) fun v2 h2 =>
 aT v2 (
  some (.t [(.i .i64 (Int.ofNat 0)), (.i .i64 (Int.ofNat 1))], h2)) (
  bnd (aE .lss x2 (.i .i64 (Int.ofNat 0)) h2) fun v3 h3 =>
  bnd (gD v3 false (some (x2, h3)) h3) fun v4 h4 =>
  bnd (gD v3 false (some (x0, h4)) h4) fun v5 h5 =>
  bnd (gD v3 false (some (x1, h5)) h5) fun v6 h6 =>
  bnd (gD v3 false (rec 52 [v5, v6] h6) h6) fun v7 h7 =>
  bnd (gD v3 false (aE .geq v4 v7 h7) h7) fun v8 h8 =>
  bnd (aP v3 (.b true) v8 h8) fun v9 h9 =>
  aT v9 (
   some (.t [(.i .i64 (Int.ofNat 0)), (.i .i64 (Int.ofNat 5))], h9)) (
   bnd (aE .add v1 (.i .i64 (Int.ofNat 3)) h9) fun v10 h10 =>
   bnd (aE .add v10 x2 h10) fun v11 h11 =>
   some (.t [v11, (.i .i64 (Int.ofNat 0))], h11)))
noncomputable def dRs (rec : FuncId → List DV → Hp → aH) (n : Nat) (c : Code) (X : Nat → K) (k : K) : K := aM CF1 rec 29 n c X (aQ CF1 Tryz.f107) k
theorem dQy (rec : FuncId → List DV → Hp → aH) (n : Nat) : dRs rec n (cf Tryz.f107) x0 (aQ CF1 Tryz.f107) = (fun (env : aO) (h : Hp) => bKu rec n (env 0) (env 1) (env 2) h) :=
 (by kernel_rfl)
theorem aDu (rec : FuncId → List DV → Hp → aH) (n : Nat) (args : List DV) (h : Hp) : aG CF1 rec n 107 args h = bKu rec n (args.getD 0 aX) (args.getD 1 aX) (args.getD 2 aX) h :=
 (by kernel_rfl : aG CF1 rec n 107 args h = dRs rec n (cf Tryz.f107) x0 (aQ CF1 Tryz.f107) (aK args) h).trans ((congrFun (congrFun (dQy rec n) (aK args)) h).trans (by kernel_rfl))
noncomputable def dPw (rec : FuncId → List DV → Hp → aH) (n : Nat) (x0 x1 x2 : DV) (h0 : Hp) : aH :=
 bnd (aE .geq x0 x1 h0) fun v1 h1 =>
 bnd (gD v1 true (some (x0, h1)) h1) fun v2 h2 =>
 bnd (gD v1 true (some (x2, h2)) h2) fun v3 h3 =>
 bnd (gD v1 true (aE .leq v2 v3 h3) h3) fun v4 h4 =>
 bnd (aP v1 v4 (.b false) h4) fun v5 h5 =>
 some (v5, h5)
noncomputable def dQv (rec : FuncId → List DV → Hp → aH) (n : Nat) (c : Code) (X : Nat → K) (k : K) : K := aM CF1 rec 15 n c X (aQ CF1 Tryz.f108) k
theorem dXe (rec : FuncId → List DV → Hp → aH) (n : Nat) : dQv rec n (cf Tryz.f108) x0 (aQ CF1 Tryz.f108) = (fun (env : aO) (h : Hp) => dPw rec n (env 0) (env 1) (env 2) h) :=
 (by kernel_rfl)
theorem dHl (rec : FuncId → List DV → Hp → aH) (n : Nat) (args : List DV) (h : Hp) : aG CF1 rec n 108 args h = dPw rec n (args.getD 0 aX) (args.getD 1 aX) (args.getD 2 aX) h :=
 (by kernel_rfl : aG CF1 rec n 108 args h = dQv rec n (cf Tryz.f108) x0 (aQ CF1 Tryz.f108) (aK args) h).trans ((congrFun (congrFun (dXe rec n) (aK args)) h).trans (by kernel_rfl))
end Go.Dd

namespace Go.Dd
theorem oS {a b : Nat} : Nat.beq a b = decide (a = b) := by
 cases h : Nat.beq a b with
 | true => simp [Nat.eq_of_beq_eq_true h]
 | false =>
  have : a ≠ b := by intro e; subst e; simp at h
  simp [this]
theorem tF {a b : Nat} : Nat.ble a b = decide (a ≤ b) := by
 cases h : Nat.ble a b with
 | true => simp [Nat.le_of_ble_eq_true h]
 | false =>
  have : ¬ a ≤ b := by intro e; rw [Nat.ble_eq_true_of_le e] at h; cases h
  simp [this]
theorem iI {a b : Nat} : Nat.blt a b = decide (a < b) := by
 show Nat.ble (a + 1) b = _
 rw [tF]
 simp [Nat.succ_le_iff]
theorem aRr (w : Int) : (jI w ≠ 0 ↔ (w % 2 = 0 ∧ 3 ≤ w / 2 ∧ w / 2 ≤ 131072)) ∧ (jI w ≠ 0 → (jI w : Int) = w / 2) ∧ jI w ≤ 131072 := by
 cases w with
 | ofNat w =>
  simp only [jI, oS, tF]
  have e1 : Nat.mod w 2 = w % 2 := rfl
  have e2 : Nat.div w 2 = w / 2 := rfl
  rw [e1, e2]
  by_cases hc : w % 2 = 0 ∧ 6 ≤ w ∧ w ≤ 262144
  ·obtain ⟨h1, h2, h3⟩ := hc
   simp only [h1, h2, h3, decide_true, Bool.and_self, cond_true]
   simp only [Int.ofNat_eq_natCast]
   refine ⟨⟨fun _ => ⟨by omega, by omega, by omega⟩, fun _ => by omega⟩, fun _ => by omega, by omega⟩
  ·have : (decide (w % 2 = 0) && (decide (6 ≤ w) && decide (w ≤ 262144))) = false := by
    rw [← Bool.not_eq_true]
    simpa using hc
   rw [this]
   simp only [cond_false, Int.ofNat_eq_natCast]
   refine ⟨⟨fun h => absurd rfl h, fun h => by omega⟩, fun h => absurd rfl h, by omega⟩
 | negSucc w =>
  simp only [jI]
  refine ⟨⟨fun h => absurd rfl h, fun h => by omega⟩, fun h => absurd rfl h, by omega⟩
theorem aRx (w : Int) : iJ w = decide (w % 2 = 1 ∧ -1073741824 ≤ w / 2 ∧ w / 2 ≤ 1073741823) := by
 rw [Bool.eq_iff_iff, decide_eq_true_iff]
 cases w with
 | ofNat w =>
  simp only [iJ, oS, iI, Bool.and_eq_true, decide_eq_true_eq]
  have e1 : Nat.mod w 2 = w % 2 := rfl
  rw [e1]
  simp only [Int.ofNat_eq_natCast]
  omega
 | negSucc w =>
  simp only [iJ, oS, iI, Bool.and_eq_true, decide_eq_true_eq]
  have e1 : Nat.mod w 2 = w % 2 := rfl
  rw [e1]
  omega
theorem bKs (w : Int) : dDh w = w / 2 := by
 cases w with
 | ofNat w => show Int.ofNat (w / 2) = _; simp
 | negSucc w => show Int.negSucc (w / 2) = _; omega
theorem lB (a : Int) (h : -9223372036854775808 ≤ a ∧ a ≤ 9223372036854775807) : IntKind.i64.wrap a = a := by
 simp [IntKind.wrap, IntKind.signed, IntKind.bits, Int.bmod]
 omega
theorem gS (a : Int) : (BitVec.ofInt 64 a).toNat = (a % 18446744073709551616).toNat := by
 rw [BitVec.toNat_ofInt]
 rfl
theorem eDt (w : Int) : IntKind.i64.wrap (((BitVec.ofInt 64 w &&& BitVec.ofInt 64 1).toNat : Nat) : Int) = w % 2 := by
 rw [BitVec.toNat_and, gS, gS]
 rw [show ((1 : Int) % 18446744073709551616).toNat = 1 from rfl, Nat.and_one_is_mod]
 rw [lB _ (by omega)]
 omega
theorem eDl (w : Int) : IntKind.i64.wrap (((BitVec.ofInt 64 w &&& BitVec.ofInt 64 3).toNat : Nat) : Int) = w % 4 := by
 rw [BitVec.toNat_and, gS, gS]
 rw [show ((3 : Int) % 18446744073709551616).toNat = 2 ^ 2 - 1 from rfl, Nat.and_two_pow_sub_one_eq_mod]
 rw [lB _ (by omega)]
 omega
theorem dHg (a : Nat) (k b : Nat) (hb : b < 2 ^ k) (hs : a * 2 ^ k + b < 9223372036854775808) : IntKind.i64.wrap (((BitVec.ofInt 64 ((a * 2 ^ k : Nat) : Int) ||| BitVec.ofInt 64 (b : Int)).toNat : Nat) : Int) = ((a * 2 ^ k + b : Nat) : Int) := by
 have h1 : (BitVec.ofInt 64 ((a * 2 ^ k : Nat) : Int)).toNat = a * 2 ^ k := by rw [gS]; omega
 have h2 : (BitVec.ofInt 64 (b : Int)).toNat = b := by rw [gS]; omega
 rw [BitVec.toNat_or, h1, h2, Nat.mul_comm a, ← Nat.two_pow_add_eq_or_of_lt hb, Nat.mul_comm]
 exact lB _ (by omega)
theorem aQd (a : Int) (b : Int) (hb : 0 ≤ b) : a.fdiv b = a / b := Int.fdiv_eq_ediv_of_nonneg a hb
theorem gB (k : IntKind) (a b : Int) (h : Hp) : aE .eql (.i k a) (.i k b) h = some (.b (a == b), h) := by simp only [aE, if_true, hY]
theorem aEz (k : IntKind) (a b : Int) (h : Hp) : aE .neq (.i k a) (.i k b) h = some (.b (a != b), h) := by simp only [aE, if_true, hY]
theorem gE (k : IntKind) (a b : Int) (h : Hp) : aE .lss (.i k a) (.i k b) h = some (.b (decide (a < b)), h) := by simp only [aE, if_true, hY]
theorem dMs (k : IntKind) (a b : Int) (h : Hp) : aE .leq (.i k a) (.i k b) h = some (.b (decide (a ≤ b)), h) := by simp only [aE, if_true, hY]
theorem lE (k : IntKind) (a b : Int) (h : Hp) : aE .gtr (.i k a) (.i k b) h = some (.b (decide (a > b)), h) := by simp only [aE, if_true, hY]
theorem aLj (k : IntKind) (a b : Int) (h : Hp) : aE .geq (.i k a) (.i k b) h = some (.b (decide (a ≥ b)), h) := by simp only [aE, if_true, hY]
theorem yD (a b : Int) (h : Hp) (hr : -9223372036854775808 ≤ a + b ∧ a + b ≤ 9223372036854775807) : aE .add (.i .i64 a) (.i .i64 b) h = some (.i .i64 (a + b), h) := by simp only [aE, if_true, hY, lB _ hr]
theorem bYr (a b : Int) (h : Hp) (hr : -9223372036854775808 ≤ a - b ∧ a - b ≤ 9223372036854775807) : aE .sub (.i .i64 a) (.i .i64 b) h = some (.i .i64 (a - b), h) := by simp only [aE, if_true, hY, lB _ hr]
theorem bGn (w : Int) (h : Hp) : aE .and (.i .i64 w) (.i .i64 (Int.ofNat 1)) h = some (.i .i64 (w % 2), h) := by
 have : hY .and .i64 w (Int.ofNat 1) = some (.i .i64 (w % 2)) := by
  rw [← eDt w]; rfl
 simp only [aE, if_true, this]
theorem cXy (w : Int) (h : Hp) : aE .and (.i .i64 w) (.i .i64 (Int.ofNat 3)) h = some (.i .i64 (w % 4), h) := by
 have : hY .and .i64 w (Int.ofNat 3) = some (.i .i64 (w % 4)) := by
  rw [← eDl w]; rfl
 simp only [aE, if_true, this]
theorem tH (w : Int) (h : Hp) : dE .shr (.i .i64 w) (.i .u64 (Int.ofNat 1)) h = some (.i .i64 (w / 2), h) := by
 have : w.fdiv (2 ^ (min (Int.ofNat 1).toNat IntKind.i64.bits)) = w / 2 := aQd w (2 ^ 1) (by decide)
 simp only [dE, show ¬ ((Int.ofNat 1) < 0) by decide, if_false, this]
theorem dCh (w : Int) (h : Hp) : dE .shr (.i .i64 w) (.i .u64 (Int.ofNat 2)) h = some (.i .i64 (w / 4), h) := by
 have : w.fdiv (2 ^ (min (Int.ofNat 2).toNat IntKind.i64.bits)) = w / 4 := aQd w (2 ^ 2) (by decide)
 simp only [dE, show ¬ ((Int.ofNat 2) < 0) by decide, if_false, this]
theorem bEf (w : Int) (h : Hp) (hr : -4611686018427387904 ≤ w ∧ w ≤ 4611686018427387903) : dE .shl (.i .i64 w) (.i .u64 (Int.ofNat 1)) h = some (.i .i64 (2 * w), h) := by
 have : IntKind.i64.wrap (w * 2 ^ (min (Int.ofNat 1).toNat IntKind.i64.bits)) = 2 * w := by
  rw [show w * 2 ^ (min (Int.ofNat 1).toNat IntKind.i64.bits) = 2 * w from Int.mul_comm w 2]
  exact lB _ (by omega)
 simp only [dE, show ¬ ((Int.ofNat 1) < 0) by decide, if_false, this]
theorem cZv (w : Int) (h : Hp) (hr : -2305843009213693952 ≤ w ∧ w ≤ 2305843009213693951) : dE .shl (.i .i64 w) (.i .u64 (Int.ofNat 2)) h = some (.i .i64 (4 * w), h) := by
 have : IntKind.i64.wrap (w * 2 ^ (min (Int.ofNat 2).toNat IntKind.i64.bits)) = 4 * w := by
  rw [show w * 2 ^ (min (Int.ofNat 2).toNat IntKind.i64.bits) = 4 * w from Int.mul_comm w 4]
  exact lB _ (by omega)
 simp only [dE, show ¬ ((Int.ofNat 2) < 0) by decide, if_false, this]
theorem aBi (r : aH) (h : Hp) : gD (.b true) true r h = r := Eq.trans rfl rfl
theorem lW (r : aH) (h : Hp) : gD (.b false) false r h = r := Eq.trans rfl rfl
theorem jA (r : aH) (h : Hp) : gD (.b true) false r h = some (aX, h) := Eq.trans rfl rfl
theorem bEc (r : aH) (h : Hp) : gD (.b false) true r h = some (aX, h) := Eq.trans rfl rfl
theorem eAu (w : Bool) (r : aH) (h : Hp) : gD aX w r h = some (aX, h) := Eq.trans rfl rfl
theorem bK (v : DV) (h : Hp) (k : DV → Hp → aH) : bnd (some (v, h)) k = k v h := Eq.trans rfl rfl
theorem dN (x y : DV) (h : Hp) : aP (.b true) x y h = some (x, h) := Eq.trans rfl rfl
theorem eD (x y : DV) (h : Hp) : aP (.b false) x y h = some (y, h) := Eq.trans rfl rfl
theorem sW (b : Bool) (h : Hp) : fV .not (.b b) h = some (.b (!b), h) := Eq.trans rfl rfl
theorem eG (a b : aH) : aT (.b true) a b = a := Eq.trans rfl rfl
theorem fI (a b : aH) : aT (.b false) a b = b := Eq.trans rfl rfl
theorem g0 (a : DV) (l : List DV) : (a :: l).getD 0 aX = a := Eq.trans rfl rfl
theorem g1 (a b : DV) (l : List DV) : (a :: b :: l).getD 1 aX = b := Eq.trans rfl rfl
theorem g2 (a b c : DV) (l : List DV) : (a :: b :: c :: l).getD 2 aX = c := Eq.trans rfl rfl
theorem g3 (a b c d : DV) (l : List DV) : (a :: b :: c :: d :: l).getD 3 aX = d := Eq.trans rfl rfl
theorem bGk (n : Nat) (a b c : Int) (h : Hp) : fN CF1 (n + 1) 108 [.i .i64 a, .i .i64 b, .i .i64 c] h = some (.b (decide (b ≤ a ∧ a ≤ c)), h) := by
 rw [cA 108 rfl, dHl]
 simp only [dPw, g0, g1, g2, aLj, bK]
 by_cases h1 : b ≤ a
 ·simp only [ge_iff_le, h1, decide_true, aBi, bK, dMs, dN, true_and]
 ·simp only [ge_iff_le, h1, decide_false, bEc, bK, eD, false_and]
theorem dLe (n : Nat) (w : Int) (h : Hp) : fN CF1 (n + 2) 54 [.i .i64 w] h = some (.b (iJ w), h) := by
 rw [cA 54 rfl, dTz]
 simp only [t54, g0, bGn, bK, gB, aRx]
 by_cases h1 : w % 2 = 1
 ·have e : (w % 2 == Int.ofNat 1) = true := by simpa using h1
  rw [e]
  simp only [aBi, bK, tH, bGk, dN, h1, true_and]
  rfl
 ·have e : (w % 2 == Int.ofNat 1) = false := by simpa using h1
  rw [e]
  simp only [bEc, bK, eD, h1, false_and, decide_false]
theorem dSz (n : Nat) (w : Int) (h : Hp) : fN CF1 (n + 2) 63 [.i .i64 w] h = some (.b (!(Nat.beq (jI w) 0)), h) := by
 rw [cA 63 rfl, dUu]
 simp only [t63, g0, bGn, bK, gB, oS]
 have hp := (aRr w).1
 by_cases h1 : w % 2 = 0
 ·have e : (w % 2 == Int.ofNat 0) = true := by simpa using h1
  rw [e]
  simp only [aBi, bK, tH, bGk, dN]
  by_cases h2 : jI w = 0
  ·have : ¬ (Int.ofNat 3 ≤ w / 2 ∧ w / 2 ≤ Int.ofNat 131072) := fun h => (hp.2 ⟨h1, h⟩) h2
   simp only [h2, this, decide_true, Bool.not_true, decide_false]
  ·have : Int.ofNat 3 ≤ w / 2 ∧ w / 2 ≤ Int.ofNat 131072 := (hp.1 h2).2
   simp only [h2, this, decide_false, Bool.not_false, and_self, decide_true]
 ·have h2 : jI w = 0 := by
   by_cases h2 : jI w = 0
   ·exact h2
   ·exact absurd (hp.1 h2).1 h1
  have e : (w % 2 == Int.ofNat 0) = false := by simpa using h1
  rw [e]
  simp only [bEc, bK, eD, h2, decide_true, Bool.not_true]
theorem dVf (n : Nat) (w : Int) (h : Hp) : fN CF1 (n + 3) 64 [.i .i64 w] h = some (.i .i64 (jI w), h) := by
 rw [cA 64 rfl, dUp]
 simp only [t64, g0, dSz, bK, sW, oS]
 by_cases h2 : jI w = 0
 ·simp only [h2, decide_true, Bool.not_true, Bool.not_false, eG]; rfl
 ·have hp := (aRr w).2.1 h2
  simp only [h2, decide_false, Bool.not_false, Bool.not_true, fI, tH, bK, hp]
theorem dYk (n : Nat) (w : Int) (h : Hp) : fN CF1 (n + 2) 60 [.i .i64 w] h = some (if -1073741824 ≤ w ∧ w ≤ 1073741823 then .t [.i .i64 (2 * w + 1), .b true] else .t [.i .i64 0, .b false], h) := by
 rw [cA 60 rfl, dRy]
 simp only [t60, g0, bGk, bK, sW]
 by_cases h1 : -1073741824 ≤ w ∧ w ≤ 1073741823
 ·have h1' : Int.negSucc 1073741823 ≤ w ∧ w ≤ Int.ofNat 1073741823 := h1
  rw [if_pos h1]
  simp only [h1', decide_true, and_self, fI, Bool.not_true]
  rw [bEf w h (by omega)]
  have hb : hY .or .i64 (2 * w) (Int.ofNat 1) = some (.i .i64 (2 * w + 1)) := by
   have : IntKind.i64.wrap (((BitVec.ofInt 64 (2 * w) ||| BitVec.ofInt 64 (Int.ofNat 1)).toNat : Nat) : Int) = 2 * w + 1 := by
    rw [BitVec.toNat_or, gS, gS]
    rw [show ((Int.ofNat 1) % 18446744073709551616).toNat = 1 from rfl]
    obtain ⟨q, hq⟩ : ∃ q : Nat, ((2 * w) % 18446744073709551616).toNat = 2 ^ 1 * q := ⟨((2 * w) % 18446744073709551616).toNat / 2, by omega⟩
    rw [hq, ← Nat.two_pow_add_eq_or_of_lt (show 1 < 2 ^ 1 by omega)]
    rw [← hq]
    simp [IntKind.wrap, IntKind.signed, IntKind.bits, Int.bmod]
    omega
   rw [← this]; rfl
  simp only [bK, aE, if_true, hb]
 ·have h1' : ¬ (Int.negSucc 1073741823 ≤ w ∧ w ≤ Int.ofNat 1073741823) := h1
  rw [if_neg h1]
  simp only [h1', decide_false, eG, Bool.not_false]
  rfl
theorem eAb (n : Nat) (w : Int) (h : Hp) : fN CF1 (n + 3) 62 [.i .i64 w] h = some (if iJ w then .i .i64 (w / 2) else .i .i64 0, h) := by
 rw [cA 62 rfl, dRn]
 simp only [t62, g0, dLe, bK, sW]
 cases iJ w with
 | false => rfl
 | true => simp only [Bool.not_true, fI, tH, bK, if_true]
theorem eDj (n : Nat) (a : Int) (h : Hp) : fN CF1 (n + 2) 75 [.i .i64 a] h = some (if 3 ≤ a ∧ a ≤ 131072 then .t [.i .i64 (2 * a), .b true] else .t [.i .i64 0, .b false], h) := by
 rw [cA 75 rfl, dYb]
 simp only [t75, g0, bGk, bK, sW]
 by_cases h1 : 3 ≤ a ∧ a ≤ 131072
 ·have h1' : Int.ofNat 3 ≤ a ∧ a ≤ Int.ofNat 131072 := h1
  rw [if_pos h1]
  simp only [h1', decide_true, and_self, fI, Bool.not_true]
  rw [bEf a h (by omega)]
  rfl
 ·have h1' : ¬ (Int.ofNat 3 ≤ a ∧ a ≤ Int.ofNat 131072) := h1
  rw [if_neg h1]
  simp only [h1', decide_false, eG, Bool.not_false]
  rfl
end Go.Dd

namespace Go.Dd
structure ML (m : Pos) (M : MemV) (h : Hp) : Prop where
 row : h.bl.get m = some (.row .ex [.l M.wb 0 M.n M.n, .i .i64 (Int.ofNat M.fin), .i .i64 (Int.ofNat M.made), .m M.pb])
 words : h.bl.get M.wb = some (.row .ex (iE M.n M.t))
 places : ∃ es, h.bl.get M.pb = some (.mp es) ∧ ∀ a : Int, iG (.int .i64) (.i .i64 a) es = some (if 0 ≤ a ∧ M.pl.get a.toNat ≠ 0 then some (.b true) else none)
 n_lt : M.n < 1000000
 fin_le : M.fin ≤ M.n
 made_lt : M.made < 2000000
 d1 : m ≠ M.wb
 d2 : m ≠ M.pb
 d3 : M.wb ≠ M.pb
theorem gR {m : Pos} {M : MemV} {h : Hp} (hm : gU m h = some M) :
  h.bl.get m = some (.row .ex [.l M.wb 0 M.n M.n, .i .i64 (Int.ofNat M.fin), .i .i64 (Int.ofNat M.made), .m M.pb]) ∧ h.bl.get M.wb = some (.big M.n M.t) ∧ h.bl.get M.pb = some (.mi M.pl) ∧ M.n < 1000000 ∧ M.fin ≤ M.n ∧ M.made < 1000000 := by
 unfold gU at hm
 split at hm <;> (try (cases hm; done))
 rename_i wb n c fin made pb hr
 split at hm <;> (try (cases hm; done))
 rename_i n' t pl h1 h2
 cases hb : (Nat.beq n n' && Nat.beq n c) with
 | false => rw [hb] at hm; cases hm
 | true =>
  rw [hb] at hm
  simp only [cond_true] at hm
  cases hc : (Nat.blt n 1000000 && (Nat.ble fin n && Nat.blt made 1000000)) with
  | false => rw [hc] at hm; cases hm
  | true =>
   rw [hc] at hm
   simp only [cond_true, bE] at hm
   subst hm
   simp only [oS, tF, iI, Bool.and_eq_true, decide_eq_true_eq] at hb hc
   obtain ⟨rfl, rfl⟩ := hb
   exact ⟨hr, h1, h2, hc.1, hc.2.1, hc.2.2⟩
theorem fL {m : Pos} {M : MemV} {h h' : Hp} (hm : gU m h = some M) (S : Sim 0 h h') : ML m M h' := by
 obtain ⟨h1, h2, h3, h4, h5, h6⟩ := gR hm
 refine ⟨S.row h1, ?_, ?_, h4, h5, by omega, fun e => by (rw [e, h2] at h1; cases h1), fun e => by (rw [e, h3] at h1; cases h1), fun e => by (rw [e, h3] at h2; cases h2)⟩
 ·obtain ⟨o', e1, e2⟩ := S.get _ _ h2
  have e2' : o' = .row .ex (iE M.n M.t) := e2.2
  rw [e1, e2']
 ·obtain ⟨o', e1, e2⟩ := S.get _ _ h3
  have e2' : ∃ es, o' = .mp es ∧ ∀ a : Int, iG (.int .i64) (.i .i64 a) es = some (if 0 ≤ a ∧ M.pl.get a.toNat ≠ 0 then some (.b true) else none) := e2
  obtain ⟨es, rfl, e3⟩ := e2'
  exact ⟨es, e1, e3⟩
theorem bDu {m : Pos} {M : MemV} {h h' : Hp} (hm : gU m h = some M) (S : Sim 0 h h') : 2 ≤ M.n := by
 obtain ⟨_, h2, _⟩ := gR hm
 obtain ⟨o', e1, e2⟩ := S.get _ _ h2
 exact e2.1
section
variable {m : Pos} {M : MemV} {h : Hp}
theorem gN (b : Pos) (o : Nat) (h : Hp) : aU (.p b o) h = some (.p b o, h) := Eq.trans rfl rfl
theorem dM (k : Nat) (b : Pos) (o : Nat) (h : Hp) : aB k (.p b o) h = some (.p b (o + k), h) := Eq.trans rfl rfl
theorem ML.l0 (H : ML m M h) : aA (.p m (0 + 0)) h = some (.l M.wb 0 M.n M.n, h) := by
 simp [aA, cellD, rowOf, H.row, DV.one]
theorem ML.l1 (H : ML m M h) : aA (.p m (0 + 1)) h = some (.i .i64 (Int.ofNat M.fin), h) := by
 simp [aA, cellD, rowOf, H.row, DV.one]
theorem ML.l2 (H : ML m M h) : aA (.p m (0 + 2)) h = some (.i .i64 (Int.ofNat M.made), h) := by
 simp [aA, cellD, rowOf, H.row, DV.one]
theorem ML.l3 (H : ML m M h) : aA (.p m (0 + 3)) h = some (.m M.pb, h) := by
 simp [aA, cellD, rowOf, H.row, DV.one]
theorem kT {n : Nat} {t : WT} {i : Nat} (h : i < n) : (iE n t)[i]? = some (.i .i64 (t.get i)) := by
 simp [iE, h]
theorem ML.ix (H : ML m M h) {a : Nat} (ha : a < M.n) : aJ 1 (.l M.wb 0 M.n M.n) (.i .i64 (a : Int)) h = some (.p M.wb a, h) := by
 have : (0 : Int) ≤ (a : Int) ∧ (a : Int) < (M.n : Int) := by omega
 simp [aJ, this]
theorem ML.ld (H : ML m M h) {a : Nat} (ha : a < M.n) : aA (.p M.wb a) h = some (.i .i64 (M.t.get a), h) := by
 simp [aA, cellD, rowOf, H.words, kT ha, DV.one]
theorem bWp (o : Int) (pl : WT) : gP o pl = 0 ∨ (gP o pl = jI o ∧ jI o ≠ 0) := by
 unfold gP
 by_cases h0 : jI o = 0
 ·simp [h0, oS]
 ·simp only [oS, h0, decide_false, cond_false]
  split
  ·exact .inl rfl
  ·exact .inr ⟨rfl, h0⟩
theorem atN_pos {o : Int} {pl : WT} : (gP o pl ≠ 0) ↔ (jI o ≠ 0 ∧ pl.get (jI o) ≠ 0) := by
 unfold gP
 by_cases h0 : jI o = 0
 ·simp [h0, oS]
 ·simp only [oS, h0, decide_false, cond_false]
  split
  ·rename_i e; simp [e]
  ·rename_i e
   refine ⟨fun _ => ⟨h0, fun e' => e (by rw [e']; rfl)⟩, fun _ => h0⟩
theorem ML.lookup (H : ML m M h) (a : Nat) : gL (.int .i64) (.b false) false (.m M.pb) (.i .i64 (a : Int)) h = some (.b (decide (M.pl.get a ≠ 0)), h) := by
 obtain ⟨es, h1, h2⟩ := H.places
 have := h2 a
 simp only [Int.toNat_natCast] at this
 simp only [gL, jP, h1, this]
 by_cases hc : M.pl.get a = 0
 ·simp [hc]
 ·simp [hc]
theorem kY {r : aH} {v : DV} {h : Hp} (hr : r = some (v, h)) (hv : DV.beq v v = true) : aZ r v = true := by
 rw [hr]; exact hv
theorem dSt (b : Pos) : DV.beq (.m b) (.m b) = true := by simp [DV.beq]
theorem cEh (b : Pos) (o n c : Nat) : DV.beq (.l b o n c) (.l b o n c) = true := by simp [DV.beq]
theorem dAq (H : ML m M h) (n : Nat) (w : Int) : fN CF1 (n + 4) 21 [.p m 0, .i .i64 w] h = some (.b (!(Nat.beq (gP w M.pl) 0)), h) := by
 rw [cA 21 rfl, dQn]
 simp only [t21, g0, g1, dSz, bK, oS]
 by_cases h0 : jI w = 0
 ·have : gP w M.pl = 0 := by
   rcases bWp w M.pl with e | ⟨e, e'⟩
   ·exact e
   ·exact absurd h0 e'
  simp only [h0, decide_true, Bool.not_true, bEc, bK, this]
  simp [aZ, aX, DV.beq, eEp, cnd, bnd, aP]
 ·simp only [h0, decide_false, Bool.not_false, aBi, bK, gN, dM, H.l3, dVf]
  rw [kY rfl (dSt _), Bool.and_self]
  simp only [cnd, H.lookup, bK, dN]
  by_cases h1 : M.pl.get (jI w) = 0
  ·have : gP w M.pl = 0 := by
    by_cases e : gP w M.pl = 0
    ·exact e
    ·exact absurd h1 (atN_pos.1 e).2
   simp [h1, this]
  ·have : gP w M.pl ≠ 0 := atN_pos.2 ⟨h0, h1⟩
   simp [h1, this]
theorem eCi (H : ML m M h) (n : Nat) : fN CF1 (n + 1) 22 [.p m 0] h = some (.i .i64 (Int.ofNat M.n), h) := by
 rw [cA 22 rfl, dRa]
 simp only [t22, g0, bK, gN, dM, H.l0]
 rfl
theorem dWu (H : ML m M h) (n : Nat) : fN CF1 (n + 1) 29 [.p m 0] h = some (.i .i64 (Int.ofNat (M.n - M.fin)), h) := by
 rw [cA 29 rfl, dYc]
 have h1 := H.n_lt
 have h2 := H.fin_le
 have e : bT (.l M.wb 0 M.n M.n) h = some (.i .i64 (M.n : Int), h) := rfl
 simp only [t29, g0, bK, gN, dM, H.l0, H.l1, e]
 rw [bYr _ _ _ (by simp only [Int.ofNat_eq_natCast]; omega)]
 simp only [bK]
 congr 3
 simp only [Int.ofNat_eq_natCast]
 omega
theorem dWz (H : ML m M h) (n : Nat) (w : Int) : fN CF1 (n + 5) 20 [.p m 0, .i .i64 w] h = some (.b (aTe w M.pl), h) := by
 rw [cA 20 rfl, dWc]
 have hm : aTe w M.pl = (decide (w = 0) || (decide (w = 2) || (decide (w = 4) || (iJ w || !(Nat.beq (gP w M.pl) 0))))) := by
  unfold aTe
  split
  ·simp
  ·simp
  ·simp
  ·rename_i h1 h2 h3
   have e1 : w ≠ 0 := fun e => h1 (by rw [e]; rfl)
   have e2 : w ≠ 2 := fun e => h2 (by rw [e]; rfl)
   have e3 : w ≠ 4 := fun e => h3 (by rw [e]; rfl)
   simp [e1, e2, e3]
 rw [hm]
 simp only [t20, g0, g1, gB, bK]
 have b0 : (w == Int.ofNat 0) = decide (w = 0) := rfl
 have b2 : (w == Int.ofNat 2) = decide (w = 2) := rfl
 have b4 : (w == Int.ofNat 4) = decide (w = 4) := rfl
 rw [b0]
 cases decide (w = 0) with
 | true => simp only [jA, bK, dN, Bool.true_or]
 | false =>
  simp only [lW, bK, gB, eD, b2, Bool.false_or]
  cases decide (w = 2) with
  | true => simp only [jA, bK, dN, Bool.true_or]
  | false =>
   simp only [lW, bK, gB, eD, b4, Bool.false_or]
   cases decide (w = 4) with
   | true => simp only [jA, bK, dN, Bool.true_or]
   | false =>
    simp only [lW, bK, dLe, eD, Bool.false_or]
    cases iJ w with
    | true => simp only [jA, bK, dN, Bool.true_or]
    | false => simp only [lW, bK, dAq H, eD, Bool.false_or]
theorem dTt (H : ML m M h) (n : Nat) (w : Int) : fN CF1 (n + 5) 74 [.p m 0, .i .i64 w] h = some (.b (aHw w M.pl), h) := by
 rw [cA 74 rfl, dRu]
 have hm : aHw w M.pl = (decide (w = 0) || !(Nat.beq (gP w M.pl) 0)) := by
  unfold aHw
  split
  ·simp
  ·rename_i h1
   have e1 : w ≠ 0 := fun e => h1 (by rw [e]; rfl)
   simp [e1]
 rw [hm]
 have b0 : (w == Int.ofNat 0) = decide (w = 0) := rfl
 simp only [t74, g0, g1, gB, bK, b0]
 cases decide (w = 0) with
 | true => simp only [jA, bK, dN, Bool.true_or]
 | false => simp only [lW, bK, dAq H, eD, Bool.false_or]
theorem sT (H : ML m M h) (n : Nat) (w : Int) : fN CF1 (n + 5) 105 [.p m 0, .i .i64 w] h = some (.i .i64 (gP w M.pl), h) := by
 rw [cA 105 rfl, dKm]
 simp only [dPq, g0, g1, dAq H, bK, sW, oS]
 rcases bWp w M.pl with e | ⟨e, e'⟩
 ·simp only [e, decide_true, Bool.not_true, Bool.not_false, eG]; rfl
 ·simp only [e, e', decide_false, Bool.not_false, Bool.not_true, fI, dVf, bK]
theorem tP {o : Int} {k : Nat → aH} {r : DV × Hp} (hh : mE M o k = some r) : gP o M.pl + 1 < M.n ∧ ∃ hd, M.t.get (gP o M.pl) = Int.ofNat hd ∧ hd < 1000000000000 ∧ k hd = some r := by
 unfold mE at hh
 cases hb : Nat.blt (Nat.add (gP o M.pl) 1) M.n with
 | false => rw [hb] at hh; cases hh
 | true =>
  rw [hb] at hh
  simp only [cond_true] at hh
  simp only [iI, decide_eq_true_eq] at hb
  split at hh <;> (try (cases hh; done))
  rename_i hd he
  cases hc : Nat.blt hd 1000000000000 with
  | false => rw [hc] at hh; cases hh
  | true =>
   rw [hc] at hh
   simp only [iI, decide_eq_true_eq] at hc
   exact ⟨hb, hd, he, hc, hh⟩
theorem eCl (H : ML m M h) (n : Nat) (o : Int) (ho : gP o M.pl + 1 < M.n) : fN CF1 (n + 6) 50 [.p m 0, .i .i64 o] h = some (.i .i64 (M.t.get (gP o M.pl + 1)), h) := by
 rw [cA 50 rfl, dTi]
 have hn := H.n_lt
 simp only [t50, g0, g1, bK, gN, dM, H.l0, sT H]
 rw [kY rfl (cEh _ _ _ _), Bool.and_self]
 simp only [cnd]
 rw [yD _ _ _ (by simp only [Int.ofNat_eq_natCast]; omega)]
 have e : (gP o M.pl : Int) + Int.ofNat 1 = ((gP o M.pl + 1 : Nat) : Int) := by simp
 simp only [bK, e, H.ix ho, H.ld ho]
theorem dRd (H : ML m M h) (n : Nat) (o : Int) (ho : gP o M.pl < M.n) : fN CF1 (n + 6) 51 [.p m 0, .i .i64 o] h = some (.i .i64 (M.t.get (gP o M.pl) % 4), h) := by
 rw [cA 51 rfl, dSn]
 simp only [t51, g0, g1, bK, gN, dM, H.l0, sT H]
 rw [kY rfl (cEh _ _ _ _), Bool.and_self]
 simp only [cnd, bK, H.ix ho, H.ld ho, cXy]
theorem dSs (H : ML m M h) (n : Nat) (o : Int) (ho : gP o M.pl < M.n) : fN CF1 (n + 6) 52 [.p m 0, .i .i64 o] h = some (.i .i64 (M.t.get (gP o M.pl) / 4), h) := by
 rw [cA 52 rfl, dXr]
 simp only [t52, g0, g1, bK, gN, dM, H.l0, sT H]
 rw [kY rfl (cEh _ _ _ _), Bool.and_self]
 simp only [cnd, bK, H.ix ho, H.ld ho, dCh]
end
end Go.Dd

namespace Go.Dd
section
variable {m : Pos} {M : MemV} {h : Hp}
theorem bWt (H : ML m M h) {o i : Int} {bad : Nat → aH} {k : Nat → Nat → aH} {r : DV × Hp} (hf : lP M o i bad k = some r) :
  (∃ e : Nat, e ≠ 0 ∧ bad e = some r ∧ ∀ n, fN CF1 (n + 7) 107 [.p m 0, .i .i64 o, .i .i64 i] h = some (.t [.i .i64 (Int.ofNat 0), .i .i64 (Int.ofNat e)], h)) ∨
  (∃ hd a : Nat, gP o M.pl ≠ 0 ∧ a < M.n ∧ gP o M.pl + 1 < M.n ∧ M.t.get (gP o M.pl) = Int.ofNat hd ∧ k hd a = some r ∧ ∀ n, fN CF1 (n + 7) 107 [.p m 0, .i .i64 o, .i .i64 i] h = some (.t [.i .i64 (a : Int), .i .i64 (Int.ofNat 0)], h)) := by
 have hn := H.n_lt
 unfold lP at hf
 rw [oS] at hf
 by_cases h0 : gP o M.pl = 0
 ·simp only [h0, decide_true, cond_true] at hf
  refine .inl ⟨1, by omega, hf, fun n => ?_⟩
  rw [cA 107 rfl, aDu]
  simp only [bKu, g0, g1, g2, sT H, bK, gB, h0]
  rfl
 ·simp only [h0, decide_false, cond_false] at hf
  have e0 : ((gP o M.pl : Int) == Int.ofNat 0) = false := by simpa using h0
  cases i with
  | negSucc i =>
   refine .inl ⟨5, by omega, hf, fun n => ?_⟩
   rw [cA 107 rfl, aDu]
   have hlt : decide (Int.negSucc i < Int.ofNat 0) = true := decide_eq_true (Int.negSucc_lt_zero i)
   simp only [bKu, g0, g1, g2, sT H, bK, gB, e0, fI, gE, hlt, jA, dN, eG]
  | ofNat i =>
   dsimp only at hf
   obtain ⟨h1, hd, h2, h3, h4⟩ := tP hf
   rw [tF] at h4
   have hlt : decide (Int.ofNat i < Int.ofNat 0) = false := by simp
   have h52 := fun n => dSs H n o (show gP o M.pl < M.n by omega)
   rw [h2] at h52
   by_cases hi : Nat.div hd 4 ≤ i
   ·simp only [hi, decide_true, cond_true] at h4
    refine .inl ⟨5, by omega, h4, fun n => ?_⟩
    rw [cA 107 rfl, aDu]
    have hge : decide (Int.ofNat i ≥ Int.ofNat hd / 4) = true := by
     have : hd / 4 ≤ i := hi
     simp only [decide_eq_true_eq, Int.ofNat_eq_natCast]
     omega
    simp only [bKu, g0, g1, g2, sT H, bK, gB, e0, fI, gE, hlt, lW, h52, aLj, hge, eD, eG]
   ·simp only [hi, decide_false, cond_false] at h4
    rw [iI] at h4
    by_cases ha : Nat.add (Nat.add (gP o M.pl) 3) i < M.n
    ·simp only [ha, decide_true, cond_true] at h4
     have ha' : gP o M.pl + 3 + i < M.n := ha
     refine .inr ⟨hd, _, h0, ha, h1, h2, h4, fun n => ?_⟩
     rw [cA 107 rfl, aDu]
     have hge : decide (Int.ofNat i ≥ Int.ofNat hd / 4) = false := by
      have : ¬ hd / 4 ≤ i := hi
      simp only [decide_eq_false_iff_not, Int.ofNat_eq_natCast]
      omega
     simp only [bKu, g0, g1, g2, sT H, bK, gB, e0, fI, gE, hlt, lW, h52, aLj, hge, eD]
     rw [yD _ _ _ (by simp only [Int.ofNat_eq_natCast]; omega)]
     simp only [bK]
     rw [yD _ _ _ (by simp only [Int.ofNat_eq_natCast]; omega)]
     simp only [bK]
     congr 4
    ·simp only [ha, decide_false, cond_false] at h4
     cases h4
theorem bVk (a b : DV) (h : Hp) : aD 0 (.t [a, b]) h = some (a, h) := Eq.trans rfl rfl
theorem cBy (a b : DV) (h : Hp) : aD 1 (.t [a, b]) h = some (b, h) := Eq.trans rfl rfl
theorem dDv {e : Nat} (he : e ≠ 0) : (Int.ofNat e != Int.ofNat 0) = true := by
 simpa using he
theorem ML.put (H : ML m M h) {a : Nat} (ha : a < M.n) (w : Int) : aC 1 (.p M.wb a) (.i .i64 w) h = some (aX, ⟨h.next, Tr.set (.row .ex (iE M.n (M.t.set a w))) M.wb h.bl⟩) := by
 have hput : ∀ (n : Nat) (l : List DV) (x : DV), (∀ v ∈ l, v.one = true) → x.one = true → n < l.length → hU n l [x] = some (l.set n x) := by
  intro n
  induction n with
  | zero =>
   intro l x hl hx hlt
   cases l with
   | nil => simp at hlt
   | cons y l =>
    have hp : nL l [] = some l := by cases l <;> rfl
    simp [hU, nL, hl y (by simp), hx, hp]
  | succ n ih =>
   intro l x hl hx hlt
   cases l with
   | nil => simp at hlt
   | cons y l =>
    simp only [hU, List.set_cons_succ]
    rw [ih l x (fun v hv => hl v (by simp [hv])) hx (by simpa using hlt)]
    rfl
 have hb : ∀ v ∈ iE M.n M.t, v.one = true := by
  intro v hv
  simp only [iE, List.mem_map] at hv
  obtain ⟨i, _, rfl⟩ := hv
  rfl
 have hlen : (iE M.n M.t).length = M.n := by simp [iE]
 have hset : (iE M.n M.t).set a (.i .i64 w) = iE M.n (M.t.set a w) := by
  apply List.ext_getElem?
  intro i
  rw [List.getElem?_set]
  by_cases hi : i < M.n
  ·rw [kT hi, kT hi, WT.get_set M.t a w i (by have := H.n_lt; omega)]
   by_cases e : a = i
   ·subst e
    simp [hlen, hi]
   ·rw [if_neg e, if_neg (by omega)]
  ·have h1 : (iE M.n M.t)[i]? = none := List.getElem?_eq_none (by omega)
   have h2 : (iE M.n (M.t.set a w))[i]? = none := List.getElem?_eq_none (by simp [iE]; omega)
   rw [h2]
   split
   ·rename_i e; subst e; rw [if_neg (by omega)]
   ·exact h1
 simp only [aC, fK, List.length_singleton, if_true, dP, H.words, Kind.writable]
 rw [hput a _ _ hb rfl (by omega), hset]
theorem eCc (H : ML m M h) {o i : Int} {k : Nat → aH} {kk : Nat → Nat → aH} {r : DV × Hp} (hf : lP M o i k kk = some r) :
  (∃ e : Nat, k e = some r ∧ ∀ n, fN CF1 (n + 8) 73 [.p m 0, .i .i64 o, .i .i64 i] h = some (.t [.i .i64 (Int.ofNat 0), .i .i64 (Int.ofNat e)], h)) ∨
  (∃ hd a : Nat, kk hd a = some r ∧ ∀ n, fN CF1 (n + 8) 73 [.p m 0, .i .i64 o, .i .i64 i] h = some (.t [.i .i64 (M.t.get a), .i .i64 (Int.ofNat 0)], h)) := by
 rcases bWt H hf with ⟨e, he, h1, h2⟩ | ⟨hd, a, h0, h1, h2, h3, h4, h5⟩
 ·refine .inl ⟨e, h1, fun n => ?_⟩
  rw [cA 73 rfl, dDi]
  simp only [t73, g0, g1, g2, h2, bK, bVk, cBy, aEz, dDv he, eG]
 ·refine .inr ⟨hd, a, h4, fun n => ?_⟩
  rw [cA 73 rfl, dDi]
  have e0 : (Int.ofNat 0 != Int.ofNat 0) = false := rfl
  simp only [t73, g0, g1, g2, h5, bK, bVk, cBy, aEz, e0, fI, gN, dM, H.l0, H.ix h1, H.ld h1]
end
theorem dL {args : List DV} {h : Hp} {k : MemV → List DV → aH} {r : DV × Hp} (hr : lT args h k = some r) :
  ∃ m rest M, args = .p m 0 :: rest ∧ gU m h = some M ∧ k M rest = some r := by
 unfold lT at hr
 split at hr <;> (try (cases hr; done))
 rename_i m rest
 split at hr <;> (try (cases hr; done))
 rename_i M hM
 exact ⟨m, rest, M, rfl, hM, hr⟩
theorem dKx (n : Nat) (args : List DV) : SimP 0 (isF args) (fN CF1 (n + 12) 21 args) := fun h h' S v k e => by
 obtain ⟨m, rest, M, rfl, hM, e⟩ := dL e
 split at e <;> (try (cases e; done))
 simp only [bE, bM] at e
 obtain ⟨rfl, rfl⟩ := e
 exact ⟨h', dAq (fL hM S) (n + 8) _, S⟩
theorem cWq (n : Nat) (args : List DV) : SimP 0 (aXp args) (fN CF1 (n + 12) 20 args) := fun h h' S v k e => by
 obtain ⟨m, rest, M, rfl, hM, e⟩ := dL e
 split at e <;> (try (cases e; done))
 simp only [bE, bM] at e
 obtain ⟨rfl, rfl⟩ := e
 exact ⟨h', dWz (fL hM S) (n + 7) _, S⟩
theorem bRg (n : Nat) (args : List DV) : SimP 0 (jV args) (fN CF1 (n + 12) 22 args) := fun h h' S v k e => by
 obtain ⟨m, rest, M, rfl, hM, e⟩ := dL e
 split at e <;> (try (cases e; done))
 simp only [bE, bM] at e
 obtain ⟨rfl, rfl⟩ := e
 exact ⟨h', eCi (fL hM S) (n + 11), S⟩
theorem cAu (n : Nat) (args : List DV) : SimP 0 (aBy args) (fN CF1 (n + 12) 29 args) := fun h h' S v k e => by
 obtain ⟨m, rest, M, rfl, hM, e⟩ := dL e
 split at e <;> (try (cases e; done))
 simp only [bE, bM] at e
 obtain ⟨rfl, rfl⟩ := e
 exact ⟨h', dWu (fL hM S) (n + 11), S⟩
theorem bOi (n : Nat) (args : List DV) : SimP 0 (oC args) (fN CF1 (n + 12) 50 args) := fun h h' S v k e => by
 obtain ⟨m, rest, M, rfl, hM, e⟩ := dL e
 split at e <;> (try (cases e; done))
 obtain ⟨h1, hd, h2, h3, e⟩ := tP e
 simp only [bE, bM] at e
 obtain ⟨rfl, rfl⟩ := e
 exact ⟨h', eCl (fL hM S) (n + 6) _ h1, S⟩
theorem aTl (n : Nat) (args : List DV) : SimP 0 (lN args) (fN CF1 (n + 12) 51 args) := fun h h' S v k e => by
 obtain ⟨m, rest, M, rfl, hM, e⟩ := dL e
 split at e <;> (try (cases e; done))
 obtain ⟨h1, hd, h2, h3, e⟩ := tP e
 simp only [bE, bM] at e
 obtain ⟨rfl, rfl⟩ := e
 refine ⟨h', ?_, S⟩
 rw [dRd (fL hM S) (n + 6) _ (by omega), h2]
 rfl
theorem bAe (n : Nat) (args : List DV) : SimP 0 (lJ args) (fN CF1 (n + 12) 52 args) := fun h h' S v k e => by
 obtain ⟨m, rest, M, rfl, hM, e⟩ := dL e
 split at e <;> (try (cases e; done))
 obtain ⟨h1, hd, h2, h3, e⟩ := tP e
 simp only [bE, bM] at e
 obtain ⟨rfl, rfl⟩ := e
 refine ⟨h', ?_, S⟩
 rw [dSs (fL hM S) (n + 6) _ (by omega), h2]
 rfl
theorem cWn (n : Nat) (args : List DV) : SimP 0 (aVr args) (fN CF1 (n + 12) 73 args) := fun h h' S v k e => by
 obtain ⟨m, rest, M, rfl, hM, e⟩ := dL e
 split at e <;> (try (cases e; done))
 rename_i o i
 rcases eCc (fL hM S) e with ⟨er, e1, e2⟩ | ⟨hd, a, e1, e2⟩
 ·simp only [err, bE, bM] at e1
  obtain ⟨rfl, rfl⟩ := e1
  exact ⟨h', e2 (n + 4), S⟩
 ·simp only [bE, bM] at e1
  obtain ⟨rfl, rfl⟩ := e1
  exact ⟨h', e2 (n + 4), S⟩
theorem aRc (n : Nat) (args : List DV) : SimP 0 (kS args) (fN CF1 (n + 12) 54 args) := fun h h' S v k e => by
 unfold kS at e
 split at e <;> (try (cases e; done))
 simp only [bE, bM] at e
 obtain ⟨rfl, rfl⟩ := e
 exact ⟨h', dLe (n + 10) _ h', S⟩
theorem bOa (n : Nat) (args : List DV) : SimP 0 (oM args) (fN CF1 (n + 12) 62 args) := fun h h' S v k e => by
 unfold oM at e
 split at e <;> (try (cases e; done))
 rename_i w
 have hc := eAb (n + 9) w h'
 cases hs : iJ w with
 | true =>
  rw [hs] at e hc
  simp only [cond_true, bE, bM] at e
  obtain ⟨rfl, rfl⟩ := e
  exact ⟨h', by rw [hc, bKs]; rfl, S⟩
 | false =>
  rw [hs] at e hc
  simp only [cond_false, bE, bM] at e
  obtain ⟨rfl, rfl⟩ := e
  exact ⟨h', by rw [hc]; rfl, S⟩
theorem bKc (n : Nat) (args : List DV) : SimP 0 (mS args) (fN CF1 (n + 12) 60 args) := fun h h' S v k e => by
 unfold mS at e
 split at e <;> (try (cases e; done))
 ·rename_i w
  have hc := dYk (n + 10) (Int.ofNat w) h'
  rw [iI] at e
  by_cases hw : w < 1073741824
  ·simp only [hw, decide_true, cond_true, bE, bM] at e
   obtain ⟨rfl, rfl⟩ := e
   rw [if_pos (by simp only [Int.ofNat_eq_natCast]; omega)] at hc
   refine ⟨h', ?_, S⟩
   rw [hc]
   have : 2 * Int.ofNat w + 1 = Int.ofNat (Nat.succ (Nat.mul w 2)) := by
    have : Nat.mul w 2 = w * 2 := rfl
    rw [this]
    simp only [Int.ofNat_eq_natCast]; omega
   rw [this]
  ·simp only [hw, decide_false, cond_false, bE, bM] at e
   obtain ⟨rfl, rfl⟩ := e
   rw [if_neg (by simp only [Int.ofNat_eq_natCast]; omega)] at hc
   exact ⟨h', by rw [hc]; rfl, S⟩
 ·rename_i w
  have hc := dYk (n + 10) (Int.negSucc w) h'
  rw [iI] at e
  by_cases hw : w < 1073741824
  ·simp only [hw, decide_true, cond_true, bE, bM] at e
   obtain ⟨rfl, rfl⟩ := e
   rw [if_pos (by omega)] at hc
   refine ⟨h', ?_, S⟩
   rw [hc]
   have : 2 * Int.negSucc w + 1 = Int.negSucc (Nat.mul w 2) := by
    have : Nat.mul w 2 = w * 2 := rfl
    rw [this]; omega
   rw [this]
  ·simp only [hw, decide_false, cond_false, bE, bM] at e
   obtain ⟨rfl, rfl⟩ := e
   rw [if_neg (by omega)] at hc
   exact ⟨h', by rw [hc]; rfl, S⟩
end Go.Dd

namespace Go.Dd
def Oth (m wb pb : Pos) (h h1 : Hp) : Prop := h1.next = h.next ∧ ∀ b, b ≠ m → b ≠ wb → b ≠ pb → h1.bl.get b = h.bl.get b
theorem Oth.refl (m wb pb : Pos) (h : Hp) : Oth m wb pb h h := ⟨rfl, fun _ _ _ _ => rfl⟩
theorem Oth.trans {m wb pb : Pos} {a b c : Hp} (h : Oth m wb pb a b) (k : Oth m wb pb b c) : Oth m wb pb a c := ⟨k.1.trans h.1, fun x h1 h2 h3 => (k.2 x h1 h2 h3).trans (h.2 x h1 h2 h3)⟩
section
variable {m : Pos} {M : MemV} {h : Hp}
def bRi (M : MemV) : Ob := .row .ex [.l M.wb 0 M.n M.n, .i .i64 (Int.ofNat M.fin), .i .i64 (Int.ofNat M.made), .m M.pb]
theorem ML.setM (H : ML m M h) (M' : MemV) (e1 : M'.wb = M.wb) (e2 : M'.pb = M.pb) (e3 : M'.n = M.n) (e4 : M'.t = M.t) (e5 : M'.pl = M.pl) (h1 : M'.fin ≤ M.n) (h2 : M'.made < 2000000) :
  ML m M' ⟨h.next, Tr.set (bRi M') m h.bl⟩ ∧ Oth m M.wb M.pb h ⟨h.next, Tr.set (bRi M') m h.bl⟩ := by
 refine ⟨⟨by rw [eDv]; rfl, ?_, ?_, by rw [e3]; exact H.n_lt, by rw [e3]; exact h1, h2, by rw [e1]; exact H.d1, by rw [e2]; exact H.d2, by rw [e1, e2]; exact H.d3⟩, rfl, fun b h1 _ _ => eDu _ _ _ _ h1⟩
 ·rw [e1, e3, e4, eDu _ _ _ _ (Ne.symm H.d1)]; exact H.words
 ·rw [e2, e5, eDu _ _ _ _ (Ne.symm H.d2)]; exact H.places
theorem ML.st1 (H : ML m M h) {x : Nat} (hx : x ≤ M.n) : ∃ h1, aC 1 (.p m (0 + 1)) (.i .i64 (Int.ofNat x)) h = some (aX, h1) ∧ ML m { M with fin := x } h1 ∧ Oth m M.wb M.pb h h1 := by
 obtain ⟨a, b⟩ := H.setM { M with fin := x } rfl rfl rfl rfl rfl hx H.made_lt
 exact ⟨_, by simp [aC, fK, dP, H.row, Kind.writable, hU, nL, DV.one, bRi], a, b⟩
theorem ML.st2 (H : ML m M h) {x : Nat} (hx : x < 2000000) : ∃ h1, aC 1 (.p m (0 + 2)) (.i .i64 (Int.ofNat x)) h = some (aX, h1) ∧ ML m { M with made := x } h1 ∧ Oth m M.wb M.pb h h1 := by
 obtain ⟨a, b⟩ := H.setM { M with made := x } rfl rfl rfl rfl rfl H.fin_le hx
 exact ⟨_, by simp [aC, fK, dP, H.row, Kind.writable, hU, nL, DV.one, bRi], a, b⟩
theorem ML.setW (H : ML m M h) (t : WT) : ML m { M with t := t } ⟨h.next, Tr.set (.row .ex (iE M.n t)) M.wb h.bl⟩ ∧ Oth m M.wb M.pb h ⟨h.next, Tr.set (.row .ex (iE M.n t)) M.wb h.bl⟩ := by
 refine ⟨⟨?_, by rw [eDv], ?_, H.n_lt, H.fin_le, H.made_lt, H.d1, H.d2, H.d3⟩, rfl, fun b _ h1 _ => eDu _ _ _ _ h1⟩
 ·rw [eDu _ _ _ _ H.d1]; exact H.row
 ·rw [eDu _ _ _ _ (Ne.symm H.d3)]; exact H.places
theorem ML.put' (H : ML m M h) {a : Nat} (ha : a < M.n) (w : Int) : ∃ h1, aC 1 (.p M.wb a) (.i .i64 w) h = some (aX, h1) ∧ ML m { M with t := M.t.set a w } h1 ∧ Oth m M.wb M.pb h h1 :=
 ⟨_, H.put ha w, (H.setW _).1, (H.setW _).2⟩
theorem bLv {a : Int} {es : List (DV × DV)} : ∀ (b : Int) {r r' : Option DV}, iG (.int .i64) (.i .i64 a) es = some r → iG (.int .i64) (.i .i64 b) es = some r' →
  iG (.int .i64) (.i .i64 b) (qQ (.int .i64) (.i .i64 a) (.b true) es) = some (if b = a then some (.b true) else r') := by
 induction es with
 | nil =>
  intro b r r' h1 h2
  simp only [iG, bE] at h2
  subst h2
  simp only [qQ, iG, yR, if_true]
  by_cases e : b = a
  ·simp [e]
  ·have : (b == a) = false := by simpa using e
   simp [e, this]
 | cons e es ih =>
  intro b r r' h1 h2
  simp only [iG] at h1 h2
  have hk : ∃ c, e.1 = .i .i64 c := by
   obtain ⟨x, y⟩ := e
   cases x <;> simp [yR] at h1
   rename_i k c
   cases k <;> simp at h1
   exact ⟨c, rfl⟩
  obtain ⟨c, hc⟩ := hk
  simp only [hc, yR, if_true] at h1 h2
  simp only [qQ, hc, yR, if_true]
  by_cases hac : a = c
  ·subst hac
   simp only [beq_self_eq_true] at h1 ⊢
   simp only [iG, yR, if_true]
   by_cases hba : b = a
   ·subst hba; simp
   ·have : (b == a) = false := by simpa using hba
    simp only [this] at h2 ⊢
    rw [h2]; simp [hba]
  ·have hac' : (a == c) = false := by simpa using hac
   simp only [hac'] at h1 ⊢
   simp only [iG, hc, yR, if_true]
   by_cases hbc : b = c
   ·subst hbc
    simp only [beq_self_eq_true, bE] at h2 ⊢
    rw [if_neg (fun e => hac e.symm), h2]
   ·have hbc' : (b == c) = false := by simpa using hbc
    simp only [hbc'] at h2 ⊢
    exact ih b h1 h2
theorem ML.place (H : ML m M h) {a : Nat} (ha : a < 16000000) : ∃ h1, gK (.int .i64) (.m M.pb) (.i .i64 (a : Int)) (.b true) h = some (aX, h1) ∧ ML m { M with pl := M.pl.set a 1 } h1 ∧ Oth m M.wb M.pb h h1 := by
 obtain ⟨es, h1, h2⟩ := H.places
 refine ⟨⟨h.next, Tr.set (.mp (qQ (.int .i64) (.i .i64 (a : Int)) (.b true) es)) M.pb h.bl⟩, by simp [gK, h1, h2 a], ⟨?_, ?_, ⟨_, by rw [eDv], fun b => ?_⟩, H.n_lt, H.fin_le, H.made_lt, H.d1, H.d2, H.d3⟩, rfl, fun b _ _ h1 => eDu _ _ _ _ h1⟩
 ·rw [eDu _ _ _ _ H.d2]; exact H.row
 ·rw [eDu _ _ _ _ H.d3]; exact H.words
 ·rw [bLv b (h2 a) (h2 b)]
  congr 1
  by_cases e : b = (a : Int)
  ·subst e
   simp [WT.get_set _ _ _ _ ha]
  ·rw [if_neg e]
   by_cases hb : 0 ≤ b
   ·have : b.toNat ≠ a := by omega
    rw [WT.get_set _ _ _ _ ha, if_neg this]
   ·simp [hb]
theorem cLz {h' h1 : Hp} {M' : MemV} (S : Sim 0 h h') (hM : gU m h = some M) (H1 : ML m M' h1) (e1 : M'.wb = M.wb) (e2 : M'.pb = M.pb) (e3 : M'.n = M.n) (O : Oth m M.wb M.pb h' h1) :
  Sim 0 ⟨h.next, Tr.set (bRi M') m (Tr.set (.mi M'.pl) M.pb (Tr.set (.big M.n M'.t) M.wb h.bl))⟩ h1 := by
 have H := fL hM S
 refine ⟨O.1.trans S.next, fun b o hb => ?_⟩
 by_cases b1 : b = m
 ·subst b1
  simp only [eDv, bE] at hb
  subst hb
  exact ⟨_, H1.row, rfl⟩
 ·simp only [eDu _ _ _ _ b1] at hb
  by_cases b2 : b = M.pb
  ·subst b2
   simp only [eDv, bE] at hb
   subst hb
   obtain ⟨es, p1, p2⟩ := H1.places
   rw [e2] at p1
   exact ⟨_, p1, show dFu 0 _ _ from ⟨es, rfl, p2⟩⟩
  ·simp only [eDu _ _ _ _ b2] at hb
   by_cases b3 : b = M.wb
   ·subst b3
    simp only [eDv, bE] at hb
    subst hb
    have := H1.words
    rw [e1, e3] at this
    exact ⟨_, this, show cSk 0 _ _ _ from ⟨bDu hM S, rfl⟩⟩
   ·simp only [eDu _ _ _ _ b3] at hb
    rw [O.2 b b1 b3 b2]
    exact S.get b o hb
theorem bKp {h' h1 : Hp} {t : WT} (S : Sim 0 h h') (hM : gU m h = some M) (H1 : ML m { M with t := t } h1) (O : Oth m M.wb M.pb h' h1) (hm : h1.bl.get m = h'.bl.get m) (hp : h1.bl.get M.pb = h'.bl.get M.pb) :
  Sim 0 ⟨h.next, Tr.set (.big M.n t) M.wb h.bl⟩ h1 := by
 refine ⟨O.1.trans S.next, fun b o hb => ?_⟩
 by_cases b3 : b = M.wb
 ·subst b3
  simp only [eDv, bE] at hb
  subst hb
  exact ⟨_, H1.words, show cSk 0 _ _ _ from ⟨bDu hM S, rfl⟩⟩
 ·simp only [eDu _ _ _ _ b3] at hb
  by_cases b1 : b = m
  ·subst b1; rw [hm]; exact S.get _ o hb
  ·by_cases b2 : b = M.pb
   ·subst b2; rw [hp]; exact S.get _ o hb
   ·rw [O.2 b b1 b3 b2]
    exact S.get b o hb
end
theorem aRd {m : Pos} {M : MemV} {h h' : Hp} (S : Sim 0 h h') (hM : gU m h = some M) {a : Nat} (ha : a < M.n) (w : Int) {v : DV} {k : Hp} (hp : aBd M a w h = some (v, k)) :
  v = .i .i64 (Int.ofNat 0) ∧ ∃ h1, aC 1 (.p M.wb a) (.i .i64 w) h' = some (aX, h1) ∧ Sim 0 k h1 := by
 have H := fL hM S
 simp only [aBd, bE, bM] at hp
 obtain ⟨rfl, rfl⟩ := hp
 refine ⟨rfl, _, H.put ha w, bKp S hM (H.setW _).1 (H.setW _).2 ?_ ?_⟩
 ·exact eDu _ _ _ _ H.d1
 ·exact eDu _ _ _ _ (Ne.symm H.d3)
theorem cYp (n : Nat) (args : List DV) : SimP 0 (bNo args) (fN CF1 (n + 12) 47 args) := fun h h' S v k e => by
 obtain ⟨m, rest, M, rfl, hM, e⟩ := dL e
 split at e <;> (try (cases e; done))
 rename_i o i w _
 have H := fL hM S
 rw [cA 47 rfl, dYv]
 simp only [t47, bHl, g0, g1, g2, g3]
 rcases bWt H e with ⟨er, he, e1, e2⟩ | ⟨hd, a, h0, h1, h2, h3, e1, e2⟩
 ·simp only [bE, bM] at e1
  obtain ⟨rfl, rfl⟩ := e1
  refine ⟨h', ?_, S⟩
  simp only [e2 (n + 4), bK, bVk, cBy, aPu, aEz, dDv he, eG]
 ·have e0 : (Int.ofNat 0 != Int.ofNat 0) = false := rfl
  have h51 := dRd H (n + 5) o (show gP o M.pl < M.n by omega)
  rw [h3] at h51
  simp only [e2 (n + 4), bK, bVk, cBy, aPu, aEz, e0, fI, bAv, h51, gB]
  have hmod : Int.ofNat hd % 4 = Int.ofNat (Nat.mod hd 4) := rfl
  have h4 : sR (fN CF1 (n + 11)) (n + 11) (.p m 0) (.i .i64 w) (.i .i64 (a : Int)) h' = bnd (aC 1 (.p M.wb a) (.i .i64 w) h') fun _ h5 => some (.i .i64 (Int.ofNat 0), h5) := by
   simp only [sR, gN, dM, bK, H.l0, H.ix h1]
  have hput : aBd M a w h = some (v, k) → ∃ h1, sR (fN CF1 (n + 11)) (n + 11) (.p m 0) (.i .i64 w) (.i .i64 (a : Int)) h' = some (v, h1) ∧ Sim 0 k h1 := by
   intro hp
   obtain ⟨rfl, h1', p1, p2⟩ := aRd S hM h1 w hp
   exact ⟨h1', by rw [h4, p1]; rfl, p2⟩
  rw [hmod]
  split at e1
  ·rename_i hz
   rw [hz]
   have : (Int.ofNat 0 == Int.ofNat 0) = true := rfl
   simp only [this, eG, dWz H, bK, sW]
   cases hmay : aTe w M.pl with
   | true =>
    rw [hmay] at e1
    simp only [cond_true] at e1
    simp only [Bool.not_true, fI]
    exact hput e1
   | false =>
    rw [hmay] at e1
    simp only [cond_false, bE, bM] at e1
    obtain ⟨rfl, rfl⟩ := e1
    exact ⟨h', rfl, S⟩
  ·rename_i hz
   rw [hz]
   have q0 : (Int.ofNat 2 == Int.ofNat 0) = false := rfl
   have q2 : (Int.ofNat 2 == Int.ofNat 2) = true := rfl
   simp only [q0, fI, bK, q2, eG, gE]
   cases w with
   | negSucc c =>
    simp only [bE, bM] at e1
    obtain ⟨rfl, rfl⟩ := e1
    have hlt : decide (Int.negSucc c < Int.ofNat 0) = true := decide_eq_true (Int.negSucc_lt_zero c)
    simp only [hlt, jA, bK, dN, eG]
    exact ⟨h', rfl, S⟩
   | ofNat c =>
    dsimp only at e1
    have hlt : decide (Int.ofNat c < Int.ofNat 0) = false := by simp
    simp only [hlt, lW, bK, eD, lE]
    rw [tF] at e1
    by_cases hc : c ≤ 255
    ·simp only [hc, decide_true, cond_true] at e1
     have hgt : decide (Int.ofNat c > Int.ofNat 255) = false := by
      simp only [decide_eq_false_iff_not, Int.ofNat_eq_natCast]; omega
     simp only [hgt, fI]
     exact hput e1
    ·simp only [hc, decide_false, cond_false, bE, bM] at e1
     obtain ⟨rfl, rfl⟩ := e1
     have hgt : decide (Int.ofNat c > Int.ofNat 255) = true := by
      simp only [decide_eq_true_eq, Int.ofNat_eq_natCast]; omega
     simp only [hgt, eG]
     exact ⟨h', rfl, S⟩
  ·rename_i hz0 hz2
   have q0 : (Int.ofNat (Nat.mod hd 4) == Int.ofNat 0) = false := by
    simp only [beq_eq_false_iff_ne, ne_eq, Int.ofNat_eq_natCast]
    intro e; exact hz0 (by exact_mod_cast e)
   have q2 : (Int.ofNat (Nat.mod hd 4) == Int.ofNat 2) = false := by
    simp only [beq_eq_false_iff_ne, ne_eq, Int.ofNat_eq_natCast]
    intro e; exact hz2 (by exact_mod_cast e)
   simp only [q0, fI, bK, q2, fI]
   exact hput e1
theorem aJo (n : Nat) (args : List DV) : SimP 0 (jF args) (fN CF1 (n + 12) 44 args) := fun h h' S v k e => by
 obtain ⟨m, rest, M, rfl, hM, e⟩ := dL e
 split at e <;> (try (cases e; done))
 rename_i o c _
 have H := fL hM S
 rw [cA 44 rfl, dTk]
 simp only [t44, g0, g1, g2, sT H, bK, gB]
 rw [oS] at e
 by_cases h0 : gP o M.pl = 0
 ·simp only [h0, decide_true, Bool.true_or, cond_true, bE, bM] at e
  obtain ⟨rfl, rfl⟩ := e
  have : ((0 : Nat) : Int) = Int.ofNat 0 := rfl
  have q : (((gP o M.pl : Nat) : Int) == Int.ofNat 0) = true := by rw [h0]; rfl
  simp only [q, jA, bK, dN, eG]
  exact ⟨h', rfl, S⟩
 ·have q : (((gP o M.pl : Nat) : Int) == Int.ofNat 0) = false := by simpa using h0
  simp only [q, lW, bK, eD, dTt H, sW]
  cases hc : aHw c M.pl with
  | false =>
   rw [hc] at e
   simp only [h0, decide_false, Bool.not_false, Bool.false_or, cond_true, bE, bM] at e
   obtain ⟨rfl, rfl⟩ := e
   simp only [Bool.not_false, eG]
   exact ⟨h', rfl, S⟩
  | true =>
   rw [hc] at e
   simp only [h0, decide_false, Bool.not_true, Bool.false_or, cond_false] at e
   rw [iI] at e
   by_cases ha : Nat.add (gP o M.pl) 1 < M.n
   ·simp only [ha, decide_true, cond_true] at e
    have ha' : gP o M.pl + 1 < M.n := ha
    have hn := H.n_lt
    simp only [Bool.not_true, fI, gN, dM, bK, H.l0]
    rw [yD _ _ _ (by simp only [Int.ofNat_eq_natCast]; omega)]
    have ee : (gP o M.pl : Int) + Int.ofNat 1 = ((gP o M.pl + 1 : Nat) : Int) := by simp
    obtain ⟨rfl, h1', p1, p2⟩ := aRd S hM ha' c e
    simp only [bK, ee, H.ix ha', p1]
    exact ⟨h1', rfl, p2⟩
   ·simp only [ha, decide_false, cond_false] at e
    cases e
end Go.Dd

namespace Go.Dd
theorem jY (a b : Nat) (h : Hp) (hr : a + b < 4611686018427387904) : aE .add (.i .i64 (Int.ofNat a)) (.i .i64 (Int.ofNat b)) h = some (.i .i64 (Int.ofNat (a + b)), h) := by
 rw [yD _ _ _ (by simp only [Int.ofNat_eq_natCast]; omega)]
 rfl
theorem dNi (c f : Nat) (h : Hp) (hc : c ≤ 256) (hf : f ≤ 2) : aE .or (.i .i64 (4 * Int.ofNat c)) (.i .i64 (Int.ofNat f)) h = some (.i .i64 (Int.ofNat (c * 4 + f)), h) := by
 have hb : hY .or .i64 (4 * Int.ofNat c) (Int.ofNat f) = some (.i .i64 (Int.ofNat (c * 4 + f))) := by
  have := dHg c 2 f (by omega) (by omega)
  have e1 : ((c * 2 ^ 2 : Nat) : Int) = 4 * Int.ofNat c := by simp only [Int.ofNat_eq_natCast]; omega
  have e2 : ((c * 2 ^ 2 + f : Nat) : Int) = Int.ofNat (c * 4 + f) := rfl
  rw [e1, e2] at this
  rw [← this]; rfl
 simp only [aE, if_true, hb]
theorem aBm (t : WT) : ∀ (c a j : Nat), a + c < 16000000 → (nR t c a).get j = if a ≤ j ∧ j < a + c then 0 else t.get j
 | 0, a, j, h => by rw [if_neg (by omega)]; rfl
 | c + 1, a, j, h => by
  have e : nR t (c + 1) a = (nR t c (a + 1)).set a (.ofNat 0) := rfl
  rw [e, WT.get_set _ _ _ _ (by omega), aBm t c (a + 1) j (by omega)]
  by_cases h1 : j = a
  ·rw [if_pos h1, if_pos (by omega)]; rfl
  ·rw [if_neg h1]
   by_cases h2 : a + 1 ≤ j ∧ j < a + 1 + c
   ·rw [if_pos h2, if_pos (by omega)]
   ·rw [if_neg h2, if_neg (by omega)]
theorem bGp : ∀ (l vs : List DV), (∀ v ∈ l, v.one = true) → (∀ v ∈ vs, v.one = true) → vs.length ≤ l.length → ∃ l', nL l vs = some l'
 | l, [], _, _, _ => ⟨l, by cases l <;> rfl⟩
 | [], v :: vs, _, _, h => by simp at h
 | x :: l, v :: vs, h1, h2, h3 => by
  obtain ⟨l', e⟩ := bGp l vs (fun u hu => h1 u (by simp [hu])) (fun u hu => h2 u (by simp [hu])) (by simpa using h3)
  exact ⟨v :: l', by simp [nL, h1 x (by simp), h2 v (by simp), e]⟩
theorem aRn : ∀ (o : Nat) (l vs : List DV), (∀ v ∈ l, v.one = true) → (∀ v ∈ vs, v.one = true) → o + vs.length ≤ l.length → ∃ l', hU o l vs = some l'
 | 0, l, vs, h1, h2, h3 => by
  obtain ⟨l', e⟩ := bGp l vs h1 h2 (by omega)
  exact ⟨l', e⟩
 | o + 1, [], vs, h1, h2, h3 => by simp at h3
 | o + 1, x :: l, vs, h1, h2, h3 => by
  obtain ⟨l', e⟩ := aRn o l vs (fun u hu => h1 u (by simp [hu])) h2 (by simp at h3; omega)
  exact ⟨x :: l', by simp [hU, e]⟩
section
variable {m : Pos} {M : MemV} {h : Hp}
theorem bWe {n : Nat} {t : WT} : ∀ v ∈ iE n t, v.one = true := by
 intro v hv
 simp only [iE, List.mem_map] at hv
 obtain ⟨i, _, rfl⟩ := hv
 rfl
theorem ML.ix' (H : ML m M h) {a : Nat} (ha : a < M.n) : aJ 1 (.l M.wb 0 M.n M.n) (.i .i64 (Int.ofNat a)) h = some (.p M.wb a, h) := H.ix ha
theorem yN (c : Nat) : (List.replicate c [DV.i .i64 (Int.ofNat 0)]).flatten = List.replicate c (.i .i64 (Int.ofNat 0)) := by
 induction c with
 | zero => rfl
 | succ c ih => simp [List.replicate_succ, ih]
theorem ML.clear (H : ML m M h) {a c : Nat} (hac : a + c ≤ M.n) : ∃ v h1, cS 1 (.l M.wb 0 M.n M.n) (some (.i .i64 (Int.ofNat a))) (some (.i .i64 (Int.ofNat (a + c)))) h = some (v, h) ∧
  jH [.i .i64 (Int.ofNat 0)] v h = some (.t [], h1) ∧ ML m { M with t := nR M.t c a } h1 ∧ Oth m M.wb M.pb h h1 := by
 have hn := H.n_lt
 have e1 : iH (.i .i64 (Int.ofNat (a + c))) M.n = some (a + c) := by
  have : (0 : Int) ≤ Int.ofNat (a + c) ∧ Int.ofNat (a + c) ≤ (M.n : Int) := by simp only [Int.ofNat_eq_natCast]; omega
  simp only [iH, this, and_self, if_true]
  rfl
 have e2 : iH (.i .i64 (Int.ofNat a)) (a + c) = some a := by
  have : (0 : Int) ≤ Int.ofNat a ∧ Int.ofNat a ≤ ((a + c : Nat) : Int) := by simp only [Int.ofNat_eq_natCast]; omega
  simp only [iH, this, and_self, if_true]
  rfl
 refine ⟨.l M.wb (if M.n = a then 0 else 0 + a * 1) (a + c - a) (M.n - a), ?_⟩
 have hs : cS 1 (.l M.wb 0 M.n M.n) (some (.i .i64 (Int.ofNat a))) (some (.i .i64 (Int.ofNat (a + c)))) h = some (.l M.wb (if M.n = a then 0 else 0 + a * 1) (a + c - a) (M.n - a), h) := by
  simp only [cS, hiD, loD, e1, e2, H.words]
 by_cases hc : c = 0
 ·subst hc
  refine ⟨h, hs, by simp [jH], H, Oth.refl _ _ _ _⟩
 ·obtain ⟨l', hl'⟩ := aRn a (iE M.n M.t) (List.replicate c (.i .i64 (Int.ofNat 0))) bWe (fun v hv => by rw [List.eq_of_mem_replicate hv]; rfl) (by simp [iE]; omega)
  obtain ⟨p1, p2, p3, p4, p5⟩ := kX _ _ _ _ hl'
  have hll : l' = iE M.n (nR M.t c a) := by
   apply List.ext_getElem?
   intro j
   by_cases hj : j < M.n
   ·rw [kT hj, aBm _ _ _ _ (by omega)]
    by_cases hin : a ≤ j ∧ j < a + c
    ·rw [if_pos hin]
     obtain ⟨q1, _⟩ := p4 (j - a) (.i .i64 (Int.ofNat 0)) (by rw [List.getElem?_replicate, if_pos (by omega)])
     rw [show a + (j - a) = j from by omega] at q1
     exact q1
    ·rw [if_neg hin, p5 j (by rw [List.length_replicate]; omega), kT hj]
   ·rw [List.getElem?_eq_none (by rw [p1]; simp [iE]; omega), List.getElem?_eq_none (by simp [iE]; omega)]
  refine ⟨⟨h.next, Tr.set (.row .ex (iE M.n (nR M.t c a))) M.wb h.bl⟩, hs, ?_, (H.setW _).1, (H.setW _).2⟩
  have hna : M.n ≠ a := by omega
  rw [if_neg hna]
  simp only [jH, show a + c - a = c from by omega, hc, if_false, yN, dP, H.words, Kind.writable, if_true, Nat.zero_add, Nat.mul_one, hl', hll]
end
noncomputable def bHj (rec : FuncId → List DV → Hp → aH) (x0 x3 v26 : DV) (h0 : Hp) : aH :=
 bnd (aU x0 h0) fun v64 h64 =>
 bnd (aB 1 v64 h64) fun v65 h65 =>
 bnd (aA v65 h65) fun v66 h66 =>
 bnd (aE .add x3 (.i .i64 (Int.ofNat 3)) h66) fun v67 h67 =>
 bnd (aE .add v66 v67 h67) fun v68 h68 =>
 bnd (aU x0 h68) fun v69 h69 =>
 bnd (aB 1 v69 h69) fun v70 h70 =>
 bnd (aC 1 v70 v68 h70) fun _ h71 =>
 bnd (aU x0 h71) fun v72 h72 =>
 bnd (aB 3 v72 h72) fun v73 h73 =>
 bnd (aA v73 h73) fun v74 h74 =>
 bnd (gK (.int .i64) v74 v26 (.b true) h74) fun _ h75 =>
 bnd (rec 75 [v26] h75) fun v76 h76 =>
 bnd (aD 0 v76 h76) fun v77 h77 =>
 bnd (aD 1 v76 h77) fun v78 h78 =>
 some (.t [v77, (.i .i64 (Int.ofNat 0))], h78)
noncomputable def bCp (rec : FuncId → List DV → Hp → aH) (x0 x3 v26 : DV) (h0 : Hp) : aH :=
 bnd (aU x0 h0) fun v56 h56 =>
 bnd (aB 0 v56 h56) fun v57 h57 =>
 bnd (aA v57 h57) fun v58 h58 =>
 bnd (aE .add v26 (.i .i64 (Int.ofNat 3)) h58) fun v59 h59 =>
 bnd (aE .add v26 (.i .i64 (Int.ofNat 3)) h59) fun v60 h60 =>
 bnd (aE .add v60 x3 h60) fun v61 h61 =>
 bnd (cS 1 v58 (some v59) (some v61) h61) fun v62 h62 =>
 bnd (jH [(.i .i64 (Int.ofNat 0))] v62 h62) fun _ h63 =>
 bHj rec x0 x3 v26 h63
noncomputable def bHm (rec : FuncId → List DV → Hp → aH) (x0 x1 x2 x3 v26 : DV) (h0 : Hp) : aH :=
 bnd (aU x0 h0) fun v34 h34 =>
 bnd (aB 0 v34 h34) fun v35 h35 =>
 bnd (aA v35 h35) fun v36 h36 =>
 bnd (aU x0 h36) fun v37 h37 =>
 bnd (aB 0 v37 h37) fun v38 h38 =>
 bnd (aA v38 h38) fun v39 h39 =>
 bnd (aE .add v26 (.i .i64 (Int.ofNat 1)) h39) fun v40 h40 =>
 bnd (aU x0 h40) fun v41 h41 =>
 bnd (aB 0 v41 h41) fun v42 h42 =>
 bnd (aA v42 h42) fun v43 h43 =>
 bnd (aE .add v26 (.i .i64 (Int.ofNat 2)) h43) fun v44 h44 =>
 bnd (dE .shl x3 (.i .u64 (Int.ofNat 2)) h44) fun v45 h45 =>
 bnd (aE .or v45 x2 h45) fun v46 h46 =>
 bnd (aU x0 h46) fun v47 h47 =>
 bnd (aB 2 v47 h47) fun v48 h48 =>
 bnd (aA v48 h48) fun v49 h49 =>
 bnd (aJ 1 v36 v26 h49) fun v50 h50 =>
 bnd (aC 1 v50 v46 h50) fun v51 h51 =>
 bnd (aJ 1 v39 v40 h51) fun v52 h52 =>
 bnd (aC 1 v52 x1 h52) fun v53 h53 =>
 bnd (aJ 1 v43 v44 h53) fun v54 h54 =>
 bnd (aC 1 v54 v49 h54) fun v55 h55 =>
 bCp rec x0 x3 v26 h55
noncomputable def aLz (rec : FuncId → List DV → Hp → aH) (x0 x1 x2 x3 : DV) (h0 : Hp) : aH :=
 bnd (aU x0 h0) fun v24 h24 =>
 bnd (aB 1 v24 h24) fun v25 h25 =>
 bnd (aA v25 h25) fun v26 h26 =>
 bnd (aU x0 h26) fun v27 h27 =>
 bnd (aB 2 v27 h27) fun v28 h28 =>
 bnd (aA v28 h28) fun v29 h29 =>
 bnd (aE .add v29 (.i .i64 (Int.ofNat 1)) h29) fun v30 h30 =>
 bnd (aU x0 h30) fun v31 h31 =>
 bnd (aB 2 v31 h31) fun v32 h32 =>
 bnd (aC 1 v32 v30 h32) fun _ h33 =>
 bHm rec x0 x1 x2 x3 v26 h33
theorem dOt (rec : FuncId → List DV → Hp → aH) (n : Nat) (x0 x1 x2 x3 : DV) (h0 : Hp) : t30 rec n x0 x1 x2 x3 h0 = (
 bnd (rec 74 [x0, x1] h0) fun v1 h1 =>
 bnd (fV .not v1 h1) fun v2 h2 =>
 bnd (gD v2 false (some (x2, h2)) h2) fun v3 h3 =>
 bnd (gD v2 false (aE .lss v3 (.i .i64 (Int.ofNat 0)) h3) h3) fun v4 h4 =>
 bnd (aP v2 (.b true) v4 h4) fun v5 h5 =>
 bnd (gD v5 false (some (x2, h5)) h5) fun v6 h6 =>
 bnd (gD v5 false (aE .gtr v6 (.i .i64 (Int.ofNat 2)) h6) h6) fun v7 h7 =>
 bnd (aP v5 (.b true) v7 h7) fun v8 h8 =>
 bnd (gD v8 false (some (x3, h8)) h8) fun v9 h9 =>
 bnd (gD v8 false (aE .lss v9 (.i .i64 (Int.ofNat 0)) h9) h9) fun v10 h10 =>
 bnd (aP v8 (.b true) v10 h10) fun v11 h11 =>
 bnd (gD v11 false (some (x3, h11)) h11) fun v12 h12 =>
 bnd (gD v11 false (aE .gtr v12 (.i .i64 (Int.ofNat 256)) h12) h12) fun v13 h13 =>
 bnd (aP v11 (.b true) v13 h13) fun v14 h14 =>
 aT v14 (
 some (.t [(.i .i64 (Int.ofNat 0)), (.i .i64 (Int.ofNat 1))], h14)) (
 bnd (rec 29 [x0] h14) fun v15 h15 =>
 bnd (aE .add x3 (.i .i64 (Int.ofNat 3)) h15) fun v16 h16 =>
 bnd (aE .lss v15 v16 h16) fun v17 h17 =>
 bnd (gD v17 false (some (x0, h17)) h17) fun v18 h18 =>
 bnd (gD v17 false (aU v18 h18) h18) fun v19 h19 =>
 bnd (gD v17 false (aB 2 v19 h19) h19) fun v20 h20 =>
 bnd (gD v17 false (aA v20 h20) h20) fun v21 h21 =>
 bnd (gD v17 false (aE .geq v21 (.i .i64 (Int.ofNat 1099511627776)) h21) h21) fun v22 h22 =>
 bnd (aP v17 (.b true) v22 h22) fun v23 h23 =>
 aT v23 (
 some (.t [(.i .i64 (Int.ofNat 0)), (.i .i64 (Int.ofNat 4))], h23)) (
 aLz rec x0 x1 x2 x3 h23))) := rfl
section
variable {m : Pos} {M : MemV} {h : Hp}
theorem cEl (H : ML m M h) {c : Nat} (hr : M.fin + (c + 3) ≤ M.n) (ha : 3 ≤ M.fin ∧ M.fin ≤ 131072) (n : Nat) :
  ∃ h1, bHj (fN CF1 (n + 11)) (.p m 0) (.i .i64 (Int.ofNat c)) (.i .i64 (Int.ofNat M.fin)) h = some (.t [.i .i64 (Int.ofNat (Nat.mul M.fin 2)), .i .i64 (Int.ofNat 0)], h1) ∧
   ML m { M with fin := M.fin + (c + 3), pl := M.pl.set M.fin 1 } h1 ∧ Oth m M.wb M.pb h h1 := by
 have hn := H.n_lt
 simp only [bHj, gN, dM, bK, H.l1, jY c 3 _ (show c + 3 < 4611686018427387904 by omega), jY M.fin (c + 3) _ (show M.fin + (c + 3) < 4611686018427387904 by omega)]
 obtain ⟨h6, s6, H6, O6⟩ := H.st1 (x := M.fin + (c + 3)) hr
 simp only [s6, bK, H6.l3]
 obtain ⟨h7, s7, H7, O7⟩ := H6.place (a := M.fin) (by omega)
 rw [show gK (.int .i64) (.m M.pb) (.i .i64 (Int.ofNat M.fin)) (.b true) h6 = some (aX, h7) from s7]
 have hp : 3 ≤ Int.ofNat M.fin ∧ Int.ofNat M.fin ≤ 131072 := by simp only [Int.ofNat_eq_natCast]; omega
 have e2 : 2 * Int.ofNat M.fin = Int.ofNat (Nat.mul M.fin 2) := by
  have : Nat.mul M.fin 2 = M.fin * 2 := rfl
  rw [this]; simp only [Int.ofNat_eq_natCast]; omega
 have h75 := eDj (n + 9) (Int.ofNat M.fin) h7
 rw [if_pos hp, e2] at h75
 simp only [bK, h75, bVk, cBy]
 exact ⟨h7, rfl, H7, O6.trans O7⟩
theorem bYc (H : ML m M h) {c : Nat} (hr : M.fin + (c + 3) ≤ M.n) (n : Nat) :
  ∃ h1, bCp (fN CF1 (n + 11)) (.p m 0) (.i .i64 (Int.ofNat c)) (.i .i64 (Int.ofNat M.fin)) h = bHj (fN CF1 (n + 11)) (.p m 0) (.i .i64 (Int.ofNat c)) (.i .i64 (Int.ofNat M.fin)) h1 ∧
   ML m { M with t := nR M.t c (M.fin + 3) } h1 ∧ Oth m M.wb M.pb h h1 := by
 have hn := H.n_lt
 obtain ⟨vv, h5, s5, s5', H5, O5⟩ := H.clear (a := M.fin + 3) (c := c) (show M.fin + 3 + c ≤ M.n by omega)
 refine ⟨h5, ?_, H5, O5⟩
 simp only [bCp, gN, dM, bK, H.l0, jY M.fin 3 _ (show M.fin + 3 < 4611686018427387904 by omega), jY (M.fin + 3) c _ (show M.fin + 3 + c < 4611686018427387904 by omega), s5, s5']
theorem cEj (H : ML m M h) {cls : Int} {c f : Nat} (hcc : c ≤ 256) (hf : f ≤ 2) (hr : M.fin + (c + 3) ≤ M.n) (n : Nat) :
  ∃ h1, bHm (fN CF1 (n + 11)) (.p m 0) (.i .i64 cls) (.i .i64 (Int.ofNat f)) (.i .i64 (Int.ofNat c)) (.i .i64 (Int.ofNat M.fin)) h = bCp (fN CF1 (n + 11)) (.p m 0) (.i .i64 (Int.ofNat c)) (.i .i64 (Int.ofNat M.fin)) h1 ∧
   ML m { M with t := ((M.t.set M.fin (Int.ofNat (c * 4 + f))).set (M.fin + 1) cls).set (M.fin + 2) (Int.ofNat M.made) } h1 ∧ Oth m M.wb M.pb h h1 := by
 have hn := H.n_lt
 obtain ⟨h2, s2, H2, O2⟩ := H.put' (a := M.fin) (show M.fin < M.n by omega) (Int.ofNat (c * 4 + f))
 obtain ⟨h3, s3, H3, O3⟩ := H2.put' (a := M.fin + 1) (show M.fin + 1 < M.n by omega) cls
 obtain ⟨h4, s4, H4, O4⟩ := H3.put' (a := M.fin + 2) (show M.fin + 2 < M.n by omega) (Int.ofNat M.made)
 have i1 := H.ix' (a := M.fin) (by omega)
 have i2 : aJ 1 (.l M.wb 0 M.n M.n) (.i .i64 (Int.ofNat (M.fin + 1))) h2 = some (.p M.wb (M.fin + 1), h2) := H2.ix' (a := M.fin + 1) (show M.fin + 1 < M.n by omega)
 have i3 : aJ 1 (.l M.wb 0 M.n M.n) (.i .i64 (Int.ofNat (M.fin + 2))) h3 = some (.p M.wb (M.fin + 2), h3) := H3.ix' (a := M.fin + 2) (show M.fin + 2 < M.n by omega)
 have s3' : aC 1 (.p M.wb (M.fin + 1)) (.i .i64 cls) h2 = some (aX, h3) := s3
 have s4' : aC 1 (.p M.wb (M.fin + 2)) (.i .i64 (Int.ofNat M.made)) h3 = some (aX, h4) := s4
 refine ⟨h4, ?_, H4, (O2.trans O3).trans O4⟩
 simp only [bHm, gN, dM, bK, H.l0, H.l2, jY M.fin 1 _ (show M.fin + 1 < 4611686018427387904 by omega), jY M.fin 2 _ (show M.fin + 2 < 4611686018427387904 by omega),
  cZv (Int.ofNat c) _ (show -2305843009213693952 ≤ Int.ofNat c ∧ Int.ofNat c ≤ 2305843009213693951 by simp only [Int.ofNat_eq_natCast]; omega), dNi c f _ hcc hf, i1, s2, i2, s3', i3, s4']
end
theorem bMh {m : Pos} {M : MemV} {h h' : Hp} (S : Sim 0 h h') (hM : gU m h = some M) {cls : Int} {c f : Nat} (hcc : c ≤ 256) (hf : f ≤ 2) (hr : M.fin + (c + 3) ≤ M.n) (ha : 3 ≤ M.fin ∧ M.fin ≤ 131072) (n : Nat) :
  ∃ h1, aLz (fN CF1 (n + 11)) (.p m 0) (.i .i64 cls) (.i .i64 (Int.ofNat f)) (.i .i64 (Int.ofNat c)) h' = some (.t [.i .i64 (Int.ofNat (Nat.mul M.fin 2)), .i .i64 (Int.ofNat 0)], h1) ∧
   Sim 0 ⟨h.next, Tr.set (.row .ex [.l M.wb 0 M.n M.n, .i .i64 (Int.ofNat (M.fin + (c + 3))), .i .i64 (Int.ofNat (M.made + 1)), .m M.pb]) m
    (Tr.set (.mi (M.pl.set M.fin 1)) M.pb
     (Tr.set (.big M.n (nR (((M.t.set M.fin (Int.ofNat (c * 4 + f))).set (M.fin + 1) cls).set (M.fin + 2) (Int.ofNat (M.made + 1))) c (M.fin + 3))) M.wb h.bl))⟩ h1 := by
 have H := fL hM S
 have hmd : M.made < 1000000 := (gR hM).2.2.2.2.2
 obtain ⟨h1, s1, H1, O1⟩ := H.st2 (x := M.made + 1) (by omega)
 obtain ⟨h2, s2, H2, O2⟩ := cEj H1 (cls := cls) hcc hf hr n
 obtain ⟨h3, s3, H3, O3⟩ := bYc H2 hr n
 obtain ⟨h4, s4, H4, O4⟩ := cEl H3 hr ha n
 have e : aLz (fN CF1 (n + 11)) (.p m 0) (.i .i64 cls) (.i .i64 (Int.ofNat f)) (.i .i64 (Int.ofNat c)) h' = bHm (fN CF1 (n + 11)) (.p m 0) (.i .i64 cls) (.i .i64 (Int.ofNat f)) (.i .i64 (Int.ofNat c)) (.i .i64 (Int.ofNat M.fin)) h1 := by
  simp only [aLz, gN, dM, bK, H.l1, H.l2, jY M.made 1 _ (show M.made + 1 < 4611686018427387904 by omega), s1]
 refine ⟨h4, e.trans (s2.trans (s3.trans s4)), ?_⟩
 dsimp only at H4
 have H5 : ML m ⟨M.wb, M.n, M.fin + (c + 3), M.made + 1, M.pb, nR (((M.t.set M.fin (Int.ofNat (c * 4 + f))).set (M.fin + 1) cls).set (M.fin + 2) (Int.ofNat (M.made + 1))) c (M.fin + 3), M.pl.set M.fin 1⟩ h4 := H4
 exact cLz S hM H5 rfl rfl rfl (((O1.trans O2).trans O3).trans O4)
theorem bXt (n : Nat) (args : List DV) : SimP 0 (sX args) (fN CF1 (n + 12) 30 args) := fun h h' S v k e => by
 unfold sX at e
 split at e <;> (try (cases e; done))
 rename_i m cls fmt cnt
 split at e <;> (try (cases e; done))
 rename_i M hM
 have H := fL hM S
 have hn := H.n_lt
 have hfn := H.fin_le
 rw [cA 30 rfl, dUh, dOt]
 simp only [g0, g1, g2, g3, dTt H, bK, sW]
 have herr : ∀ er : Nat, err er h = some (v, k) → ∃ h1, (some (.t [.i .i64 (Int.ofNat 0), .i .i64 (Int.ofNat er)], h') : aH) = some (v, h1) ∧ Sim 0 k h1 := by
  intro er he
  simp only [err, bE, bM] at he
  obtain ⟨rfl, rfl⟩ := he
  exact ⟨h', rfl, S⟩
 cases hc : aHw cls M.pl with
 | false =>
  rw [hc] at e
  simp only [Bool.not_false, cond_true] at e
  simp only [Bool.not_false, jA, bK, dN, eG]
  exact herr 1 e
 | true =>
  rw [hc] at e
  simp only [Bool.not_true, cond_false] at e
  simp only [Bool.not_true, lW, bK, eD, gE]
  cases fmt with
  | negSucc f =>
   have hlt : decide (Int.negSucc f < Int.ofNat 0) = true := decide_eq_true (Int.negSucc_lt_zero f)
   simp only [hlt, jA, bK, dN, eG]
   exact herr 1 e
  | ofNat f =>
   have hlt : decide (Int.ofNat f < Int.ofNat 0) = false := by simp
   simp only [hlt, lW, bK, eD, lE]
   by_cases hf : f ≤ 2
   ·have hgt : decide (Int.ofNat f > Int.ofNat 2) = false := by simp only [decide_eq_false_iff_not, Int.ofNat_eq_natCast]; omega
    simp only [hgt, lW, bK, eD, gE]
    cases cnt with
    | negSucc c =>
     have hlt : decide (Int.negSucc c < Int.ofNat 0) = true := decide_eq_true (Int.negSucc_lt_zero c)
     simp only [hlt, jA, bK, dN, eG]
     exact herr 1 e
    | ofNat c =>
     have hlt : decide (Int.ofNat c < Int.ofNat 0) = false := by simp
     simp only [hlt, lW, bK, eD, lE]
     dsimp only at e
     simp only [tF, iI, hf, decide_true, Bool.true_and] at e
     by_cases hcc : c ≤ 256
     ·have hgt : decide (Int.ofNat c > Int.ofNat 256) = false := by simp only [decide_eq_false_iff_not, Int.ofNat_eq_natCast]; omega
      simp only [hgt, fI, dWu H, bK, jY c 3 _ (by omega), gE]
      simp only [hcc, decide_true, cond_true] at e
      have hsub : Nat.sub M.n M.fin = M.n - M.fin := rfl
      have hadd : Nat.add c 3 = c + 3 := rfl
      rw [hsub, hadd] at e
      by_cases hr : M.n - M.fin < c + 3
      ·simp only [hr, decide_true, cond_true] at e
       have hl : decide (Int.ofNat (M.n - M.fin) < Int.ofNat (c + 3)) = true := by simp only [decide_eq_true_eq, Int.ofNat_eq_natCast]; omega
       simp only [hl, jA, bK, dN, eG]
       exact herr 4 e
      ·simp only [hr, decide_false, cond_false] at e
       have hl : decide (Int.ofNat (M.n - M.fin) < Int.ofNat (c + 3)) = false := by simp only [decide_eq_false_iff_not, Int.ofNat_eq_natCast]; omega
       simp only [hl, lW, bK, eD, gN, dM, H.l2, aLj]
       have hg : decide (Int.ofNat M.made ≥ Int.ofNat 1099511627776) = false := by
        have hmd : M.made < 1000000 := (gR hM).2.2.2.2.2
        simp only [decide_eq_false_iff_not, Int.ofNat_eq_natCast]; omega
       simp only [hg, fI]
       by_cases ha : 3 ≤ M.fin ∧ M.fin ≤ 131072
       ·simp only [ha.1, ha.2, decide_true, Bool.and_self, cond_true, bE, bM] at e
        obtain ⟨rfl, rfl⟩ := e
        exact bMh S hM hcc hf (by omega) ha n
       ·have : (decide (3 ≤ M.fin) && decide (M.fin ≤ 131072)) = false := by
         rw [← Bool.not_eq_true]
         simpa using ha
        rw [this] at e
        simp only [cond_false] at e
        cases e
     ·have hgt : decide (Int.ofNat c > Int.ofNat 256) = true := by simp only [decide_eq_true_eq, Int.ofNat_eq_natCast]; omega
      simp only [hcc, decide_false, cond_false] at e
      simp only [hgt, eG]
      exact herr 1 e
   ·have hgt : decide (Int.ofNat f > Int.ofNat 2) = true := by simp only [decide_eq_true_eq, Int.ofNat_eq_natCast]; omega
    simp only [hgt, jA, bK, dN, eG]
    cases cnt with
    | negSucc c => exact herr 1 e
    | ofNat c =>
     dsimp only at e
     simp only [tF, hf, decide_false, Bool.false_and, cond_false] at e
     exact herr 1 e
theorem bAg (n : Nat) (args : List DV) : SimP 0 (rX args) (fN CF1 (n + 12) 41 args) := fun h h' S v k e => by
 unfold rX at e
 split at e <;> (try (cases e; done))
 ·rename_i w
  rw [cA 41 rfl, dDx]
  simp only [t41, g0, gE, bK]
  simp only [iI] at e
  by_cases h1 : w < 16
  ·simp only [h1, decide_true, Bool.true_or, cond_true, bE, bM] at e
   obtain ⟨rfl, rfl⟩ := e
   have hl : decide (Int.ofNat w < Int.ofNat 16) = true := by simp only [decide_eq_true_eq, Int.ofNat_eq_natCast]; omega
   simp only [hl, jA, bK, dN, eG]
   exact ⟨h', rfl, S⟩
  ·have hl : decide (Int.ofNat w < Int.ofNat 16) = false := by simp only [decide_eq_false_iff_not, Int.ofNat_eq_natCast]; omega
   simp only [hl, lW, bK, eD, lE]
   by_cases h2 : 131072 < w
   ·simp only [h2, decide_true, Bool.or_true, cond_true, bE, bM] at e
    obtain ⟨rfl, rfl⟩ := e
    have hg : decide (Int.ofNat w > Int.ofNat 131072) = true := by simp only [decide_eq_true_eq, Int.ofNat_eq_natCast]; omega
    simp only [hg, eG]
    exact ⟨h', rfl, S⟩
   ·simp only [h1, h2, decide_false, Bool.or_self, cond_false, bE, bM] at e
    obtain ⟨rfl, rfl⟩ := e
    have hg : decide (Int.ofNat w > Int.ofNat 131072) = false := by simp only [decide_eq_false_iff_not, Int.ofNat_eq_natCast]; omega
    simp only [hg, fI]
    have hms : cG 1 8 [.i .i64 (Int.ofNat 0)] (.i .i64 (Int.ofNat w)) (.i .i64 (Int.ofNat w)) h' = some (.l h'.next 0 w w, ⟨h'.next.succ, Tr.set (.row .ex (iE w .e)) h'.next h'.bl⟩) := by
     have hc : (0 : Int) ≤ Int.ofNat w ∧ Int.ofNat w ≤ Int.ofNat w ∧ (Int.ofNat w).toNat * 8 ≤ 2 ^ 30 ∧ (Int.ofNat w).toNat * 1 ≤ 2 ^ 24 ∧ Int.ofNat w < 2 ^ 32 := by
      have : (Int.ofNat w).toNat = w := rfl
      rw [this]
      simp only [Int.ofNat_eq_natCast]
      omega
     have hz : (List.replicate (Int.ofNat w).toNat [DV.i .i64 (Int.ofNat 0)]).flatten = iE w .e := by
      have : (Int.ofNat w).toNat = w := rfl
      rw [this, yN]
      apply List.ext_getElem?
      intro j
      by_cases hj : j < w
      ·rw [kT hj, List.getElem?_replicate, if_pos hj]; rfl
      ·rw [List.getElem?_replicate, if_neg hj, List.getElem?_eq_none (by simp [iE]; omega)]
     simp only [cG, hc, and_self, if_true, hz]
     rfl
    simp only [hms, bK, dX]
    have hb : ∀ x y h, bA [.l0, .i .i64 (Int.ofNat 0), .i .i64 (Int.ofNat 0), .m0] [(0, 1, .l x 0 w w), (1, 1, .i .i64 (Int.ofNat 3)), (3, 1, .m y)] h = some (.a [.l x 0 w w, .i .i64 (Int.ofNat 3), .i .i64 (Int.ofNat 0), .m y], h) := fun x y h => rfl
    simp only [hb, bK, bN, fK, bD]
    have hnx := S.next
    refine ⟨_, by rw [hnx]; rfl, ?_⟩
    refine ⟨rfl, fun b o hb => ?_⟩
    show ∃ o', (Tr.set _ (bB 2 h.next) (Tr.set _ (bB 1 h.next) (Tr.set _ h.next h'.bl))).get b = some o' ∧ _
    by_cases b1 : b = bB 2 h.next
    ·subst b1
     simp only [eDv, bE] at hb ⊢
     subst hb
     exact ⟨_, rfl, rfl⟩
    ·simp only [eDu _ _ _ _ b1] at hb ⊢
     by_cases b2 : b = bB 1 h.next
     ·subst b2
      simp only [eDv, bE] at hb ⊢
      subst hb
      exact ⟨_, rfl, show dFu 0 _ _ from ⟨[], rfl, fun a => by simp [iG, WT.get_e]⟩⟩
     ·simp only [eDu _ _ _ _ b2] at hb ⊢
      by_cases b3 : b = h.next
      ·subst b3
       simp only [eDv, bE] at hb ⊢
       subst hb
       exact ⟨_, rfl, show cSk 0 _ _ _ from ⟨by omega, by simp⟩⟩
      ·simp only [eDu _ _ _ _ b3] at hb ⊢
       exact S.get b o hb
 ·rename_i w
  simp only [bE, bM] at e
  obtain ⟨rfl, rfl⟩ := e
  rw [cA 41 rfl, dDx]
  have hl : decide (Int.negSucc w < Int.ofNat 16) = true := by simp only [decide_eq_true_eq]; have := Int.negSucc_lt_zero w; simp only [Int.ofNat_eq_natCast]; omega
  simp only [t41, g0, gE, bK, hl, jA, dN, eG]
  exact ⟨h', rfl, S⟩
end Go.Dd

namespace Go.Dd
theorem aDt {gg : Nat} (args : List DV) : SimP gg (lV args) (lV args) := fun h h' S v k e => by
 unfold lV at e ⊢
 split at e <;> (try (cases e; done))
 rename_i l c
 cases hc : Nat.blt c 256 with
 | false => rw [hc] at e; cases e
 | true =>
  rw [hc] at e
  simp only [cond_true, bE, bM] at e
  obtain ⟨rfl, rfl⟩ := e
  exact ⟨h', rfl, S⟩
theorem aYa {gg : Nat} (q : Pos) (l1 : DV) (cs : List DV) : SimP gg (jM q l1 cs) (jM q l1 cs) := fun h h' S v k e => by
 unfold jM at e ⊢
 split at e <;> (try (cases e; done))
 ·simp only [bE, bM] at e ⊢
  obtain ⟨rfl, rfl⟩ := e
  exact ⟨_, ⟨by rw [S.next], rfl⟩, by rw [S.next]; exact S.setR _ _ _ _⟩
 ·rename_i b o len cap
  cases hc : (Nat.ble cap len && !(mB b q)) with
  | false => rw [hc] at e; cases e
  | true =>
   rw [hc] at e
   simp only [cnd] at e ⊢
   split at e <;> (try (cases e; done))
   rename_i es l old hb hold
   rw [S.row hb, S.cellsAt hold]
   dsimp only
   split at e <;> (try (cases e; done))
   rename_i hr
   rw [if_pos hr]
   simp only [bE, bM] at e ⊢
   obtain ⟨rfl, rfl⟩ := e
   refine ⟨_, ⟨by rw [S.next], rfl⟩, ?_⟩
   rw [S.next]
   exact (S.setR .sp (bQ o l) b h.next).setR _ _ _ _
theorem aZo {gg : Nat} (c q : Pos) : SimP gg (qX c q) (qX c q) := by
 intro h h' S
 unfold qX
 refine eEc (kN _ h h' S) fun l1 _ _ _ => ?_
 refine eEc (eDx (mF l1) h h' S) fun n _ _ _ => ?_
 refine eEc (kP _ _ h h' S) fun x _ _ _ => ?_
 split
 ·refine eEs id ?_
  have S2 : Sim gg ⟨h.next.succ.succ, h.bl⟩ ⟨h'.next.succ.succ, h'.bl⟩ := ⟨by show h'.next.succ.succ = _; rw [S.next], S.get⟩
  refine eEc (aYa _ _ _ _ _ S2) fun l2 h3 h3' T3 => ?_
  exact eEc (kU _ _ _ h3 h3' T3) fun u h4 h4' T4 => SimR.some T4 _
 ·exact SimR.none _
theorem cLn {gg : Nat} (n : Nat) (f : FuncId) (args : List DV) : SimP gg (fnD CF0 n f args) (fnD CF0 n f args) :=
 cBj (gg := gg) (P := Go.Proofs.Tryz.prog) (I2 := fun _ => none) (I1 := fun _ => none) 0 (fun _ _ => rfl) (fun _ _ h => by cases h) n f args
theorem aLd {gg : Nat} (args : List DV) : SimP gg (lI args) (lI args) := by
 unfold lI
 intro h h' S
 split
 ·rename_i c lit
  dsimp only
  rw [show h'.next = h.next from S.next]
  refine eEc (aDe _ h h' S) fun b h1 h1' T1 => ?_
  refine eEc (kN _ h1 h1' T1) fun ls h2 h2' T2 => ?_
  refine eEc (cLn _ _ _ h2 h2' T2) fun i h3 h3' T3 => ?_
  refine eEc (eDx (zY _ _ _) h3 h3' T3) fun t h4 h4' T4 => ?_
  exact aJy (aZo _ _ h4 h4' T4) (SimR.some T4 _)
 ·exact SimR.none _
theorem nA {C : Cfg} {rec : FuncId → List DV → Hp → aH} {g : FuncId} (h : C.I g = none) (args : List DV) : bU C rec g args = rec g args := by
 funext k
 unfold bU
 rw [h]
theorem dPu {args : List DV} {h h' : Hp} {a : Pos → WT → WT → aH} {b r' : aH} (S : Sim 0 h h') (hb : SimR 0 b r') : SimR 0 (tE args h a b) r' := by
 unfold tE
 split
 ·rename_i m o rest
  split
  ·rename_i kd wb ofs n cc l h1
   cases Nat.blt 1 n with
   | false => exact SimR.none _
   | true => exact hb
  ·rename_i n t h1
   cases hn : Nat.beq n 0 with
   | false => exact SimR.none _
   | true =>
    exfalso
    cases Nat.eq_of_beq_eq_true hn
    obtain ⟨o', _, e⟩ := S.get _ _ h1
    have := e.1
    omega
  ·exact SimR.none _
 ·exact SimR.none _
theorem aBq {F : List DV → Hp → aH} {args : List DV} {X : Hp → aH} (H : SimP 0 (F args) X) : SimP 0 (qB F args) X := fun h h' S => dPu S (H h h' S)
theorem aTv {F : List DV → Hp → aH} {args : List DV} {X : Hp → aH} (H : SimP 0 (F args) X) : SimP 0 (rW F args) X := fun h h' S => dPu S (H h h' S)
theorem dDd {F : List DV → Hp → aH} {args : List DV} {X : Hp → aH} (H : SimP 0 (F args) X) : SimP 0 (yM F args) X := fun h h' S => dPu S (H h h' S)
theorem aQn (g : FuncId) (F : List DV → Hp → aH) (hg : aAy g = some F) (n : Nat) (args : List DV) : SimP 0 (F args) (fN CF1 (n + 12) g args) := by
 unfold aAy at hg
 have hb : ∀ k, Nat.beq g k = true → g = k := fun k h => Nat.eq_of_beq_eq_true h
 cases h1 : Nat.beq g 20 with
 | true => rw [h1] at hg; cases hg; rw [hb _ h1]; exact aBq (cWq n args)
 | false =>
 cases h2 : Nat.beq g 21 with
 | true => rw [h1, h2] at hg; cases hg; rw [hb _ h2]; exact aBq (dKx n args)
 | false =>
 cases h3 : Nat.beq g 22 with
 | true => rw [h1, h2, h3] at hg; cases hg; rw [hb _ h3]; exact dDd (bRg n args)
 | false =>
 cases h4 : Nat.beq g 29 with
 | true => rw [h1, h2, h3, h4] at hg; cases hg; rw [hb _ h4]; exact dDd (cAu n args)
 | false =>
 cases h5 : Nat.beq g 30 with
 | true => rw [h1, h2, h3, h4, h5] at hg; cases hg; rw [hb _ h5]; exact aTv (bXt n args)
 | false =>
 cases h6 : Nat.beq g 41 with
 | true => rw [h1, h2, h3, h4, h5, h6] at hg; cases hg; rw [hb _ h6]; exact bAg n args
 | false =>
 cases h7 : Nat.beq g 44 with
 | true => rw [h1, h2, h3, h4, h5, h6, h7] at hg; cases hg; rw [hb _ h7]; exact aTv (aJo n args)
 | false =>
 cases h8 : Nat.beq g 47 with
 | true => rw [h1, h2, h3, h4, h5, h6, h7, h8] at hg; cases hg; rw [hb _ h8]; exact aTv (cYp n args)
 | false =>
 cases h9 : Nat.beq g 50 with
 | true => rw [h1, h2, h3, h4, h5, h6, h7, h8, h9] at hg; cases hg; rw [hb _ h9]; exact aBq (bOi n args)
 | false =>
 cases h10 : Nat.beq g 51 with
 | true => rw [h1, h2, h3, h4, h5, h6, h7, h8, h9, h10] at hg; cases hg; rw [hb _ h10]; exact aBq (aTl n args)
 | false =>
 cases h11 : Nat.beq g 52 with
 | true => rw [h1, h2, h3, h4, h5, h6, h7, h8, h9, h10, h11] at hg; cases hg; rw [hb _ h11]; exact aBq (bAe n args)
 | false =>
 cases h12 : Nat.beq g 54 with
 | true => rw [h1, h2, h3, h4, h5, h6, h7, h8, h9, h10, h11, h12] at hg; cases hg; rw [hb _ h12]; exact aRc n args
 | false =>
 cases h13 : Nat.beq g 60 with
 | true => rw [h1, h2, h3, h4, h5, h6, h7, h8, h9, h10, h11, h12, h13] at hg; cases hg; rw [hb _ h13]; exact bKc n args
 | false =>
 cases h14 : Nat.beq g 62 with
 | true => rw [h1, h2, h3, h4, h5, h6, h7, h8, h9, h10, h11, h12, h13, h14] at hg; cases hg; rw [hb _ h14]; exact bOa n args
 | false =>
 cases h15 : Nat.beq g 73 with
 | true => rw [h1, h2, h3, h4, h5, h6, h7, h8, h9, h10, h11, h12, h13, h14, h15] at hg; cases hg; rw [hb _ h15]; exact aBq (cWn n args)
 | false => rw [h1, h2, h3, h4, h5, h6, h7, h8, h9, h10, h11, h12, h13, h14, h15] at hg; cases hg
theorem aZc (n : Nat) (f : FuncId) (args : List DV) : SimP 0 (fN CF n f args) (fN CF1 (n + 12) f args) := by
 have key := bCt (I := itm) (q := rgB) (gg := 0) (P := Go.Proofs.Tryz.prog) (I2 := CF.I) (I1 := CF1.I) 12 (fun g hg => by
  show (bif Nat.beq g 266 then some lV else bif Nat.beq g 242 then some lI else none) = none
  change (bif Nat.beq g 266 then some lV else bif Nat.beq g 242 then some lI else aAy g) = none at hg
  cases h1 : Nat.beq g 266 with
  | true => rw [h1] at hg; cases hg
  | false =>
   cases h2 : Nat.beq g 242 with
   | true => rw [h1, h2] at hg; cases hg
   | false => rfl) (fun g F hg n args => by
  change (bif Nat.beq g 266 then some lV else bif Nat.beq g 242 then some lI else aAy g) = some F at hg
  have hcall : bU ⟨Go.Proofs.Tryz.prog, CF1.I⟩ (fN ⟨Go.Proofs.Tryz.prog, CF1.I⟩ (n + 12)) g args = fun h => match (bif Nat.beq g 266 then some lV else bif Nat.beq g 242 then some lI else none : Option (List DV → Hp → aH)) with
   | some F => F args h
   | none => fN ⟨Go.Proofs.Tryz.prog, CF1.I⟩ (n + 12) g args h := rfl
  rw [hcall]
  cases h1 : Nat.beq g 266 with
  | true => rw [h1] at hg; cases hg; exact aDt args
  | false =>
   cases h2 : Nat.beq g 242 with
   | true => rw [h1, h2] at hg; cases hg; exact aLd args
   | false =>
    rw [h1, h2] at hg
    exact aQn g F hg n args) n f args
 exact key
end Go.Dd

namespace Go.Dd
open Go.Proofs
inductive Eff (m : Pos) (M : MemV) (N' : Nat) (c d : Hp) : Hp → Hp → Prop
 | same : Eff m M N' c d c d
 | put (t : WT) : Eff m M N' c d ⟨c.next, Tr.set (.big M.n t) M.wb c.bl⟩ ⟨d.next, Tr.set (.big N' t) M.wb d.bl⟩
 | mk (fin made : Nat) (t pl : WT) : Eff m M N' c d
   ⟨c.next, Tr.set (.row .ex [.l M.wb 0 M.n M.n, .i .i64 (.ofNat fin), .i .i64 (.ofNat made), .m M.pb]) m (Tr.set (.mi pl) M.pb (Tr.set (.big M.n t) M.wb c.bl))⟩
   ⟨d.next, Tr.set (.row .ex [.l M.wb 0 N' N', .i .i64 (.ofNat fin), .i .i64 (.ofNat made), .m M.pb]) m (Tr.set (.mi pl) M.pb (Tr.set (.big N' t) M.wb d.bl))⟩
def EffR (m : Pos) (M : MemV) (N' : Nat) (c d : Hp) (r r' : aH) : Prop := ∀ v g, r = some (v, g) → ∃ g', r' = some (v, g') ∧ Eff m M N' c d g g'
section
variable {m : Pos} {M : MemV} {N' : Nat} {c d : Hp}
theorem EffR.none (r : aH) : EffR m M N' c d none r := fun v g e => by cases e
theorem EffR.same (v : DV) : EffR m M N' c d (some (v, c)) (some (v, d)) := fun u g e => by
 simp only [bE, bM] at e
 obtain ⟨rfl, rfl⟩ := e
 exact ⟨d, rfl, .same⟩
theorem EffR.put (a : Nat) (w : Int) : EffR m M N' c d (aBd M a w c) (aBd { M with n := N' } a w d) := fun u g e => by
 simp only [aBd, bE, bM] at e ⊢
 obtain ⟨rfl, rfl⟩ := e
 exact ⟨_, ⟨rfl, rfl⟩, .put _⟩
theorem aZm {a n k : Nat} (h : Nat.blt a n = true) (hk : n ≤ k) : Nat.blt a k = true := by
 rw [iI, decide_eq_true_eq] at h ⊢
 omega
theorem EffR.head {o : Int} {k k' : Nat → aH} (hN : M.n ≤ N') (h : ∀ n, EffR m M N' c d (k n) (k' n)) : EffR m M N' c d (mE M o k) (mE { M with n := N' } o k') := by
 unfold mE
 try dsimp only
 cases hb : Nat.blt (Nat.add (gP o M.pl) 1) M.n with
 | false => exact EffR.none _
 | true =>
  rw [aZm hb hN]
  simp only [cond_true]
  cases M.t.get (gP o M.pl) with
  | negSucc a => exact EffR.none _
  | ofNat hd =>
   dsimp only
   cases Nat.blt hd 1000000000000 with
   | false => exact EffR.none _
   | true => exact h hd
theorem EffR.field {o i : Int} {b b' : Nat → aH} {k k' : Nat → Nat → aH} (hN : M.n ≤ N') (hb : ∀ n, EffR m M N' c d (b n) (b' n)) (h : ∀ x y, EffR m M N' c d (k x y) (k' x y)) :
  EffR m M N' c d (lP M o i b k) (lP { M with n := N' } o i b' k') := by
 unfold lP
 try dsimp only
 cases Nat.beq (gP o M.pl) 0 with
 | true => exact hb 1
 | false =>
  simp only [cond_false]
  cases i with
  | negSucc i => exact hb 5
  | ofNat i =>
   dsimp only
   refine EffR.head hN fun hd => ?_
   cases Nat.ble (Nat.div hd 4) i with
   | true => exact hb 5
   | false =>
    simp only [cond_false]
    cases hc : Nat.blt (Nat.add (Nat.add (gP o M.pl) 3) i) M.n with
    | false => exact EffR.none _
    | true => rw [aZm hc hN]; exact h _ _
theorem eEn {k k' : MemV → List DV → aH} (hc : gU m c = some M) (hd : gU m d = some { M with n := N' }) (o : Nat) (rest : List DV) (h : EffR m M N' c d (k M rest) (k' { M with n := N' } rest)) :
  EffR m M N' c d (lT (.p m o :: rest) c k) (lT (.p m o :: rest) d k') := by
 unfold lT
 cases o with
 | zero =>
  show EffR m M N' c d (match gU m c with
   | some M => k M rest
   | Option.none => Option.none) (match gU m d with
   | some M => k' M rest
   | Option.none => Option.none)
  rw [hc, hd]
  exact h
 | succ o => exact EffR.none _
variable (hc : gU m c = some M) (hd : gU m d = some { M with n := N' }) (hN : M.n ≤ N') (o : Nat) (rest : List DV)
include hc hd
theorem cMs : EffR m M N' c d (aXp (.p m o :: rest) c) (aXp (.p m o :: rest) d) := by
 unfold aXp
 refine eEn hc hd o rest ?_
 try dsimp only
 split <;> first | exact EffR.same _ | exact EffR.none _
theorem dQe : EffR m M N' c d (isF (.p m o :: rest) c) (isF (.p m o :: rest) d) := by
 unfold isF
 refine eEn hc hd o rest ?_
 try dsimp only
 split <;> first | exact EffR.same _ | exact EffR.none _
theorem bTr (h : N' = M.n) : EffR m M N' c d (jV (.p m o :: rest) c) (jV (.p m o :: rest) d) := by
 unfold jV
 refine eEn hc hd o rest ?_
 subst h
 split <;> first | exact EffR.same _ | exact EffR.none _
theorem cKc (h : N' = M.n) : EffR m M N' c d (aBy (.p m o :: rest) c) (aBy (.p m o :: rest) d) := by
 unfold aBy
 refine eEn hc hd o rest ?_
 subst h
 split <;> first | exact EffR.same _ | exact EffR.none _
include hN
theorem bLw : EffR m M N' c d (oC (.p m o :: rest) c) (oC (.p m o :: rest) d) := by
 unfold oC
 refine eEn hc hd o rest ?_
 try dsimp only
 split <;> first | exact EffR.head hN (fun _ => EffR.same _) | exact EffR.none _
theorem aYt : EffR m M N' c d (lN (.p m o :: rest) c) (lN (.p m o :: rest) d) := by
 unfold lN
 refine eEn hc hd o rest ?_
 try dsimp only
 split <;> first | exact EffR.head hN (fun _ => EffR.same _) | exact EffR.none _
theorem aVm : EffR m M N' c d (lJ (.p m o :: rest) c) (lJ (.p m o :: rest) d) := by
 unfold lJ
 refine eEn hc hd o rest ?_
 try dsimp only
 split <;> first | exact EffR.head hN (fun _ => EffR.same _) | exact EffR.none _
theorem cRt : EffR m M N' c d (aVr (.p m o :: rest) c) (aVr (.p m o :: rest) d) := by
 unfold aVr
 refine eEn hc hd o rest ?_
 try dsimp only
 split <;> first | exact EffR.field hN (fun _ => EffR.same _) (fun _ _ => EffR.same _) | exact EffR.none _
theorem cOm : EffR m M N' c d (bNo (.p m o :: rest) c) (bNo (.p m o :: rest) d) := by
 unfold bNo
 refine eEn hc hd o rest ?_
 try dsimp only
 split
 ·rename_i o i w
  refine EffR.field hN (fun _ => EffR.same _) fun hd a => ?_
  split
  ·cases aTe w M.pl with
   | true => exact EffR.put _ _
   | false => exact EffR.same _
  ·cases w with
   | negSucc c => exact EffR.same _
   | ofNat c =>
    dsimp only
    cases Nat.ble c 255 with
    | true => exact EffR.put _ _
    | false => exact EffR.same _
  ·exact EffR.put _ _
 ·exact EffR.none _
theorem cFz : EffR m M N' c d (jF (.p m o :: rest) c) (jF (.p m o :: rest) d) := by
 unfold jF
 refine eEn hc hd o rest ?_
 try dsimp only
 split
 ·rename_i o x
  cases Nat.beq (gP o M.pl) 0 || !(aHw x M.pl) with
  | true => exact EffR.same _
  | false =>
   simp only [cond_false]
   cases hb : Nat.blt (Nat.add (gP o M.pl) 1) M.n with
   | true => rw [aZm hb hN]; exact EffR.put _ _
   | false => exact EffR.none _
 ·exact EffR.none _
theorem bRs {args : List DV} (ha : args = .p m o :: rest) (hr : N' = M.n ∨ M.fin + 300 ≤ M.n) : EffR m M N' c d (sX args c) (sX args d) := by
 unfold sX
 split
 ·rename_i m0 cls fmt cnt
  simp only [List.cons.injEq, DV.p.injEq] at ha
  obtain ⟨⟨rfl, _⟩, _⟩ := ha
  rw [hc, hd]
  dsimp only
  have herr : ∀ n, EffR m0 M N' c d (err n c) (err n d) := fun n => EffR.same _
  cases !(aHw cls M.pl) with
  | true => exact herr 1
  | false =>
   simp only [cond_false]
   cases fmt with
   | negSucc f => exact herr 1
   | ofNat f =>
    cases cnt with
    | negSucc k => exact herr 1
    | ofNat k =>
     dsimp only
     cases hk : Nat.ble f 2 && Nat.ble k 256 with
     | false => exact herr 1
     | true =>
      simp only [cond_true]
      have hk2 : k ≤ 256 := by
       simp only [Bool.and_eq_true, tF, decide_eq_true_eq] at hk
       exact hk.2
      cases hf : Nat.blt (Nat.sub M.n M.fin) (Nat.add k 3) with
      | true =>
       rcases hr with rfl | hr
       ·rw [hf]; exact herr 4
       ·exfalso
        rw [iI, decide_eq_true_eq] at hf
        simp only [Nat.sub_eq, Nat.add_eq] at hf
        omega
      | false =>
       have hf' : Nat.blt (Nat.sub N' M.fin) (Nat.add k 3) = false := by
        rw [iI, decide_eq_false_iff_not] at hf ⊢
        simp only [Nat.sub_eq, Nat.add_eq] at hf ⊢
        omega
       rw [hf']
       simp only [cond_false]
       cases Nat.ble 3 M.fin && Nat.ble M.fin 131072 with
       | false => exact EffR.none _
       | true =>
        simp only [cond_true]
        intro v g e
        simp only [bE, bM] at e ⊢
        obtain ⟨rfl, rfl⟩ := e
        exact ⟨_, ⟨rfl, rfl⟩, .mk _ _ _ _⟩
 ·exact EffR.none _
end
end Go.Dd

namespace Go.Dd
open Go.Proofs
structure EffOk (F : List DV → Hp → aH) (rm : Prop) : Prop where
 eff : ∀ (m : Pos) (M : MemV) (N' : Nat) (c d : Hp) (o : Nat) (rest : List DV), gU m c = some M → gU m d = some { M with n := N' } → M.n ≤ N' → (N' = M.n ∨ (M.fin + 300 ≤ M.n ∧ rm)) → EffR m M N' c d (F (.p m o :: rest) c) (F (.p m o :: rest) d)
 mem : ∀ (m : Pos) (o : Nat) (rest : List DV) (h : Hp) r, F (.p m o :: rest) h = some r → ∃ M, gU m h = some M
def RoF (F : List DV → Hp → aH) : Prop := ∀ args h v g, F args h = some (v, g) → g = h
theorem aKb {m : Pos} {wb pb : Pos} {n fin made : Nat} {t pl : WT} {h : Hp} (h1 : h.bl.get m = some (.row .ex [.l wb 0 n n, .i .i64 (.ofNat fin), .i .i64 (.ofNat made), .m pb])) (h2 : h.bl.get wb = some (.big n t)) (h3 : h.bl.get pb = some (.mi pl)) (hn : n < 1000000) (hf : fin ≤ n) (hm : made < 1000000) : gU m h = some ⟨wb, n, fin, made, pb, t, pl⟩ := by
 unfold gU
 simp only [h1, h2, h3]
 have e1 : Nat.beq n n = true := by rw [oS]; simp
 have e2 : Nat.blt n 1000000 = true := by rw [iI]; simpa using hn
 have e3 : Nat.ble fin n = true := by rw [tF]; simpa using hf
 have e4 : Nat.blt made 1000000 = true := by rw [iI]; simpa using hm
 rw [e1, e2, e3, e4]
 rfl
theorem iS {m : Pos} {o : Nat} {rest : List DV} {h : Hp} {k : MemV → List DV → aH} {r : DV × Hp} (e : lT (.p m o :: rest) h k = some r) : ∃ M, gU m h = some M := by
 obtain ⟨m', rest', M, q, hM, _⟩ := dL e
 simp only [List.cons.injEq, DV.p.injEq] at q
 rw [q.1.1]
 exact ⟨M, hM⟩
theorem cOi : EffOk aXp True := ⟨fun m M N' c d o rest hc hd _ _ => cMs hc hd o rest, fun m o rest h r e => iS e⟩
theorem dHx : EffOk isF True := ⟨fun m M N' c d o rest hc hd _ _ => dQe hc hd o rest, fun m o rest h r e => iS e⟩
theorem aPs : EffOk jV False := ⟨fun m M N' c d o rest hc hd _ hr => bTr hc hd o rest (hr.resolve_right fun q => q.2), fun m o rest h r e => iS e⟩
theorem cLe : EffOk aBy False := ⟨fun m M N' c d o rest hc hd _ hr => cKc hc hd o rest (hr.resolve_right fun q => q.2), fun m o rest h r e => iS e⟩
theorem bJw : EffOk oC True := ⟨fun m M N' c d o rest hc hd hN _ => bLw hc hd hN o rest, fun m o rest h r e => iS e⟩
theorem bAj : EffOk lN True := ⟨fun m M N' c d o rest hc hd hN _ => aYt hc hd hN o rest, fun m o rest h r e => iS e⟩
theorem aVh : EffOk lJ True := ⟨fun m M N' c d o rest hc hd hN _ => aVm hc hd hN o rest, fun m o rest h r e => iS e⟩
theorem cTn : EffOk aVr True := ⟨fun m M N' c d o rest hc hd hN _ => cRt hc hd hN o rest, fun m o rest h r e => iS e⟩
theorem cNq : EffOk bNo True := ⟨fun m M N' c d o rest hc hd hN _ => cOm hc hd hN o rest, fun m o rest h r e => iS e⟩
theorem cFr : EffOk jF True := ⟨fun m M N' c d o rest hc hd hN _ => cFz hc hd hN o rest, fun m o rest h r e => iS e⟩
theorem bYy : EffOk sX True := ⟨fun m M N' c d o rest hc hd hN hr => bRs hc hd hN o rest rfl (hr.imp id fun q => q.1), fun m o rest h r e => by
 unfold sX at e
 split at e
 ·rename_i m0 cls fmt cnt q
  simp only [List.cons.injEq, DV.p.injEq] at q
  rw [q.1.1]
  split at e
  ·cases e
  ·rename_i M hM; exact ⟨M, hM⟩
 ·cases e⟩
theorem nY {args : List DV} {h g : Hp} {v : DV} {k : MemV → List DV → aH} (hk : ∀ M r v g, k M r = some (v, g) → g = h) (e : lT args h k = some (v, g)) : g = h := by
 obtain ⟨m', rest', M, q, hM, e⟩ := dL e
 exact hk _ _ _ _ e
theorem uR {M : MemV} {o : Int} {k : Nat → aH} {h g : Hp} {v : DV} (hk : ∀ n v g, k n = some (v, g) → g = h) (e : mE M o k = some (v, g)) : g = h := by
 unfold mE at e
 cases hb : Nat.blt (Nat.add (gP o M.pl) 1) M.n with
 | false => rw [hb] at e; cases e
 | true =>
  rw [hb] at e
  simp only [cond_true] at e
  cases ht : M.t.get (gP o M.pl) with
  | negSucc a => rw [ht] at e; cases e
  | ofNat hd =>
   rw [ht] at e
   dsimp only at e
   cases hc : Nat.blt hd 1000000000000 with
   | false => rw [hc] at e; cases e
   | true => rw [hc] at e; exact hk _ _ _ e
theorem iT {u v : DV} {h g : Hp} (e : (some (u, h) : aH) = some (v, g)) : g = h := by
 simp only [bE, bM] at e
 exact e.2.symm
theorem dKp : RoF aXp := fun args h v g e => nY (fun M r v g e => by split at e <;> first | exact iT e | cases e) e
theorem dRg : RoF isF := fun args h v g e => nY (fun M r v g e => by split at e <;> first | exact iT e | cases e) e
theorem cFc : RoF oC := fun args h v g e => nY (fun M r v g e => by split at e <;> first | exact uR (fun _ _ _ e => iT e) e | cases e) e
theorem bNc : RoF lN := fun args h v g e => nY (fun M r v g e => by split at e <;> first | exact uR (fun _ _ _ e => iT e) e | cases e) e
theorem bOf : RoF lJ := fun args h v g e => nY (fun M r v g e => by split at e <;> first | exact uR (fun _ _ _ e => iT e) e | cases e) e
theorem dHj : RoF aVr := fun args h v g e => nY (fun M r v g e => by
 split at e
 ·unfold lP at e
  rename_i o i
  cases h0 : Nat.beq (gP o M.pl) 0 with
  | true => rw [h0] at e; exact iT e
  | false =>
   rw [h0] at e
   simp only [cond_false] at e
   cases i with
   | negSucc i => exact iT e
   | ofNat i =>
    refine uR (fun hd v g e => ?_) e
    cases h1 : Nat.ble (Nat.div hd 4) i with
    | true => rw [h1] at e; exact iT e
    | false =>
     rw [h1] at e
     simp only [cond_false] at e
     cases h2 : Nat.blt (Nat.add (Nat.add (gP o M.pl) 3) i) M.n with
     | true => rw [h2] at e; exact iT e
     | false => rw [h2] at e; cases e
 ·cases e) e
theorem aMj {gg : Nat} (hg : 1 ≤ gg) {n : Nat} (hn : 2 ≤ n) (t : WT) : Rep gg (.big n t) (.big n t) := by
 obtain ⟨n, rfl⟩ : ∃ k, n = k + 2 := ⟨n - 2, by omega⟩
 match gg, hg with
 | 1, _ => exact rfl
 | g + 2, _ => exact rfl
theorem aWx {gg : Nat} (hg : 1 ≤ gg) (t : WT) : Rep gg (.mi t) (.mi t) := by
 match gg, hg with
 | 1, _ => exact rfl
 | g + 2, _ => exact rfl
theorem bFx {gg : Nat} (k : Kind) (l : List DV) : Rep gg (.row k l) (.row k l) := rfl
theorem Eff.sim {gg : Nat} (hg : 1 ≤ gg) {m : Pos} {M : MemV} {c d g g' : Hp} (S : Sim gg c d) (hn : 2 ≤ M.n) (E : Eff m M M.n c d g g') : Sim gg g g' := by
 cases E with
 | same => exact S
 | put t => rw [S.next]; exact S.set (aMj hg hn t) _ _
 | mk fin made t pl =>
  rw [S.next]
  exact ((S.set (aMj hg hn t) _ c.next).set (aWx hg pl) _ c.next).set (bFx _ _) _ c.next
theorem dAk {gg : Nat} (hg : 1 ≤ gg) {m : Pos} {M : MemV} {h h' : Hp} (S : Sim gg h h') (hM : gU m h = some M) (hn : 2 ≤ M.n) : gU m h' = some M := by
 obtain ⟨h1, h2, h3, h4, h5, h6⟩ := gR hM
 obtain ⟨o2, e2, r2⟩ := S.get _ _ h2
 obtain ⟨o3, e3, r3⟩ := S.get _ _ h3
 have q2 : o2 = .big M.n M.t := by
  revert r2
  match gg, hg with
  | 1, _ => exact fun r => r
  | g + 2, _ =>
   obtain ⟨k, hk⟩ : ∃ k, M.n = k + 2 := ⟨M.n - 2, by omega⟩
   rw [hk]
   exact fun r => r
 have q3 : o3 = .mi M.pl := by
  revert r3
  match gg, hg with
  | 1, _ => exact fun r => r
  | g + 2, _ => exact fun r => r
 subst q2 q3
 exact aKb (S.row h1) e2 e3 h4 h5 h6
theorem nF {gg : Nat} (hg : 1 ≤ gg) {F : List DV → Hp → aH} {rm : Prop} (hF : EffOk F rm) {m : Pos} {o : Nat} {rest : List DV} {kd : Kind} {wb : Pos} {ofs n cc : Nat} {l : List DV} {h h' : Hp} (S : Sim gg h h')
  (h1 : h.bl.get m = some (.row kd (.l wb ofs n cc :: l))) (hn : 2 ≤ n) : SimR gg (F (.p m o :: rest) h) (F (.p m o :: rest) h') := fun v g e => by
 obtain ⟨M, hM⟩ := hF.mem _ _ _ _ _ e
 have hMn : M.n = n := by
  have := (gR hM).1
  rw [h1] at this
  cases this
  rfl
 obtain ⟨g', e1, E⟩ := hF.eff m M M.n h h' o rest hM (show gU m h' = some { M with n := M.n } from dAk (M := M) hg S hM (by omega)) (Nat.le_refl _) (.inl rfl) v g e
 exact ⟨g', e1, E.sim hg S (by omega)⟩
theorem aCa {m : Pos} {t w : WT} {h h' : Hp} (S : Sim 1 h h') : Sim 1 (iC m t w h) (iC m t w h') := by
 unfold iC
 rw [S.next]
 exact (S.set (gH (.big 16384 w)) fU h.next).set (gH (lS 16384 t)) m h.next
section
variable {m : Pos} {t w : WT} {h h' : Hp} {S : Nat}
theorem aAd (hm : m ≠ fU) : (iC m t w h).bl.get m = some (lS 16384 t) := eDv _ _ _
theorem bSa (hm : m ≠ fU) : (iC m t w h).bl.get fU = some (.big 16384 w) := by
 show (Tr.set _ m (Tr.set _ fU h.bl)).get fU = _
 rw [eDu _ _ _ _ (fun e => hm e.symm), eDv]
theorem oH {b : Pos} (h1 : b ≠ m) (h2 : b ≠ fU) : (iC m t w h).bl.get b = h.bl.get b := by
 show (Tr.set _ m (Tr.set _ fU h.bl)).get b = _
 rw [eDu _ _ _ _ h1, eDu _ _ _ _ h2]
theorem zK (Sm : Sim (S + 2) h h') (g1 : h.bl.get m = some (.big 0 t)) (g2 : h.bl.get fU = some (.big 1 w)) (hS : 16384 ≤ S + 2) (hS2 : S + 2 < 1000000) (ok : okT t = true) {M : MemV} (hM : gU m (iC m t w h) = some M) :
  M.n = 16384 ∧ M.wb = fU ∧ M.pb = oP ∧ M.t = w ∧ M.fin + 300 ≤ 16384 ∧ t.get 0 = .ofNat M.fin ∧ t.get 1 = .ofNat M.made ∧ m ≠ fU ∧ oP ≠ m ∧ gU m h' = some { M with n := S + 2 } := by
 have hm : m ≠ fU := fun e => by rw [e, g2] at g1; cases g1
 obtain ⟨h1, h2, h3, h4, h5, h6⟩ := gR hM
 rw [aAd hm] at h1
 unfold lS at h1
 simp only [bE, Ob.row.injEq, List.cons.injEq, DV.l.injEq, DV.i.injEq, DV.m.injEq, true_and, and_true] at h1
 obtain ⟨⟨a1, a2, _⟩, a3, a4, a5⟩ := h1
 rw [← a1, bSa hm] at h2
 simp only [bE, Ob.big.injEq] at h2
 have hp : oP ≠ m := fun e => by
  rw [← a5, e, aAd hm] at h3
  cases h3
 have hpw : oP ≠ fU := fun e => by cases e
 rw [← a5, oH hp hpw] at h3
 have hfin : M.fin + 300 ≤ 16384 := by
  unfold okT at ok
  rw [a3] at ok
  simpa [tF] using ok
 refine ⟨a2.symm, a1.symm, a5.symm, h2.2.symm, hfin, a3, a4, hm, hp, ?_⟩
 obtain ⟨o1, e1, r1⟩ := Sm.get _ _ g1
 obtain ⟨o2, e2, r2⟩ := Sm.get _ _ g2
 obtain ⟨o3, e3, r3⟩ := Sm.get _ _ h3
 have r1 : o1 = lS (S + 2) t := r1
 have r2 : o2 = .big (S + 2) w := r2
 have r3 : o3 = .mi M.pl := r3
 subst r1 r2 r3
 unfold lS at e1
 rw [a3, a4] at e1
 have := aKb e1 e2 e3 hS2 (by omega) h6
 rw [this]
 obtain ⟨wb, n, fin, made, pb, tt, pl⟩ := M
 simp only at a1 a5 h2
 rw [a1, a5, h2.2]
theorem cCn {v : DV} {g : Hp} {kd : Kind} {e0 e3 : DV} {fin made : Int} {n : Nat} {w' : WT} (h1 : g.bl.get m = some (.row kd [e0, .i .i64 fin, .i .i64 made, e3])) (h2 : g.bl.get fU = some (.big n w')) :
  sS m t v g = some (v, ⟨g.next, Tr.set (.big 0 ((t.set 0 fin).set 1 made)) m (Tr.set (.big 1 w') fU g.bl)⟩) := by
 unfold sS
 rw [h1]
 try dsimp only
 rw [h2]
theorem bBl (t : WT) (a b : Int) : ((t.set 0 a).set 1 b).get 0 = a ∧ ((t.set 0 a).set 1 b).get 1 = b := by
 refine ⟨?_, ?_⟩
 ·rw [WT.get_set _ _ _ _ (by omega), if_neg (by omega), WT.get_set _ _ _ _ (by omega), if_pos rfl]
 ·rw [WT.get_set _ _ _ _ (by omega), if_pos rfl]
theorem rT (Sm : Sim (S + 2) h h') {fin made : Int} {w' : WT} {k g' : Hp} (hk : k.next = h.next) (hg : g'.next = h'.next)
  (k1 : k.bl.get m = some (.big 0 ((t.set 0 fin).set 1 made))) (k2 : k.bl.get fU = some (.big 1 w')) (g1 : g'.bl.get m = some (.row .ex [.l fU 0 (S + 2) (S + 2), .i .i64 fin, .i .i64 made, .m oP])) (g2 : g'.bl.get fU = some (.big (S + 2) w'))
  (hp : ∀ o, k.bl.get oP = some o → ∃ o', g'.bl.get oP = some o' ∧ Rep (S + 2) o o') (ho : ∀ b, b ≠ m → b ≠ fU → b ≠ oP → k.bl.get b = h.bl.get b ∧ g'.bl.get b = h'.bl.get b) : Sim (S + 2) k g' := by
 refine ⟨by rw [hg, hk]; exact Sm.next, fun b o hb => ?_⟩
 by_cases b1 : b = m
 ·subst b1
  rw [k1] at hb
  cases hb
  refine ⟨_, g1, ?_⟩
  show _ = lS (S + 2) _
  unfold lS
  rw [(bBl t fin made).1, (bBl t fin made).2]
 ·by_cases b2 : b = fU
  ·subst b2
   rw [k2] at hb
   cases hb
   exact ⟨_, g2, rfl⟩
  ·by_cases b3 : b = oP
   ·subst b3; exact hp o hb
   ·obtain ⟨q1, q2⟩ := ho b b1 b2 b3
    rw [q1] at hb
    rw [q2]
    exact Sm.get b o hb
end
end Go.Dd

namespace Go.Dd
open Go.Proofs
def OkG (gg : Nat) : Prop := gg = 1 ∨ ∃ S, gg = S + 2 ∧ 16384 ≤ S + 2 ∧ S + 2 < 1000000
theorem OkG.pos {gg : Nat} (h : OkG gg) : 1 ≤ gg := by
 rcases h with rfl | ⟨S, rfl, _⟩ <;> omega
inductive HidI (args : List DV) (h : Hp) (a : Pos → WT → WT → aH) (b : aH) (r : DV × Hp) : Prop
 | row (m : Pos) (o : Nat) (rest : List DV) (kd : Kind) (wb : Pos) (ofs n cc : Nat) (l : List DV) : args = .p m o :: rest → h.bl.get m = some (.row kd (.l wb ofs n cc :: l)) → 2 ≤ n → b = some r → HidI args h a b r
 | hid (m : Pos) (o : Nat) (rest : List DV) (t w : WT) : args = .p m o :: rest → h.bl.get m = some (.big 0 t) → h.bl.get fU = some (.big 1 w) → okT t = true → a m t w = some r → HidI args h a b r
theorem vP {args : List DV} {h : Hp} {a : Pos → WT → WT → aH} {b : aH} {r : DV × Hp} (e : tE args h a b = some r) : HidI args h a b r := by
 unfold tE at e
 split at e
 ·rename_i m o rest
  split at e
  ·rename_i kd wb ofs n cc l h1
   cases hb : Nat.blt 1 n with
   | false => rw [hb] at e; cases e
   | true =>
    rw [hb] at e
    rw [iI, decide_eq_true_eq] at hb
    exact .row m o rest kd wb ofs n cc l rfl h1 hb e
  ·rename_i n t h1
   cases hb : Nat.beq n 0 with
   | false => rw [hb] at e; cases e
   | true =>
    rw [hb] at e
    cases Nat.eq_of_beq_eq_true hb
    simp only [cond_true] at e
    split at e
    ·rename_i k w h2
     cases hk : (Nat.beq k 1 && okT t) with
     | false => rw [hk] at e; cases e
     | true =>
      rw [hk] at e
      simp only [Bool.and_eq_true] at hk
      cases Nat.eq_of_beq_eq_true hk.1
      exact .hid m o rest t w rfl h1 h2 hk.2 e
    ·cases e
  ·cases e
 ·cases e
theorem kZ {m : Pos} {o : Nat} {rest : List DV} {kd : Kind} {wb : Pos} {ofs n cc : Nat} {l : List DV} {h : Hp} {a : Pos → WT → WT → aH} {b : aH} (h1 : h.bl.get m = some (.row kd (.l wb ofs n cc :: l))) (hn : 2 ≤ n) : tE (.p m o :: rest) h a b = b := by
 unfold tE
 try dsimp only
 rw [h1]
 try dsimp only
 rw [show Nat.blt 1 n = true by rw [iI, decide_eq_true_eq]; omega]
 rfl
theorem bIu {m : Pos} {o : Nat} {rest : List DV} {t w : WT} {h : Hp} {a : Pos → WT → WT → aH} {b : aH} (h1 : h.bl.get m = some (.big 0 t)) (h2 : h.bl.get fU = some (.big 1 w)) (ok : okT t = true) : tE (.p m o :: rest) h a b = a m t w := by
 unfold tE
 try dsimp only
 rw [h1]
 try dsimp only
 rw [show Nat.beq 0 0 = true from rfl, cond_true, h2]
 try dsimp only
 rw [show Nat.beq 1 1 = true from rfl, ok]
 rfl
theorem jR {h h' : Hp} (S : Sim 1 h h') {b : Pos} {o : Ob} (e : h.bl.get b = some o) : h'.bl.get b = some o := by
 obtain ⟨o', e1, e2⟩ := S.get b o e
 rw [e1, iW e2]
theorem yB {S : Nat} {h h' : Hp} (Sm : Sim (S + 2) h h') {m : Pos} {t : WT} (g1 : h.bl.get m = some (.big 0 t)) : h'.bl.get m = some (.row .ex [.l fU 0 (S + 2) (S + 2), .i .i64 (t.get 0), .i .i64 (t.get 1), .m oP]) := by
 obtain ⟨o1, e1, r1⟩ := Sm.get _ _ g1
 have r1 : o1 = lS (S + 2) t := r1
 subst r1
 exact e1
theorem dFk {S : Nat} {h h' : Hp} (Sm : Sim (S + 2) h h') {b : Pos} {w : WT} (g2 : h.bl.get b = some (.big 1 w)) : h'.bl.get b = some (.big (S + 2) w) := by
 obtain ⟨o1, e1, r1⟩ := Sm.get _ _ g2
 have r1 : o1 = .big (S + 2) w := r1
 subst r1
 exact e1
theorem kQ {gg : Nat} (hg : OkG gg) {F : List DV → Hp → aH} (hF : EffOk F True) (hro : RoF F) (args : List DV) : SimP gg (qB F args) (qB F args) := fun h h' Sm v g e => by
 cases vP e with
 | row m o rest kd wb ofs n cc l ha h1 hn e1 =>
  subst ha
  obtain ⟨g', e2, S2⟩ := nF hg.pos hF Sm h1 hn v g e1
  exact ⟨g', (kZ (Sm.row h1) hn).trans e2, S2⟩
 | hid m o rest t w ha h1 h2 ok e1 =>
  subst ha
  cases hc : F (.p m o :: rest) (iC m t w h) with
  | none => rw [hc] at e1; cases e1
  | some r =>
   obtain ⟨v1, c1⟩ := r
   rw [hc] at e1
   simp only [bE, bM] at e1
   obtain ⟨rfl, rfl⟩ := e1
   rcases hg with rfl | ⟨S, rfl, hS, hS2⟩
   ·have hm : m ≠ fU := fun e => by rw [e, h2] at h1; cases h1
    obtain ⟨g', e2, _⟩ := nF (Nat.le_refl 1) hF (aCa (m := m) (t := t) (w := w) Sm) (aAd hm) (by omega) _ _ hc
    refine ⟨h', ?_, Sm⟩
    refine (bIu (jR Sm h1) (jR Sm h2) ok).trans ?_
    rw [e2]
   ·obtain ⟨M, hM⟩ := hF.mem _ _ _ _ _ hc
    obtain ⟨q1, q2, q3, q4, q5, q6, q7, hm, hp, hd⟩ := zK Sm h1 h2 hS hS2 ok hM
    obtain ⟨g', e2, _⟩ := hF.eff m M (S + 2) _ h' o rest hM hd (by omega) (.inr ⟨by omega, trivial⟩) _ _ hc
    cases hro _ _ _ _ e2
    exact ⟨h', (kZ (yB Sm h1) (by omega)).trans e2, Sm⟩
theorem aRo {gg : Nat} (hg : OkG gg) {F : List DV → Hp → aH} {rm : Prop} (hF : EffOk F rm) (args : List DV) : SimP gg (yM F args) (yM F args) := fun h h' Sm v g e => by
 cases vP e with
 | row m o rest kd wb ofs n cc l ha h1 hn e1 =>
  subst ha
  obtain ⟨g', e2, S2⟩ := nF hg.pos hF Sm h1 hn v g e1
  exact ⟨g', (kZ (Sm.row h1) hn).trans e2, S2⟩
 | hid m o rest t w ha h1 h2 ok e1 => cases e1
inductive BackI (m : Pos) (t : WT) (v : DV) (g : Hp) (r : DV × Hp) : Prop
 | mk (kd : Kind) (e0 e3 : DV) (k1 k2 : IntKind) (fin made : Int) (n : Nat) (w : WT) : g.bl.get m = some (.row kd [e0, .i k1 fin, .i k2 made, e3]) → g.bl.get fU = some (.big n w) → r = (v, ⟨g.next, Tr.set (.big 0 ((t.set 0 fin).set 1 made)) m (Tr.set (.big 1 w) fU g.bl)⟩) → BackI m t v g r
theorem aPz {m : Pos} {t : WT} {v : DV} {g : Hp} {r : DV × Hp} (e : sS m t v g = some r) : BackI m t v g r := by
 unfold sS at e
 split at e
 ·rename_i kd e0 k1 fin k2 made e3 h1
  split at e
  ·rename_i n w h2
   simp only [bE] at e
   exact .mk kd e0 e3 k1 k2 fin made n w h1 h2 e.symm
  ·cases e
 ·cases e
theorem bOj {m : Pos} {t : WT} {v u : DV} {g g' k : Hp} (S : Sim 1 g g') (e : sS m t v g = some (u, k)) : ∃ k', sS m t v g' = some (u, k') ∧ Sim 1 k k' := by
 cases aPz e with
 | mk kd e0 e3 k1 k2 fin made n w h1 h2 er =>
  simp only [bM] at er
  obtain ⟨rfl, rfl⟩ := er
  refine ⟨⟨g'.next, Tr.set (.big 0 ((t.set 0 fin).set 1 made)) m (Tr.set (.big 1 w) fU g'.bl)⟩, ?_, ?_⟩
  ·unfold sS
   rw [jR S h1]
   try dsimp only
   rw [jR S h2]
  ·rw [S.next]
   exact (S.set (gH (.big 1 w)) fU g.next).set (gH (.big 0 ((t.set 0 fin).set 1 made))) m g.next
theorem sA {gg : Nat} (hg : OkG gg) {F : List DV → Hp → aH} (hF : EffOk F True) (args : List DV) : SimP gg (rW F args) (rW F args) := fun h h' Sm v g e => by
 cases vP e with
 | row m o rest kd wb ofs n cc l ha h1 hn e1 =>
  subst ha
  obtain ⟨g', e2, S2⟩ := nF hg.pos hF Sm h1 hn v g e1
  exact ⟨g', (kZ (Sm.row h1) hn).trans e2, S2⟩
 | hid m o rest t w ha h1 h2 ok e1 =>
  subst ha
  cases hc : F (.p m o :: rest) (iC m t w h) with
  | none => rw [hc] at e1; cases e1
  | some r =>
   obtain ⟨v1, c1⟩ := r
   rw [hc] at e1
   dsimp only at e1
   rcases hg with rfl | ⟨S, rfl, hS, hS2⟩
   ·have hm : m ≠ fU := fun e => by rw [e, h2] at h1; cases h1
    obtain ⟨g', e2, S2⟩ := nF (Nat.le_refl 1) hF (aCa (m := m) (t := t) (w := w) Sm) (aAd hm) (by omega) _ _ hc
    obtain ⟨k', e3, S3⟩ := bOj S2 e1
    refine ⟨k', ?_, S3⟩
    refine (bIu (jR Sm h1) (jR Sm h2) ok).trans ?_
    rw [e2]
    exact e3
   ·obtain ⟨M, hM⟩ := hF.mem _ _ _ _ _ hc
    obtain ⟨q1, q2, q3, q4, q5, q6, q7, hm, hp, hd⟩ := zK Sm h1 h2 hS hS2 ok hM
    obtain ⟨g', e2, E⟩ := hF.eff m M (S + 2) _ h' o rest hM hd (by omega) (.inr ⟨by omega, trivial⟩) _ _ hc
    refine ⟨g', (kZ (yB Sm h1) (by omega)).trans ?_, ?_⟩
    ·cases aPz e1 with
     | mk kd e0 e3 k1 k2 fin made n w h1 h2 er =>
      simp only [bM] at er
      rw [e2, er.1]
    ·have hpw : oP ≠ fU := fun e => by cases e
     have hwm : fU ≠ m := fun e => hm e.symm
     have hwp : fU ≠ oP := fun e => by cases e
     have hmp : m ≠ oP := fun e => hp e.symm
     have cm := aAd (t := t) (w := w) (h := h) hm
     have cw := bSa (t := t) (w := w) (h := h) hm
     obtain ⟨Mwb, Mn, Mfin, Mmade, Mpb, Mt, Mpl⟩ := M
     simp only at q1 q2 q3 q4 q6 q7
     subst q1 q2 q3 q4
     have low : ∀ {k1 k2 : Hp}, ∀ b, b ≠ m → b ≠ fU → b ≠ oP → (iC m t Mt h).bl.get b = h.bl.get b := fun b b1 b2 b3 => oH b1 b2
     cases E with
     | same =>
      rw [cCn (t := t) (v := v1) (show (iC m t Mt h).bl.get m = some (.row .ex [.l fU 0 16384 16384, .i .i64 (t.get 0), .i .i64 (t.get 1), .m oP]) from cm) cw] at e1
      simp only [bE, bM] at e1
      obtain ⟨rfl, rfl⟩ := e1
      refine rT Sm (fin := t.get 0) (made := t.get 1) (w' := Mt) rfl rfl (eDv _ _ _) ?_ (yB Sm h1) (dFk Sm h2) (fun o ho => ?_) (fun b b1 b2 b3 => ⟨?_, rfl⟩)
      ·show (Tr.set _ m (Tr.set _ fU _)).get fU = _
       rw [eDu _ _ _ _ hwm, eDv]
      ·have ho : (Tr.set _ m (Tr.set _ fU _)).get oP = some o := ho
       rw [eDu _ _ _ _ hp, eDu _ _ _ _ hpw, oH hp hpw] at ho
       exact Sm.get _ _ ho
      ·show (Tr.set _ m (Tr.set _ fU _)).get b = _
       rw [eDu _ _ _ _ b1, eDu _ _ _ _ b2]
       exact oH b1 b2
     | put t' =>
      have i1 : (Tr.set (.big 16384 t') fU (iC m t Mt h).bl).get m = some (.row .ex [.l fU 0 16384 16384, .i .i64 (t.get 0), .i .i64 (t.get 1), .m oP]) := by
       rw [eDu _ _ _ _ hm]; exact cm
      rw [cCn (t := t) (v := v1) (g := ⟨_, Tr.set (.big 16384 t') fU (iC m t Mt h).bl⟩) i1 (eDv (.big 16384 t') fU (iC m t Mt h).bl)] at e1
      simp only [bE, bM] at e1
      obtain ⟨rfl, rfl⟩ := e1
      refine rT Sm (fin := t.get 0) (made := t.get 1) (w' := t') rfl rfl (eDv _ _ _) ?_ ?_ (eDv (.big (S + 2) t') fU h'.bl) (fun o ho => ?_) (fun b b1 b2 b3 => ⟨?_, ?_⟩)
      ·show (Tr.set _ m (Tr.set _ fU _)).get fU = _
       rw [eDu _ _ _ _ hwm, eDv]
      ·show (Tr.set _ fU h'.bl).get m = _
       rw [eDu _ _ _ _ hm]
       exact yB Sm h1
      ·have ho : (Tr.set _ m (Tr.set _ fU (Tr.set _ fU _))).get oP = some o := ho
       rw [eDu _ _ _ _ hp, eDu _ _ _ _ hpw, eDu _ _ _ _ hpw, oH hp hpw] at ho
       show ∃ o', (Tr.set _ fU h'.bl).get oP = _ ∧ _
       rw [eDu _ _ _ _ hpw]
       exact Sm.get _ _ ho
      ·show (Tr.set _ m (Tr.set _ fU (Tr.set _ fU _))).get b = _
       rw [eDu _ _ _ _ b1, eDu _ _ _ _ b2, eDu _ _ _ _ b2]
       exact oH b1 b2
      ·show (Tr.set _ fU h'.bl).get b = _
       rw [eDu _ _ _ _ b2]
     | mk fin made t' pl =>
      rw [cCn (t := t) (v := v1) (g := ⟨_, Tr.set (.row .ex [.l fU 0 16384 16384, .i .i64 (.ofNat fin), .i .i64 (.ofNat made), .m oP]) m (Tr.set (Ob.mi pl) oP (Tr.set (.big 16384 t') fU (iC m t Mt h).bl))⟩) (eDv _ _ _) (by
       show (Tr.set _ m (Tr.set _ oP (Tr.set _ fU _))).get fU = _
       rw [eDu _ _ _ _ hwm, eDu _ _ _ _ hwp, eDv])] at e1
      simp only [bE, bM] at e1
      obtain ⟨rfl, rfl⟩ := e1
      refine rT Sm (fin := .ofNat fin) (made := .ofNat made) (w' := t') rfl rfl (eDv _ _ _) ?_ (eDv _ _ _) ?_ (fun o ho => ?_) (fun b b1 b2 b3 => ⟨?_, ?_⟩)
      ·show (Tr.set _ m (Tr.set _ fU _)).get fU = _
       rw [eDu _ _ _ _ hwm, eDv]
      ·show (Tr.set _ m (Tr.set _ oP (Tr.set _ fU _))).get fU = _
       rw [eDu _ _ _ _ hwm, eDu _ _ _ _ hwp, eDv]
      ·have ho : (Tr.set _ m (Tr.set _ fU (Tr.set _ m (Tr.set (Ob.mi pl) oP _)))).get oP = some o := ho
       rw [eDu _ _ _ _ hp, eDu _ _ _ _ hpw, eDu _ _ _ _ hp, eDv] at ho
       cases ho
       refine ⟨.mi pl, ?_, aWx (by omega) pl⟩
       show (Tr.set _ m (Tr.set (Ob.mi pl) oP _)).get oP = _
       rw [eDu _ _ _ _ hp, eDv]
      ·show (Tr.set _ m (Tr.set _ fU (Tr.set _ m (Tr.set (Ob.mi pl) oP (Tr.set _ fU _))))).get b = _
       rw [eDu _ _ _ _ b1, eDu _ _ _ _ b2, eDu _ _ _ _ b1, eDu _ _ _ _ b3, eDu _ _ _ _ b2]
       exact oH b1 b2
      ·show (Tr.set _ m (Tr.set (Ob.mi pl) oP (Tr.set _ fU _))).get b = _
       rw [eDu _ _ _ _ b1, eDu _ _ _ _ b3, eDu _ _ _ _ b2]
end Go.Dd

namespace Go.Dd
open Go.Proofs
theorem dVq {gg : Nat} (ok : OkG gg) (g : FuncId) (F : List DV → Hp → aH) (hg : aAy g = some F) (args : List DV) : SimP gg (F args) (F args) := by
 have hnew : SimP gg (rX args) (rX args) := fun h h' S => by
  unfold rX
  split
  ·rename_i n
   cases hb : Nat.blt n 16 || Nat.blt 131072 n with
   | true => exact SimR.some S _
   | false =>
    have hn : 2 ≤ n := by
     simp only [Bool.or_eq_false_iff, iI, decide_eq_false_iff_not] at hb
     omega
    simp only [cond_false]
    intro v g e
    simp only [bE, bM] at e ⊢
    obtain ⟨rfl, rfl⟩ := e
    rw [S.next]
    exact ⟨_, ⟨rfl, rfl⟩, ((S.set (aMj ok.pos hn _) _ h.next).set (aWx ok.pos _) _ h.next).set (bFx _ _) _ _⟩
  ·exact SimR.some S _
  ·exact SimR.none _
 have hsm : SimP gg (kS args) (kS args) := fun h h' S => by unfold kS; split <;> first | exact SimR.some S _ | exact SimR.none _
 have hva : SimP gg (oM args) (oM args) := fun h h' S => by
  unfold oM
  split
  ·rename_i w
   cases iJ w <;> exact SimR.some S _
  ·exact SimR.none _
 have hsl : SimP gg (mS args) (mS args) := fun h h' S => by
  unfold mS
  split
  ·rename_i n; cases Nat.blt n 1073741824 <;> exact SimR.some S _
  ·rename_i n; cases Nat.blt n 1073741824 <;> exact SimR.some S _
  ·exact SimR.none _
 unfold aAy at hg
 cases h1 : Nat.beq g 20 with
 | true => rw [h1] at hg; cases hg; exact kQ ok cOi dKp args
 | false =>
 cases h2 : Nat.beq g 21 with
 | true => rw [h1, h2] at hg; cases hg; exact kQ ok dHx dRg args
 | false =>
 cases h3 : Nat.beq g 22 with
 | true => rw [h1, h2, h3] at hg; cases hg; exact aRo ok aPs args
 | false =>
 cases h4 : Nat.beq g 29 with
 | true => rw [h1, h2, h3, h4] at hg; cases hg; exact aRo ok cLe args
 | false =>
 cases h5 : Nat.beq g 30 with
 | true => rw [h1, h2, h3, h4, h5] at hg; cases hg; exact sA ok bYy args
 | false =>
 cases h6 : Nat.beq g 41 with
 | true => rw [h1, h2, h3, h4, h5, h6] at hg; cases hg; exact hnew
 | false =>
 cases h7 : Nat.beq g 44 with
 | true => rw [h1, h2, h3, h4, h5, h6, h7] at hg; cases hg; exact sA ok cFr args
 | false =>
 cases h8 : Nat.beq g 47 with
 | true => rw [h1, h2, h3, h4, h5, h6, h7, h8] at hg; cases hg; exact sA ok cNq args
 | false =>
 cases h9 : Nat.beq g 50 with
 | true => rw [h1, h2, h3, h4, h5, h6, h7, h8, h9] at hg; cases hg; exact kQ ok bJw cFc args
 | false =>
 cases h10 : Nat.beq g 51 with
 | true => rw [h1, h2, h3, h4, h5, h6, h7, h8, h9, h10] at hg; cases hg; exact kQ ok bAj bNc args
 | false =>
 cases h11 : Nat.beq g 52 with
 | true => rw [h1, h2, h3, h4, h5, h6, h7, h8, h9, h10, h11] at hg; cases hg; exact kQ ok aVh bOf args
 | false =>
 cases h12 : Nat.beq g 54 with
 | true => rw [h1, h2, h3, h4, h5, h6, h7, h8, h9, h10, h11, h12] at hg; cases hg; exact hsm
 | false =>
 cases h13 : Nat.beq g 60 with
 | true => rw [h1, h2, h3, h4, h5, h6, h7, h8, h9, h10, h11, h12, h13] at hg; cases hg; exact hsl
 | false =>
 cases h14 : Nat.beq g 62 with
 | true => rw [h1, h2, h3, h4, h5, h6, h7, h8, h9, h10, h11, h12, h13, h14] at hg; cases hg; exact hva
 | false =>
 cases h15 : Nat.beq g 73 with
 | true => rw [h1, h2, h3, h4, h5, h6, h7, h8, h9, h10, h11, h12, h13, h14, h15] at hg; cases hg; exact kQ ok cTn dHj args
 | false => rw [h1, h2, h3, h4, h5, h6, h7, h8, h9, h10, h11, h12, h13, h14, h15] at hg; cases hg
theorem dDm {gg : Nat} (ok : OkG gg) (g : FuncId) (F : List DV → Hp → aH) (hg : CF.I g = some F) (args : List DV) : SimP gg (F args) (F args) := by
 change (bif Nat.beq g 266 then some lV else bif Nat.beq g 242 then some lI else aAy g) = some F at hg
 cases h1 : Nat.beq g 266 with
 | true => rw [h1] at hg; cases hg; exact aDt args
 | false =>
  cases h2 : Nat.beq g 242 with
  | true => rw [h1, h2] at hg; cases hg; exact aLd args
  | false => rw [h1, h2] at hg; exact dVq ok g F hg args
end Go.Dd

namespace Go.Dd
open Go.Proofs
noncomputable def bW (rec : FuncId → List DV → Hp → aH) (n : Nat) (x5 : DV) (h0 : Hp) : aH :=
 some (x5, h0)
noncomputable def cN (rec : FuncId → List DV → Hp → aH) (n : Nat) (kk5 : DV → DV → DV → DV → Hp → aH) (x0 x1 x5 x6 : DV) (h0 : Hp) : aH :=
 bnd (aE .sub x6 (.i .i64 (Int.ofNat 1)) h0) fun v1 h1 =>
 kk5 x0 x1 x5 v1 h1
noncomputable def dS (rec : FuncId → List DV → Hp → aH) (n : Nat) (kk5 : DV → DV → DV → DV → Hp → aH) (x0 x1 x5 x6 x7 : DV) (h0 : Hp) : aH :=
 bnd (aW 1 16 x7 x5 h0) fun v3 h3 =>
 bnd (rec 93 [x0, x1] h3) fun v4 h4 =>
 cN rec n kk5 x0 v4 v3 x6 h4
noncomputable def pR (rec : FuncId → List DV → Hp → aH) (n : Nat) (kk5 : DV → DV → DV → DV → Hp → aH) (kk12 : DV → DV → DV → DV → DV → DV → DV → DV → Hp → aH) (x0 x1 x5 x6 x7 x8 x34 x35 : DV) (h0 : Hp) : aH :=
  bnd (aE .lss x35 x34 h0) fun v7 h7 =>
  aT v7 (
   bnd (rec 53 [x0, x8, x35] h7) fun v8 h8 =>
   bnd (rec 13 [x0, v8] h8) fun v9 h9 =>
   bnd (aD 0 v9 h9) fun v10 h10 =>
   bnd (aD 1 v9 h10) fun v11 h11 =>
   bnd (aN [(.s [])] 1 [(0, 1, v10)] h11) fun v12 h12 =>
   bnd (aW 1 16 x7 v12 h12) fun v13 h13 =>
   bnd (aE .add x35 (.i .i64 (Int.ofNat 1)) h13) fun v14 h14 =>
   kk12 x0 x1 x5 x6 v13 x8 x34 v14 h14) (
   dS rec n kk5 x0 x1 x5 x6 x7 h7)
noncomputable def nI (rec : FuncId → List DV → Hp → aH) (n : Nat) (kk5 : DV → DV → DV → DV → Hp → aH) (m : Nat) : DV → DV → DV → DV → DV → DV → DV → DV → Hp → aH :=
 Nat.rec (motive := fun _ => DV → DV → DV → DV → DV → DV → DV → DV → Hp → aH) (fun _ _ _ _ _ _ _ _ _ => none) (fun _ ih => pR rec n kk5 ih) m
noncomputable def aWd (rec : FuncId → List DV → Hp → aH) (n : Nat) (kk5 : DV → DV → DV → DV → Hp → aH) : DV → DV → DV → DV → DV → DV → DV → DV → Hp → aH := nI rec n kk5 n
noncomputable def aNy (rec : FuncId → List DV → Hp → aH) (n : Nat) (kk5 : DV → DV → DV → DV → Hp → aH) (x0 x1 x5 x6 x7 x8 x34 x35 : DV) (h0 : Hp) : aH :=
 aWd rec n kk5 x0 x1 x5 x6 x7 x8 x34 x35 h0
noncomputable def bFr (rec : FuncId → List DV → Hp → aH) (n : Nat) (kk5 : DV → DV → DV → DV → Hp → aH) (x0 x1 x5 x6 x7 x8 : DV) (h0 : Hp) : aH :=
 bnd (aU x0 h0) fun v39 h39 =>
 bnd (aB 0 v39 h39) fun v40 h40 =>
 bnd (aA v40 h40) fun v41 h41 =>
 bnd (qI [v41, x8] h41) fun v42 h42 =>
 aNy rec n kk5 x0 x1 x5 x6 x7 x8 v42 (.i .i64 (Int.ofNat 0)) h42
noncomputable def bEz (rec : FuncId → List DV → Hp → aH) (n : Nat) (kk5 : DV → DV → DV → DV → Hp → aH) (x0 x1 x5 x6 x7 : DV) (h0 : Hp) : aH :=
 bnd (rec 53 [x0, x1, (.i .i64 (Int.ofNat 3))] h0) fun v47 h47 =>
 bFr rec n kk5 x0 x1 x5 x6 x7 v47 h47
noncomputable def bId (rec : FuncId → List DV → Hp → aH) (n : Nat) (kk5 : DV → DV → DV → DV → Hp → aH) (x0 x1 x5 x6 : DV) (h0 : Hp) : aH :=
 bEz rec n kk5 x0 x1 x5 x6 .l0 h0
noncomputable def aDa (rec : FuncId → List DV → Hp → aH) (n : Nat) (kk5 : DV → DV → DV → DV → Hp → aH) (x0 x1 x5 x6 : DV) (h0 : Hp) : aH :=
  bnd (aE .gtr x6 (.i .i64 (Int.ofNat 0)) h0) fun v49 h49 =>
  bnd (gD v49 true (some (x0, h49)) h49) fun v50 h50 =>
  bnd (gD v49 true (some (x1, h50)) h50) fun v51 h51 =>
  bnd (gD v49 true (rec 109 [v50, v51] h51) h51) fun v52 h52 =>
  bnd (aP v49 v52 (.b false) h52) fun v53 h53 =>
  aT v53 (
   bId rec n kk5 x0 x1 x5 x6 h53) (
   bW rec n x5 h53)
noncomputable def rV (rec : FuncId → List DV → Hp → aH) (n : Nat) (m : Nat) : DV → DV → DV → DV → Hp → aH :=
 Nat.rec (motive := fun _ => DV → DV → DV → DV → Hp → aH) (fun _ _ _ _ _ => none) (fun _ ih => aDa rec n ih) m
noncomputable def bWc (rec : FuncId → List DV → Hp → aH) (n : Nat) : DV → DV → DV → DV → Hp → aH := rV rec n n
noncomputable def bIp (rec : FuncId → List DV → Hp → aH) (n : Nat) (x0 x1 x5 x6 : DV) (h0 : Hp) : aH :=
 bWc rec n x0 x1 x5 x6 h0
noncomputable def bEn (rec : FuncId → List DV → Hp → aH) (n : Nat) (x0 x1 x5 : DV) (h0 : Hp) : aH :=
 bnd (aU x0 h0) fun v59 h59 =>
 bnd (aB 0 v59 h59) fun v60 h60 =>
 bnd (aA v60 h60) fun v61 h61 =>
 bnd (mH [v61] h61) fun v62 h62 =>
 bIp rec n x0 x1 x5 v62 h62
noncomputable def bCo (rec : FuncId → List DV → Hp → aH) (n : Nat) (x0 x1 : DV) (h0 : Hp) : aH :=
 bEn rec n x0 x1 .l0 h0
noncomputable def w55 (rec : FuncId → List DV → Hp → aH) (n : Nat) (x0 x1 : DV) (h0 : Hp) : aH :=
 bCo rec n x0 x1 h0
noncomputable def cJ (rec : FuncId → List DV → Hp → aH) (n : Nat) (c : Code) (X : Nat → K) (k : K) : K := aM CFw rec 59 n c X (aQ CFw Tryz.f55) k
theorem dOm (rec : FuncId → List DV → Hp → aH) (n : Nat) : cJ rec n (cR (cR (cR (cf Tryz.f55)))) x0 (aQ CFw Tryz.f55) = (fun (env : aO) (h : Hp) => bW rec n (env 5) h) :=
 (by kernel_rfl)
theorem dEy (rec : FuncId → List DV → Hp → aH) (n : Nat) (kk5 : DV → DV → DV → DV → Hp → aH) : cJ rec n (cR (cR (cL (cL (cR (cL (cR (cR (cf Tryz.f55))))))))) (xs x0 0 (fun (env : aO) (h : Hp) => bW rec n (env 5) h)) (fun (env : aO) (h : Hp) => kk5 (env 0) (env 1) (env 5) (env 6) h) = (fun (env : aO) (h : Hp) => cN rec n kk5 (env 0) (env 1) (env 5) (env 6) h) :=
 (by kernel_rfl)
theorem cSh (rec : FuncId → List DV → Hp → aH) (n : Nat) (kk5 : DV → DV → DV → DV → Hp → aH) : cJ rec n (cR (cR (cR (cL (cL (cR (cL (cL (cR (cL (cR (cR (cf Tryz.f55))))))))))))) (xs (xs x0 0 (fun (env : aO) (h : Hp) => bW rec n (env 5) h)) 1 (fun (env : aO) (h : Hp) => cN rec n kk5 (env 0) (env 1) (env 5) (env 6) h)) (fun (env : aO) (h : Hp) => cN rec n kk5 (env 0) (env 1) (env 5) (env 6) h) = (fun (env : aO) (h : Hp) => dS rec n kk5 (env 0) (env 1) (env 5) (env 6) (env 7) h) :=
 (by kernel_rfl)
theorem bUc (rec : FuncId → List DV → Hp → aH) (n : Nat) (kk5 : DV → DV → DV → DV → Hp → aH) (kk12 : DV → DV → DV → DV → DV → DV → DV → DV → Hp → aH) (q0 : DV → Hp → aH) (q1 : DV → DV → DV → DV → Hp → aH) (q2 : DV → DV → DV → DV → DV → Hp → aH) : cJ rec n (cL (cL (cR (cL (cR (cR (cL (cL (cR (cL (cL (cR (cL (cR (cR (cf Tryz.f55)))))))))))))))) (xs (xs (xs x0 0 (fun (env : aO) (h : Hp) => q0 (env 5) h)) 1 (fun (env : aO) (h : Hp) => q1 (env 0) (env 1) (env 5) (env 6) h)) 2 (fun (env : aO) (h : Hp) => q2 (env 0) (env 1) (env 5) (env 6) (env 7) h)) (fun (env : aO) (h : Hp) => kk12 (env 0) (env 1) (env 5) (env 6) (env 7) (env 8) (env 34) (env 35) h) = fun (env : aO) (h : Hp) =>
  bnd (aE .lss (env 35) (env 34) h) fun v23 h23 =>
  aT v23 (
   bnd (rec 53 [(env 0), (env 8), (env 35)] h23) fun v24 h24 =>
   bnd (rec 13 [(env 0), v24] h24) fun v25 h25 =>
   bnd (aD 0 v25 h25) fun v26 h26 =>
   bnd (aD 1 v25 h26) fun v27 h27 =>
   bnd (aN [(.s [])] 1 [(0, 1, v26)] h27) fun v28 h28 =>
   bnd (aW 1 16 (env 7) v28 h28) fun v29 h29 =>
   bnd (aE .add (env 35) (.i .i64 (Int.ofNat 1)) h29) fun v30 h30 =>
   kk12 (env 0) (env 1) (env 5) (env 6) v29 (env 8) (env 34) v30 h30) (
   q2 (env 0) (env 1) (env 5) (env 6) (env 7) h23) := by kernel_rfl
theorem bLc (rec : FuncId → List DV → Hp → aH) (n : Nat) (kk5 : DV → DV → DV → DV → Hp → aH) (kk12 : DV → DV → DV → DV → DV → DV → DV → DV → Hp → aH) : (fun (env : aO) (h : Hp) =>
  bnd (aE .lss (env 35) (env 34) h) fun v31 h31 =>
  aT v31 (
   bnd (rec 53 [(env 0), (env 8), (env 35)] h31) fun v32 h32 =>
   bnd (rec 13 [(env 0), v32] h32) fun v33 h33 =>
   bnd (aD 0 v33 h33) fun v34 h34 =>
   bnd (aD 1 v33 h34) fun v35 h35 =>
   bnd (aN [(.s [])] 1 [(0, 1, v34)] h35) fun v36 h36 =>
   bnd (aW 1 16 (env 7) v36 h36) fun v37 h37 =>
   bnd (aE .add (env 35) (.i .i64 (Int.ofNat 1)) h37) fun v38 h38 =>
   kk12 (env 0) (env 1) (env 5) (env 6) v37 (env 8) (env 34) v38 h38) (
   dS rec n kk5 (env 0) (env 1) (env 5) (env 6) (env 7) h31)) = (fun (env : aO) (h : Hp) => pR rec n kk5 kk12 (env 0) (env 1) (env 5) (env 6) (env 7) (env 8) (env 34) (env 35) h) := by kernel_rfl
theorem cCj (rec : FuncId → List DV → Hp → aH) (n : Nat) (kk5 : DV → DV → DV → DV → Hp → aH) (kk12 : DV → DV → DV → DV → DV → DV → DV → DV → Hp → aH) : cJ rec n (cL (cL (cR (cL (cR (cR (cL (cL (cR (cL (cL (cR (cL (cR (cR (cf Tryz.f55)))))))))))))))) (xs (xs (xs x0 0 (fun (env : aO) (h : Hp) => bW rec n (env 5) h)) 1 (fun (env : aO) (h : Hp) => cN rec n kk5 (env 0) (env 1) (env 5) (env 6) h)) 2 (fun (env : aO) (h : Hp) => dS rec n kk5 (env 0) (env 1) (env 5) (env 6) (env 7) h)) (fun (env : aO) (h : Hp) => kk12 (env 0) (env 1) (env 5) (env 6) (env 7) (env 8) (env 34) (env 35) h) = (fun (env : aO) (h : Hp) => pR rec n kk5 kk12 (env 0) (env 1) (env 5) (env 6) (env 7) (env 8) (env 34) (env 35) h) :=
 (bUc rec n kk5 kk12 (bW rec n) (cN rec n kk5) (dS rec n kk5)).trans (bLc rec n kk5 kk12)
theorem cBq (rec : FuncId → List DV → Hp → aH) (n : Nat) (kk5 : DV → DV → DV → DV → Hp → aH) (m : Nat) : aL (fun kk => cJ rec n (cL (cL (cR (cL (cR (cR (cL (cL (cR (cL (cL (cR (cL (cR (cR (cf Tryz.f55)))))))))))))))) (xs (xs (xs x0 0 (fun (env : aO) (h : Hp) => bW rec n (env 5) h)) 1 (fun (env : aO) (h : Hp) => cN rec n kk5 (env 0) (env 1) (env 5) (env 6) h)) 2 (fun (env : aO) (h : Hp) => dS rec n kk5 (env 0) (env 1) (env 5) (env 6) (env 7) h)) kk) m = (fun (env : aO) (h : Hp) => nI rec n kk5 m (env 0) (env 1) (env 5) (env 6) (env 7) (env 8) (env 34) (env 35) h) := by
 induction m with
 | zero => exact (by kernel_rfl : aL (fun kk => cJ rec n (cL (cL (cR (cL (cR (cR (cL (cL (cR (cL (cL (cR (cL (cR (cR (cf Tryz.f55)))))))))))))))) (xs (xs (xs x0 0 (fun (env : aO) (h : Hp) => bW rec n (env 5) h)) 1 (fun (env : aO) (h : Hp) => cN rec n kk5 (env 0) (env 1) (env 5) (env 6) h)) 2 (fun (env : aO) (h : Hp) => dS rec n kk5 (env 0) (env 1) (env 5) (env 6) (env 7) h)) kk) 0 = (fun (env : aO) (h : Hp) => nI rec n kk5 0 (env 0) (env 1) (env 5) (env 6) (env 7) (env 8) (env 34) (env 35) h))
 | succ m ih =>
  refine (by kernel_rfl : aL (fun kk => cJ rec n (cL (cL (cR (cL (cR (cR (cL (cL (cR (cL (cL (cR (cL (cR (cR (cf Tryz.f55)))))))))))))))) (xs (xs (xs x0 0 (fun (env : aO) (h : Hp) => bW rec n (env 5) h)) 1 (fun (env : aO) (h : Hp) => cN rec n kk5 (env 0) (env 1) (env 5) (env 6) h)) 2 (fun (env : aO) (h : Hp) => dS rec n kk5 (env 0) (env 1) (env 5) (env 6) (env 7) h)) kk) (m + 1) = cJ rec n (cL (cL (cR (cL (cR (cR (cL (cL (cR (cL (cL (cR (cL (cR (cR (cf Tryz.f55)))))))))))))))) (xs (xs (xs x0 0 (fun (env : aO) (h : Hp) => bW rec n (env 5) h)) 1 (fun (env : aO) (h : Hp) => cN rec n kk5 (env 0) (env 1) (env 5) (env 6) h)) 2 (fun (env : aO) (h : Hp) => dS rec n kk5 (env 0) (env 1) (env 5) (env 6) (env 7) h)) (aL (fun kk => cJ rec n (cL (cL (cR (cL (cR (cR (cL (cL (cR (cL (cL (cR (cL (cR (cR (cf Tryz.f55)))))))))))))))) (xs (xs (xs x0 0 (fun (env : aO) (h : Hp) => bW rec n (env 5) h)) 1 (fun (env : aO) (h : Hp) => cN rec n kk5 (env 0) (env 1) (env 5) (env 6) h)) 2 (fun (env : aO) (h : Hp) => dS rec n kk5 (env 0) (env 1) (env 5) (env 6) (env 7) h)) kk) m)).trans ?_
  rw [ih]
  exact (cCj rec n kk5 (nI rec n kk5 m)).trans (by kernel_rfl)
theorem cTl (rec : FuncId → List DV → Hp → aH) (n : Nat) (kk5 : DV → DV → DV → DV → Hp → aH) : cJ rec n (cL (cR (cL (cR (cR (cL (cL (cR (cL (cL (cR (cL (cR (cR (cf Tryz.f55))))))))))))))) (xs (xs (xs x0 0 (fun (env : aO) (h : Hp) => bW rec n (env 5) h)) 1 (fun (env : aO) (h : Hp) => cN rec n kk5 (env 0) (env 1) (env 5) (env 6) h)) 2 (fun (env : aO) (h : Hp) => dS rec n kk5 (env 0) (env 1) (env 5) (env 6) (env 7) h)) (fun (env : aO) (h : Hp) => dS rec n kk5 (env 0) (env 1) (env 5) (env 6) (env 7) h) = (fun (env : aO) (h : Hp) => aWd rec n kk5 (env 0) (env 1) (env 5) (env 6) (env 7) (env 8) (env 34) (env 35) h) :=
 (by kernel_rfl : cJ rec n (cL (cR (cL (cR (cR (cL (cL (cR (cL (cL (cR (cL (cR (cR (cf Tryz.f55))))))))))))))) (xs (xs (xs x0 0 (fun (env : aO) (h : Hp) => bW rec n (env 5) h)) 1 (fun (env : aO) (h : Hp) => cN rec n kk5 (env 0) (env 1) (env 5) (env 6) h)) 2 (fun (env : aO) (h : Hp) => dS rec n kk5 (env 0) (env 1) (env 5) (env 6) (env 7) h)) (fun (env : aO) (h : Hp) => dS rec n kk5 (env 0) (env 1) (env 5) (env 6) (env 7) h) = aL (fun kk => cJ rec n (cL (cL (cR (cL (cR (cR (cL (cL (cR (cL (cL (cR (cL (cR (cR (cf Tryz.f55)))))))))))))))) (xs (xs (xs x0 0 (fun (env : aO) (h : Hp) => bW rec n (env 5) h)) 1 (fun (env : aO) (h : Hp) => cN rec n kk5 (env 0) (env 1) (env 5) (env 6) h)) 2 (fun (env : aO) (h : Hp) => dS rec n kk5 (env 0) (env 1) (env 5) (env 6) (env 7) h)) kk) n).trans ((cBq rec n kk5 n).trans (by kernel_rfl))
theorem cTe (rec : FuncId → List DV → Hp → aH) (n : Nat) (kk5 : DV → DV → DV → DV → Hp → aH) : cJ rec n (cR (cL (cR (cR (cL (cL (cR (cL (cL (cR (cL (cR (cR (cf Tryz.f55)))))))))))))) (xs (xs x0 0 (fun (env : aO) (h : Hp) => bW rec n (env 5) h)) 1 (fun (env : aO) (h : Hp) => cN rec n kk5 (env 0) (env 1) (env 5) (env 6) h)) (fun (env : aO) (h : Hp) => dS rec n kk5 (env 0) (env 1) (env 5) (env 6) (env 7) h) = (fun (env : aO) (h : Hp) => aNy rec n kk5 (env 0) (env 1) (env 5) (env 6) (env 7) (env 8) (env 34) (env 35) h) :=
 (by kernel_rfl : cJ rec n (cR (cL (cR (cR (cL (cL (cR (cL (cL (cR (cL (cR (cR (cf Tryz.f55)))))))))))))) (xs (xs x0 0 (fun (env : aO) (h : Hp) => bW rec n (env 5) h)) 1 (fun (env : aO) (h : Hp) => cN rec n kk5 (env 0) (env 1) (env 5) (env 6) h)) (fun (env : aO) (h : Hp) => dS rec n kk5 (env 0) (env 1) (env 5) (env 6) (env 7) h) = cJ rec n (cL (cR (cL (cR (cR (cL (cL (cR (cL (cL (cR (cL (cR (cR (cf Tryz.f55))))))))))))))) (xs (xs (xs x0 0 (fun (env : aO) (h : Hp) => bW rec n (env 5) h)) 1 (fun (env : aO) (h : Hp) => cN rec n kk5 (env 0) (env 1) (env 5) (env 6) h)) 2 (fun (env : aO) (h : Hp) => dS rec n kk5 (env 0) (env 1) (env 5) (env 6) (env 7) h)) (fun (env : aO) (h : Hp) => dS rec n kk5 (env 0) (env 1) (env 5) (env 6) (env 7) h)).trans
 ((cTl rec n kk5).trans (by kernel_rfl))
theorem cRy (rec : FuncId → List DV → Hp → aH) (n : Nat) (kk5 : DV → DV → DV → DV → Hp → aH) : cJ rec n (cR (cR (cL (cL (cR (cL (cL (cR (cL (cR (cR (cf Tryz.f55)))))))))))) (xs (xs x0 0 (fun (env : aO) (h : Hp) => bW rec n (env 5) h)) 1 (fun (env : aO) (h : Hp) => cN rec n kk5 (env 0) (env 1) (env 5) (env 6) h)) (fun (env : aO) (h : Hp) => cN rec n kk5 (env 0) (env 1) (env 5) (env 6) h) = cJ rec n (cL (cR (cR (cL (cL (cR (cL (cL (cR (cL (cR (cR (cf Tryz.f55))))))))))))) (xs (xs x0 0 (fun (env : aO) (h : Hp) => bW rec n (env 5) h)) 1 (fun (env : aO) (h : Hp) => cN rec n kk5 (env 0) (env 1) (env 5) (env 6) h)) (fun (env : aO) (h : Hp) => dS rec n kk5 (env 0) (env 1) (env 5) (env 6) (env 7) h) :=
 congrArg (fun k => cJ rec n (cL (cR (cR (cL (cL (cR (cL (cL (cR (cL (cR (cR (cf Tryz.f55))))))))))))) (xs (xs x0 0 (fun (env : aO) (h : Hp) => bW rec n (env 5) h)) 1 (fun (env : aO) (h : Hp) => cN rec n kk5 (env 0) (env 1) (env 5) (env 6) h)) k) (cSh rec n kk5)
theorem cUf (rec : FuncId → List DV → Hp → aH) (n : Nat) (kk5 : DV → DV → DV → DV → Hp → aH) : cJ rec n (cL (cR (cR (cL (cL (cR (cL (cL (cR (cL (cR (cR (cf Tryz.f55))))))))))))) (xs (xs x0 0 (fun (env : aO) (h : Hp) => bW rec n (env 5) h)) 1 (fun (env : aO) (h : Hp) => cN rec n kk5 (env 0) (env 1) (env 5) (env 6) h)) (fun (env : aO) (h : Hp) => dS rec n kk5 (env 0) (env 1) (env 5) (env 6) (env 7) h) = cJ rec n (cL (cL (cR (cR (cL (cL (cR (cL (cL (cR (cL (cR (cR (cf Tryz.f55)))))))))))))) (xs (xs x0 0 (fun (env : aO) (h : Hp) => bW rec n (env 5) h)) 1 (fun (env : aO) (h : Hp) => cN rec n kk5 (env 0) (env 1) (env 5) (env 6) h)) (fun (env : aO) (h : Hp) => aNy rec n kk5 (env 0) (env 1) (env 5) (env 6) (env 7) (env 8) (env 34) (env 35) h) :=
 congrArg (fun k => cJ rec n (cL (cL (cR (cR (cL (cL (cR (cL (cL (cR (cL (cR (cR (cf Tryz.f55)))))))))))))) (xs (xs x0 0 (fun (env : aO) (h : Hp) => bW rec n (env 5) h)) 1 (fun (env : aO) (h : Hp) => cN rec n kk5 (env 0) (env 1) (env 5) (env 6) h)) k) (cTe rec n kk5)
theorem dNm (rec : FuncId → List DV → Hp → aH) (n : Nat) (kk5 : DV → DV → DV → DV → Hp → aH) : cJ rec n (cR (cR (cL (cL (cR (cL (cL (cR (cL (cR (cR (cf Tryz.f55)))))))))))) (xs (xs x0 0 (fun (env : aO) (h : Hp) => bW rec n (env 5) h)) 1 (fun (env : aO) (h : Hp) => cN rec n kk5 (env 0) (env 1) (env 5) (env 6) h)) (fun (env : aO) (h : Hp) => cN rec n kk5 (env 0) (env 1) (env 5) (env 6) h) = (fun (env : aO) (h : Hp) => bFr rec n kk5 (env 0) (env 1) (env 5) (env 6) (env 7) (env 8) h) :=
 (cRy rec n kk5).trans
 ((cUf rec n kk5).trans
 ((by kernel_rfl)))
theorem dAm (rec : FuncId → List DV → Hp → aH) (n : Nat) (kk5 : DV → DV → DV → DV → Hp → aH) : cJ rec n (cR (cL (cL (cR (cL (cL (cR (cL (cR (cR (cf Tryz.f55))))))))))) (xs (xs x0 0 (fun (env : aO) (h : Hp) => bW rec n (env 5) h)) 1 (fun (env : aO) (h : Hp) => cN rec n kk5 (env 0) (env 1) (env 5) (env 6) h)) (fun (env : aO) (h : Hp) => cN rec n kk5 (env 0) (env 1) (env 5) (env 6) h) = cJ rec n (cL (cR (cL (cL (cR (cL (cL (cR (cL (cR (cR (cf Tryz.f55)))))))))))) (xs (xs x0 0 (fun (env : aO) (h : Hp) => bW rec n (env 5) h)) 1 (fun (env : aO) (h : Hp) => cN rec n kk5 (env 0) (env 1) (env 5) (env 6) h)) (fun (env : aO) (h : Hp) => bFr rec n kk5 (env 0) (env 1) (env 5) (env 6) (env 7) (env 8) h) :=
 congrArg (fun k => cJ rec n (cL (cR (cL (cL (cR (cL (cL (cR (cL (cR (cR (cf Tryz.f55)))))))))))) (xs (xs x0 0 (fun (env : aO) (h : Hp) => bW rec n (env 5) h)) 1 (fun (env : aO) (h : Hp) => cN rec n kk5 (env 0) (env 1) (env 5) (env 6) h)) k) (dNm rec n kk5)
theorem dKr (rec : FuncId → List DV → Hp → aH) (n : Nat) (kk5 : DV → DV → DV → DV → Hp → aH) : cJ rec n (cR (cL (cL (cR (cL (cL (cR (cL (cR (cR (cf Tryz.f55))))))))))) (xs (xs x0 0 (fun (env : aO) (h : Hp) => bW rec n (env 5) h)) 1 (fun (env : aO) (h : Hp) => cN rec n kk5 (env 0) (env 1) (env 5) (env 6) h)) (fun (env : aO) (h : Hp) => cN rec n kk5 (env 0) (env 1) (env 5) (env 6) h) = (fun (env : aO) (h : Hp) => bEz rec n kk5 (env 0) (env 1) (env 5) (env 6) (env 7) h) :=
 (dAm rec n kk5).trans
 ((by kernel_rfl))
theorem cRd (rec : FuncId → List DV → Hp → aH) (n : Nat) (kk5 : DV → DV → DV → DV → Hp → aH) : cJ rec n (cR (cL (cL (cR (cL (cR (cR (cf Tryz.f55)))))))) (xs x0 0 (fun (env : aO) (h : Hp) => bW rec n (env 5) h)) (fun (env : aO) (h : Hp) => kk5 (env 0) (env 1) (env 5) (env 6) h) = cJ rec n (cL (cR (cL (cL (cR (cL (cR (cR (cf Tryz.f55))))))))) (xs x0 0 (fun (env : aO) (h : Hp) => bW rec n (env 5) h)) (fun (env : aO) (h : Hp) => cN rec n kk5 (env 0) (env 1) (env 5) (env 6) h) :=
 congrArg (fun k => cJ rec n (cL (cR (cL (cL (cR (cL (cR (cR (cf Tryz.f55))))))))) (xs x0 0 (fun (env : aO) (h : Hp) => bW rec n (env 5) h)) k) (dEy rec n kk5)
theorem cSx (rec : FuncId → List DV → Hp → aH) (n : Nat) (kk5 : DV → DV → DV → DV → Hp → aH) : cJ rec n (cL (cL (cR (cL (cL (cR (cL (cR (cR (cf Tryz.f55)))))))))) (xs (xs x0 0 (fun (env : aO) (h : Hp) => bW rec n (env 5) h)) 1 (fun (env : aO) (h : Hp) => cN rec n kk5 (env 0) (env 1) (env 5) (env 6) h)) (fun (env : aO) (h : Hp) => cN rec n kk5 (env 0) (env 1) (env 5) (env 6) h) = cJ rec n (cL (cL (cL (cR (cL (cL (cR (cL (cR (cR (cf Tryz.f55))))))))))) (xs (xs x0 0 (fun (env : aO) (h : Hp) => bW rec n (env 5) h)) 1 (fun (env : aO) (h : Hp) => cN rec n kk5 (env 0) (env 1) (env 5) (env 6) h)) (fun (env : aO) (h : Hp) => bEz rec n kk5 (env 0) (env 1) (env 5) (env 6) (env 7) h) :=
 congrArg (fun k => cJ rec n (cL (cL (cL (cR (cL (cL (cR (cL (cR (cR (cf Tryz.f55))))))))))) (xs (xs x0 0 (fun (env : aO) (h : Hp) => bW rec n (env 5) h)) 1 (fun (env : aO) (h : Hp) => cN rec n kk5 (env 0) (env 1) (env 5) (env 6) h)) k) (dKr rec n kk5)
theorem dJm (rec : FuncId → List DV → Hp → aH) (n : Nat) (kk5 : DV → DV → DV → DV → Hp → aH) : cJ rec n (cR (cL (cL (cR (cL (cR (cR (cf Tryz.f55)))))))) (xs x0 0 (fun (env : aO) (h : Hp) => bW rec n (env 5) h)) (fun (env : aO) (h : Hp) => kk5 (env 0) (env 1) (env 5) (env 6) h) = (fun (env : aO) (h : Hp) => bId rec n kk5 (env 0) (env 1) (env 5) (env 6) h) :=
 (cRd rec n kk5).trans
 ((by kernel_rfl : cJ rec n (cL (cR (cL (cL (cR (cL (cR (cR (cf Tryz.f55))))))))) (xs x0 0 (fun (env : aO) (h : Hp) => bW rec n (env 5) h)) (fun (env : aO) (h : Hp) => cN rec n kk5 (env 0) (env 1) (env 5) (env 6) h) = cJ rec n (cL (cL (cR (cL (cL (cR (cL (cR (cR (cf Tryz.f55)))))))))) (xs (xs x0 0 (fun (env : aO) (h : Hp) => bW rec n (env 5) h)) 1 (fun (env : aO) (h : Hp) => cN rec n kk5 (env 0) (env 1) (env 5) (env 6) h)) (fun (env : aO) (h : Hp) => cN rec n kk5 (env 0) (env 1) (env 5) (env 6) h)).trans
 ((cSx rec n kk5).trans
 ((by kernel_rfl))))
theorem dAj (rec : FuncId → List DV → Hp → aH) (n : Nat) (kk5 : DV → DV → DV → DV → Hp → aH) : cJ rec n (cL (cL (cR (cL (cR (cR (cf Tryz.f55))))))) (xs x0 0 (fun (env : aO) (h : Hp) => bW rec n (env 5) h)) (fun (env : aO) (h : Hp) => kk5 (env 0) (env 1) (env 5) (env 6) h) = cJ rec n (cL (cL (cL (cR (cL (cR (cR (cf Tryz.f55)))))))) (xs x0 0 (fun (env : aO) (h : Hp) => bW rec n (env 5) h)) (fun (env : aO) (h : Hp) => bId rec n kk5 (env 0) (env 1) (env 5) (env 6) h) :=
 congrArg (fun k => cJ rec n (cL (cL (cL (cR (cL (cR (cR (cf Tryz.f55)))))))) (xs x0 0 (fun (env : aO) (h : Hp) => bW rec n (env 5) h)) k) (dJm rec n kk5)
theorem dBd (rec : FuncId → List DV → Hp → aH) (n : Nat) (kk5 : DV → DV → DV → DV → Hp → aH) : cJ rec n (cL (cL (cR (cL (cR (cR (cf Tryz.f55))))))) (xs x0 0 (fun (env : aO) (h : Hp) => bW rec n (env 5) h)) (fun (env : aO) (h : Hp) => kk5 (env 0) (env 1) (env 5) (env 6) h) = (fun (env : aO) (h : Hp) => aDa rec n kk5 (env 0) (env 1) (env 5) (env 6) h) :=
 (dAj rec n kk5).trans
 ((by kernel_rfl))
theorem cOk (rec : FuncId → List DV → Hp → aH) (n : Nat) (m : Nat) : aL (fun kk => cJ rec n (cL (cL (cR (cL (cR (cR (cf Tryz.f55))))))) (xs x0 0 (fun (env : aO) (h : Hp) => bW rec n (env 5) h)) kk) m = (fun (env : aO) (h : Hp) => rV rec n m (env 0) (env 1) (env 5) (env 6) h) := by
 induction m with
 | zero => exact (by kernel_rfl : aL (fun kk => cJ rec n (cL (cL (cR (cL (cR (cR (cf Tryz.f55))))))) (xs x0 0 (fun (env : aO) (h : Hp) => bW rec n (env 5) h)) kk) 0 = (fun (env : aO) (h : Hp) => rV rec n 0 (env 0) (env 1) (env 5) (env 6) h))
 | succ m ih =>
  refine (by kernel_rfl : aL (fun kk => cJ rec n (cL (cL (cR (cL (cR (cR (cf Tryz.f55))))))) (xs x0 0 (fun (env : aO) (h : Hp) => bW rec n (env 5) h)) kk) (m + 1) = cJ rec n (cL (cL (cR (cL (cR (cR (cf Tryz.f55))))))) (xs x0 0 (fun (env : aO) (h : Hp) => bW rec n (env 5) h)) (aL (fun kk => cJ rec n (cL (cL (cR (cL (cR (cR (cf Tryz.f55))))))) (xs x0 0 (fun (env : aO) (h : Hp) => bW rec n (env 5) h)) kk) m)).trans ?_
  rw [ih]
  exact (dBd rec n (rV rec n m)).trans (by kernel_rfl)
theorem dNo (rec : FuncId → List DV → Hp → aH) (n : Nat) : cJ rec n (cL (cR (cL (cR (cR (cf Tryz.f55)))))) (xs x0 0 (fun (env : aO) (h : Hp) => bW rec n (env 5) h)) (fun (env : aO) (h : Hp) => bW rec n (env 5) h) = (fun (env : aO) (h : Hp) => bWc rec n (env 0) (env 1) (env 5) (env 6) h) :=
 (by kernel_rfl : cJ rec n (cL (cR (cL (cR (cR (cf Tryz.f55)))))) (xs x0 0 (fun (env : aO) (h : Hp) => bW rec n (env 5) h)) (fun (env : aO) (h : Hp) => bW rec n (env 5) h) = aL (fun kk => cJ rec n (cL (cL (cR (cL (cR (cR (cf Tryz.f55))))))) (xs x0 0 (fun (env : aO) (h : Hp) => bW rec n (env 5) h)) kk) n).trans ((cOk rec n n).trans (by kernel_rfl))
theorem dHn (rec : FuncId → List DV → Hp → aH) (n : Nat) : cJ rec n (cR (cL (cR (cR (cf Tryz.f55))))) x0 (fun (env : aO) (h : Hp) => bW rec n (env 5) h) = (fun (env : aO) (h : Hp) => bIp rec n (env 0) (env 1) (env 5) (env 6) h) :=
 (by kernel_rfl : cJ rec n (cR (cL (cR (cR (cf Tryz.f55))))) x0 (fun (env : aO) (h : Hp) => bW rec n (env 5) h) = cJ rec n (cL (cR (cL (cR (cR (cf Tryz.f55)))))) (xs x0 0 (fun (env : aO) (h : Hp) => bW rec n (env 5) h)) (fun (env : aO) (h : Hp) => bW rec n (env 5) h)).trans
 ((dNo rec n).trans (by kernel_rfl))
theorem cNv (rec : FuncId → List DV → Hp → aH) (n : Nat) : cJ rec n (cR (cR (cf Tryz.f55))) x0 (aQ CFw Tryz.f55) = cJ rec n (cL (cR (cR (cf Tryz.f55)))) x0 (fun (env : aO) (h : Hp) => bW rec n (env 5) h) :=
 congrArg (fun k => cJ rec n (cL (cR (cR (cf Tryz.f55)))) x0 k) (dOm rec n)
theorem cYj (rec : FuncId → List DV → Hp → aH) (n : Nat) : cJ rec n (cL (cR (cR (cf Tryz.f55)))) x0 (fun (env : aO) (h : Hp) => bW rec n (env 5) h) = cJ rec n (cL (cL (cR (cR (cf Tryz.f55))))) x0 (fun (env : aO) (h : Hp) => bIp rec n (env 0) (env 1) (env 5) (env 6) h) :=
 congrArg (fun k => cJ rec n (cL (cL (cR (cR (cf Tryz.f55))))) x0 k) (dHn rec n)
theorem dIc (rec : FuncId → List DV → Hp → aH) (n : Nat) : cJ rec n (cR (cR (cf Tryz.f55))) x0 (aQ CFw Tryz.f55) = (fun (env : aO) (h : Hp) => bEn rec n (env 0) (env 1) (env 5) h) :=
 (cNv rec n).trans
 ((cYj rec n).trans
 ((by kernel_rfl)))
theorem cBs (rec : FuncId → List DV → Hp → aH) (n : Nat) : cJ rec n (cR (cf Tryz.f55)) x0 (aQ CFw Tryz.f55) = cJ rec n (cL (cR (cf Tryz.f55))) x0 (fun (env : aO) (h : Hp) => bEn rec n (env 0) (env 1) (env 5) h) :=
 congrArg (fun k => cJ rec n (cL (cR (cf Tryz.f55))) x0 k) (dIc rec n)
theorem dNw (rec : FuncId → List DV → Hp → aH) (n : Nat) : cJ rec n (cR (cf Tryz.f55)) x0 (aQ CFw Tryz.f55) = (fun (env : aO) (h : Hp) => bCo rec n (env 0) (env 1) h) :=
 (cBs rec n).trans
 ((by kernel_rfl))
theorem dKk (rec : FuncId → List DV → Hp → aH) (n : Nat) : cJ rec n (cf Tryz.f55) x0 (aQ CFw Tryz.f55) = cJ rec n (cL (cf Tryz.f55)) x0 (fun (env : aO) (h : Hp) => bCo rec n (env 0) (env 1) h) :=
 congrArg (fun k => cJ rec n (cL (cf Tryz.f55)) x0 k) (dNw rec n)
theorem eCe (rec : FuncId → List DV → Hp → aH) (n : Nat) : cJ rec n (cf Tryz.f55) x0 (aQ CFw Tryz.f55) = (fun (env : aO) (h : Hp) => w55 rec n (env 0) (env 1) h) :=
 (dKk rec n).trans
 ((by kernel_rfl))
theorem dUw (rec : FuncId → List DV → Hp → aH) (n : Nat) (args : List DV) (h : Hp) : aG CFw rec n 55 args h = w55 rec n (args.getD 0 aX) (args.getD 1 aX) h :=
 (by kernel_rfl : aG CFw rec n 55 args h = cJ rec n (cf Tryz.f55) x0 (aQ CFw Tryz.f55) (aK args) h).trans ((congrFun (congrFun (eCe rec n) (aK args)) h).trans (by kernel_rfl))
noncomputable def eV (rec : FuncId → List DV → Hp → aH) (n : Nat) (x0 x1 x3 : DV) (h0 : Hp) : aH :=
 bnd (rec 53 [x0, x1, (.i .i64 (Int.ofNat 4))] h0) fun v1 h1 =>
 bnd (rec 48 [x0, x3, v1] h1) fun v2 h2 =>
 bnd (aD 0 v2 h2) fun v3 h3 =>
 bnd (aD 1 v2 h3) fun v4 h4 =>
 bnd (aE .neq v4 (.i .i64 (Int.ofNat 0)) h4) fun v5 h5 =>
 aT v5 (
  some (v4, h5)) (
  bnd (aU x0 h5) fun v6 h6 =>
  bnd (aB 0 v6 h6) fun v7 h7 =>
  bnd (aA v7 h7) fun v8 h8 =>
  bnd (aXh [v8, x1, (.i .i64 (Int.ofNat 4)), v3] h8) fun v9 h9 =>
  some (v9, h9))
noncomputable def uZ (rec : FuncId → List DV → Hp → aH) (n : Nat) (kk5 : DV → DV → DV → DV → DV → DV → Hp → aH) (x0 x1 x2 x3 x9 x10 : DV) (h0 : Hp) : aH :=
  bnd (aE .gtr x10 (.i .i64 (Int.ofNat 0)) h0) fun v19 h19 =>
  bnd (gD v19 true (some (x0, h19)) h19) fun v20 h20 =>
  bnd (gD v19 true (aU v20 h20) h20) fun v21 h21 =>
  bnd (gD v19 true (aB 0 v21 h21) h21) fun v22 h22 =>
  bnd (gD v19 true (aA v22 h22) h22) fun v23 h23 =>
  bnd (gD v19 true (some (x9, h23)) h23) fun v24 h24 =>
  bnd (gD v19 true (isG [v23, v24] h24) h24) fun v25 h25 =>
  bnd (aP v19 v25 (.b false) h25) fun v26 h26 =>
  aT v26 (
   bnd (rec 53 [x0, x9, (.i .i64 (Int.ofNat 0))] h26) fun v27 h27 =>
   bnd (rec 53 [x0, v27, (.i .i64 (Int.ofNat 0))] h27) fun v28 h28 =>
   bnd (aE .eql v28 x2 h28) fun v29 h29 =>
   aT v29 (
    bnd (aU x0 h29) fun v30 h30 =>
    bnd (aB 0 v30 h30) fun v31 h31 =>
    bnd (aA v31 h31) fun v32 h32 =>
    bnd (aXh [v32, x9, (.i .i64 (Int.ofNat 0)), x3] h32) fun v33 h33 =>
    some (v33, h33)) (
    bnd (rec 53 [x0, x9, (.i .i64 (Int.ofNat 1))] h29) fun v34 h34 =>
    bnd (aE .sub x10 (.i .i64 (Int.ofNat 1)) h34) fun v35 h35 =>
    kk5 x0 x1 x2 x3 v34 v35 h35)) (
   eV rec n x0 x1 x3 h26)
noncomputable def nD (rec : FuncId → List DV → Hp → aH) (n : Nat) (m : Nat) : DV → DV → DV → DV → DV → DV → Hp → aH :=
 Nat.rec (motive := fun _ => DV → DV → DV → DV → DV → DV → Hp → aH) (fun _ _ _ _ _ _ _ => none) (fun _ ih => uZ rec n ih) m
noncomputable def aSy (rec : FuncId → List DV → Hp → aH) (n : Nat) : DV → DV → DV → DV → DV → DV → Hp → aH := nD rec n n
noncomputable def aGs (rec : FuncId → List DV → Hp → aH) (n : Nat) (x0 x1 x2 x3 x9 x10 : DV) (h0 : Hp) : aH :=
 aSy rec n x0 x1 x2 x3 x9 x10 h0
noncomputable def aOw (rec : FuncId → List DV → Hp → aH) (n : Nat) (x0 x1 x2 x3 x9 : DV) (h0 : Hp) : aH :=
 bnd (aU x0 h0) fun v53 h53 =>
 bnd (aB 0 v53 h53) fun v54 h54 =>
 bnd (aA v54 h54) fun v55 h55 =>
 bnd (mH [v55] h55) fun v56 h56 =>
 aGs rec n x0 x1 x2 x3 x9 v56 h56
noncomputable def aLo (rec : FuncId → List DV → Hp → aH) (n : Nat) (x0 x1 x2 x3 : DV) (h0 : Hp) : aH :=
 bnd (rec 53 [x0, x1, (.i .i64 (Int.ofNat 4))] h0) fun v61 h61 =>
 aOw rec n x0 x1 x2 x3 v61 h61
noncomputable def cXi (rec : FuncId → List DV → Hp → aH) (n : Nat) (x0 x1 x2 x3 : DV) (h0 : Hp) : aH :=
 aLo rec n x0 x1 x2 x3 h0
noncomputable def dW (rec : FuncId → List DV → Hp → aH) (n : Nat) (c : Code) (X : Nat → K) (k : K) : K := aM CFw rec 69 n c X (aQ CFw Tryz.f124) k
theorem cXz (rec : FuncId → List DV → Hp → aH) (n : Nat) : dW rec n (cR (cR (cR (cf Tryz.f124)))) x0 (aQ CFw Tryz.f124) = (fun (env : aO) (h : Hp) => eV rec n (env 0) (env 1) (env 3) h) :=
 (by kernel_rfl)
theorem bOw (rec : FuncId → List DV → Hp → aH) (n : Nat) (kk5 : DV → DV → DV → DV → DV → DV → Hp → aH) : dW rec n (cL (cL (cR (cL (cR (cR (cf Tryz.f124))))))) (xs x0 0 (fun (env : aO) (h : Hp) => eV rec n (env 0) (env 1) (env 3) h)) (fun (env : aO) (h : Hp) => kk5 (env 0) (env 1) (env 2) (env 3) (env 9) (env 10) h) = (fun (env : aO) (h : Hp) => uZ rec n kk5 (env 0) (env 1) (env 2) (env 3) (env 9) (env 10) h) :=
 (by kernel_rfl)
theorem cJf (rec : FuncId → List DV → Hp → aH) (n : Nat) (m : Nat) : aL (fun kk => dW rec n (cL (cL (cR (cL (cR (cR (cf Tryz.f124))))))) (xs x0 0 (fun (env : aO) (h : Hp) => eV rec n (env 0) (env 1) (env 3) h)) kk) m = (fun (env : aO) (h : Hp) => nD rec n m (env 0) (env 1) (env 2) (env 3) (env 9) (env 10) h) := by
 induction m with
 | zero => exact (by kernel_rfl : aL (fun kk => dW rec n (cL (cL (cR (cL (cR (cR (cf Tryz.f124))))))) (xs x0 0 (fun (env : aO) (h : Hp) => eV rec n (env 0) (env 1) (env 3) h)) kk) 0 = (fun (env : aO) (h : Hp) => nD rec n 0 (env 0) (env 1) (env 2) (env 3) (env 9) (env 10) h))
 | succ m ih =>
  refine (by kernel_rfl : aL (fun kk => dW rec n (cL (cL (cR (cL (cR (cR (cf Tryz.f124))))))) (xs x0 0 (fun (env : aO) (h : Hp) => eV rec n (env 0) (env 1) (env 3) h)) kk) (m + 1) = dW rec n (cL (cL (cR (cL (cR (cR (cf Tryz.f124))))))) (xs x0 0 (fun (env : aO) (h : Hp) => eV rec n (env 0) (env 1) (env 3) h)) (aL (fun kk => dW rec n (cL (cL (cR (cL (cR (cR (cf Tryz.f124))))))) (xs x0 0 (fun (env : aO) (h : Hp) => eV rec n (env 0) (env 1) (env 3) h)) kk) m)).trans ?_
  rw [ih]
  exact (bOw rec n (nD rec n m)).trans (by kernel_rfl)
theorem cVx (rec : FuncId → List DV → Hp → aH) (n : Nat) : dW rec n (cL (cR (cL (cR (cR (cf Tryz.f124)))))) (xs x0 0 (fun (env : aO) (h : Hp) => eV rec n (env 0) (env 1) (env 3) h)) (fun (env : aO) (h : Hp) => eV rec n (env 0) (env 1) (env 3) h) = (fun (env : aO) (h : Hp) => aSy rec n (env 0) (env 1) (env 2) (env 3) (env 9) (env 10) h) :=
 (by kernel_rfl : dW rec n (cL (cR (cL (cR (cR (cf Tryz.f124)))))) (xs x0 0 (fun (env : aO) (h : Hp) => eV rec n (env 0) (env 1) (env 3) h)) (fun (env : aO) (h : Hp) => eV rec n (env 0) (env 1) (env 3) h) = aL (fun kk => dW rec n (cL (cL (cR (cL (cR (cR (cf Tryz.f124))))))) (xs x0 0 (fun (env : aO) (h : Hp) => eV rec n (env 0) (env 1) (env 3) h)) kk) n).trans ((cJf rec n n).trans (by kernel_rfl))
theorem cOx (rec : FuncId → List DV → Hp → aH) (n : Nat) : dW rec n (cR (cL (cR (cR (cf Tryz.f124))))) x0 (fun (env : aO) (h : Hp) => eV rec n (env 0) (env 1) (env 3) h) = (fun (env : aO) (h : Hp) => aGs rec n (env 0) (env 1) (env 2) (env 3) (env 9) (env 10) h) :=
 (by kernel_rfl : dW rec n (cR (cL (cR (cR (cf Tryz.f124))))) x0 (fun (env : aO) (h : Hp) => eV rec n (env 0) (env 1) (env 3) h) = dW rec n (cL (cR (cL (cR (cR (cf Tryz.f124)))))) (xs x0 0 (fun (env : aO) (h : Hp) => eV rec n (env 0) (env 1) (env 3) h)) (fun (env : aO) (h : Hp) => eV rec n (env 0) (env 1) (env 3) h)).trans
 ((cVx rec n).trans (by kernel_rfl))
theorem cDw (rec : FuncId → List DV → Hp → aH) (n : Nat) : dW rec n (cR (cR (cf Tryz.f124))) x0 (aQ CFw Tryz.f124) = dW rec n (cL (cR (cR (cf Tryz.f124)))) x0 (fun (env : aO) (h : Hp) => eV rec n (env 0) (env 1) (env 3) h) :=
 congrArg (fun k => dW rec n (cL (cR (cR (cf Tryz.f124)))) x0 k) (cXz rec n)
theorem bUa (rec : FuncId → List DV → Hp → aH) (n : Nat) : dW rec n (cL (cR (cR (cf Tryz.f124)))) x0 (fun (env : aO) (h : Hp) => eV rec n (env 0) (env 1) (env 3) h) = dW rec n (cL (cL (cR (cR (cf Tryz.f124))))) x0 (fun (env : aO) (h : Hp) => aGs rec n (env 0) (env 1) (env 2) (env 3) (env 9) (env 10) h) :=
 congrArg (fun k => dW rec n (cL (cL (cR (cR (cf Tryz.f124))))) x0 k) (cOx rec n)
theorem cUu (rec : FuncId → List DV → Hp → aH) (n : Nat) : dW rec n (cR (cR (cf Tryz.f124))) x0 (aQ CFw Tryz.f124) = (fun (env : aO) (h : Hp) => aOw rec n (env 0) (env 1) (env 2) (env 3) (env 9) h) :=
 (cDw rec n).trans
 ((bUa rec n).trans
 ((by kernel_rfl)))
theorem bOx (rec : FuncId → List DV → Hp → aH) (n : Nat) : dW rec n (cR (cf Tryz.f124)) x0 (aQ CFw Tryz.f124) = dW rec n (cL (cR (cf Tryz.f124))) x0 (fun (env : aO) (h : Hp) => aOw rec n (env 0) (env 1) (env 2) (env 3) (env 9) h) :=
 congrArg (fun k => dW rec n (cL (cR (cf Tryz.f124))) x0 k) (cUu rec n)
theorem dAu (rec : FuncId → List DV → Hp → aH) (n : Nat) : dW rec n (cR (cf Tryz.f124)) x0 (aQ CFw Tryz.f124) = (fun (env : aO) (h : Hp) => aLo rec n (env 0) (env 1) (env 2) (env 3) h) :=
 (bOx rec n).trans
 ((by kernel_rfl))
theorem dLw (rec : FuncId → List DV → Hp → aH) (n : Nat) : dW rec n (cf Tryz.f124) x0 (aQ CFw Tryz.f124) = dW rec n (cL (cf Tryz.f124)) x0 (fun (env : aO) (h : Hp) => aLo rec n (env 0) (env 1) (env 2) (env 3) h) :=
 congrArg (fun k => dW rec n (cL (cf Tryz.f124)) x0 k) (dAu rec n)
theorem dXw (rec : FuncId → List DV → Hp → aH) (n : Nat) : dW rec n (cf Tryz.f124) x0 (aQ CFw Tryz.f124) = (fun (env : aO) (h : Hp) => cXi rec n (env 0) (env 1) (env 2) (env 3) h) :=
 (dLw rec n).trans
 ((by kernel_rfl))
theorem dEw (rec : FuncId → List DV → Hp → aH) (n : Nat) (args : List DV) (h : Hp) : aG CFw rec n 124 args h = cXi rec n (args.getD 0 aX) (args.getD 1 aX) (args.getD 2 aX) (args.getD 3 aX) h :=
 (by kernel_rfl : aG CFw rec n 124 args h = dW rec n (cf Tryz.f124) x0 (aQ CFw Tryz.f124) (aK args) h).trans ((congrFun (congrFun (dXw rec n) (aK args)) h).trans (by kernel_rfl))
end Go.Dd

namespace Go.Dd
open Go.Proofs
noncomputable def shV (n : Nat) : FuncId → List DV → Hp → aH :=
 Nat.rec (motive := fun _ => FuncId → List DV → Hp → aH) (fun _ _ _ => none) (fun m ih => fun f args h => bif Nat.beq f 55 || Nat.beq f 124 then aG CFv ih m f args h else (bif rgB f then iD CF ih m itm f args h else shB ih m f args h)) n
theorem aCe {args : List DV} {h : Hp} {r : DV × Hp} (e : mH args h = some r) : r = (.i .i64 (.ofNat 16384), h) ∧ ∃ (m : Pos) (o : Nat) (rest : List DV) (kd : Kind) (wb : Pos) (ofs n cc : Nat) (l : List DV) (N : Nat), args = .p m o :: rest ∧ h.bl.get m = some (.row kd (.l wb ofs n cc :: l)) ∧ 2 ≤ n ∧ 900 ≤ N ∧ jV args h = some (.i .i64 (.ofNat N), h) := by
 unfold mH at e
 split at e <;> (try (cases e; done))
 rename_i m o rest
 split at e <;> (try (cases e; done))
 rename_i kd wb ofs n cc l h1
 split at e <;> (try (cases e; done))
 rename_i N g h2
 cases hb : Nat.blt 1 n && Nat.ble 900 N with
 | false => rw [hb] at e; cases e
 | true =>
  rw [hb] at e
  simp only [cond_true, bE] at e
  simp only [Bool.and_eq_true, iI, tF, decide_eq_true_eq] at hb
  have hg : g = h := by
   refine nY (k := fun M r => match r with
    | [] => some (.i .i64 (.ofNat M.n), h)
    | _ => none) (fun M r v g e => ?_) h2
   split at e
   ·exact iT e
   ·cases e
  subst hg
  exact ⟨e.symm, m, o, rest, kd, wb, ofs, n, cc, l, N, rfl, h1, by omega, hb.2, h2⟩
theorem aBr {m : Pos} {o : Nat} {rest : List DV} {kd : Kind} {wb : Pos} {ofs n cc : Nat} {l : List DV} {h h2 : Hp} {N : Nat} (h1 : h.bl.get m = some (.row kd (.l wb ofs n cc :: l))) (hn : 2 ≤ n) (hN : 900 ≤ N) (e : jV (.p m o :: rest) h = some (.i .i64 (.ofNat N), h2)) :
  mH (.p m o :: rest) h = some (.i .i64 (.ofNat 16384), h) := by
 unfold mH
 dsimp only
 rw [h1]
 dsimp only
 rw [e]
 dsimp only
 rw [show Nat.blt 1 n = true by rw [iI, decide_eq_true_eq]; omega, show Nat.ble 900 N = true by rw [tF, decide_eq_true_eq]; omega]
 rfl
theorem aBt {m : Pos} {o : Nat} {rest : List DV} {h : Hp} {r : DV × Hp} (e : jV (.p m o :: rest) h = some r) : o = 0 ∧ rest = [] ∧ ∃ M, gU m h = some M ∧ r = (.i .i64 (.ofNat M.n), h) := by
 obtain ⟨m', rest', M, q, hM, e⟩ := dL e
 simp only [List.cons.injEq, DV.p.injEq] at q
 obtain ⟨⟨rfl, rfl⟩, rfl⟩ := q
 split at e
 ·simp only [bE] at e
  exact ⟨rfl, rfl, M, hM, e.symm⟩
 ·cases e
theorem aPq {m : Pos} {h : Hp} {M : MemV} (hM : gU m h = some M) : jV [.p m 0] h = some (.i .i64 (.ofNat M.n), h) := by
 simp only [jV, lT, hM]
theorem bMt {S : Nat} (hS : 16384 ≤ S + 2) (hS2 : S + 2 < 1000000) (args : List DV) : SimP (S + 2) (cHz args) (mH args) := fun h h' Sm v g e => by
 cases vP e with
 | row m o rest kd wb ofs n cc l ha h1 hn e1 =>
  subst ha
  obtain ⟨q1, m', o', rest', kd', wb', ofs', n', cc', l', N, q2, q3, q4, q5, q6⟩ := aCe e1
  simp only [bM] at q1
  obtain ⟨rfl, rfl⟩ := q1
  obtain ⟨g', e2, S2⟩ := nF (by omega) aPs Sm h1 hn _ _ q6
  exact ⟨h', aBr (Sm.row h1) hn q5 e2, Sm⟩
 | hid m o rest t w ha h1 h2 ok e1 =>
  subst ha
  cases hc : jV (.p m o :: rest) (iC m t w h) with
  | none => rw [hc] at e1; cases e1
  | some r =>
   rw [hc] at e1
   simp only [bE, bM] at e1
   obtain ⟨rfl, rfl⟩ := e1
   obtain ⟨rfl, rfl, M, hM, rfl⟩ := aBt hc
   obtain ⟨q1, q2, q3, q4, q5, q6, q7, hm, hp, hd⟩ := zK Sm h1 h2 hS hS2 ok hM
   exact ⟨h', aBr (yB Sm h1) (by omega) (by show 900 ≤ S + 2; omega) (aPq hd), Sm⟩
theorem iY {r : aH} {f g : DV → Hp → aH} (h : ∀ v k, f v k = g v k) : bnd r f = bnd r g := by
 rw [show f = g from funext fun v => funext fun k => h v k]
theorem dCr {c : DV} {a b a' b' : aH} (h1 : a = a') (h2 : b = b') : aT c a b = aT c a' b' := by rw [h1, h2]
theorem aOt {r : aH} {f : DV → Hp → aH} {x : DV × Hp} (e : bnd r f = some x) : ∃ v k, r = some (v, k) ∧ f v k = some x := by
 cases r with
 | none => cases e
 | some p => exact ⟨p.1, p.2, rfl, e⟩
theorem bQu {args : List DV} {h : Hp} {r : DV × Hp} (e : mH args h = some r) : r = (.i .i64 (.ofNat 16384), h) ∧ ∃ N, 900 ≤ N ∧ N < 1000000 ∧ sI args h = some (.i .i64 (.ofNat N), h) := by
 obtain ⟨q1, m, o, rest, kd, wb, ofs, n, cc, l, N, rfl, q3, q4, q5, q6⟩ := aCe e
 obtain ⟨_, _, M, hM, q7⟩ := aBt q6
 simp only [bM, DV.i.injEq, true_and, and_true] at q7
 have q7 := Int.ofNat.inj q7
 exact ⟨q1, N, q5, by rw [q7]; exact (gR hM).2.2.2.1, by
  unfold sI yM
  exact (kZ q3 q4).trans q6⟩
theorem dgt {c : Nat} (h : 0 < c) : decide (Int.ofNat c > Int.ofNat 0) = true := decide_eq_true (by show (0 : Int) < (c : Int); omega)
theorem dAi (c : Nat) (h : Hp) (hc : 0 < c) (hc2 : c < 4611686018427387904) : aE .sub (.i .i64 (Int.ofNat c)) (.i .i64 (Int.ofNat 1)) h = some (.i .i64 (Int.ofNat (c - 1)), h) := by
 have e : (Int.ofNat c - Int.ofNat 1) = Int.ofNat (c - 1) := by show (c : Int) - 1 = ((c - 1 : Nat) : Int); omega
 have := bYr (Int.ofNat c) (Int.ofNat 1) h (by show _ ≤ (c : Int) - 1 ∧ (c : Int) - 1 ≤ _; omega)
 rw [this, e]
section
variable (rec : FuncId → List DV → Hp → aH) (n : Nat)
theorem dWl {kk kk' : DV → DV → DV → DV → Hp → aH} {c c' : DV} (hk : ∀ x0 x1 x5 h, cN rec n kk x0 x1 x5 c h = cO rec n kk' x0 x1 x5 c' h) : ∀ (m : Nat) (x0 x1 x5 x7 x8 x34 x35 : DV) (h : Hp), nI rec n kk m x0 x1 x5 c x7 x8 x34 x35 h = nH rec n kk' m x0 x1 x5 c' x7 x8 x34 x35 h
 | 0, x0, x1, x5, x7, x8, x34, x35, h => rfl
 | m + 1, x0, x1, x5, x7, x8, x34, x35, h => by
  show pR rec n kk (nI rec n kk m) x0 x1 x5 c x7 x8 x34 x35 h = qM rec n kk' (nH rec n kk' m) x0 x1 x5 c' x7 x8 x34 x35 h
  unfold pR qM
  refine iY fun v k => dCr (iY fun v k => iY fun v k => iY fun v k => iY fun v k => iY fun v k => iY fun v k => iY fun v k => dWl hk m _ _ _ _ _ _ _ _) ?_
  unfold dS dU
  exact iY fun v k => iY fun v k => hk _ _ _ _
theorem dXb : ∀ (m c c' : Nat), m ≤ c → m ≤ c' → c < 4611686018427387904 → c' < 4611686018427387904 → ∀ (x0 x1 x5 : DV) (h : Hp), rV rec n m x0 x1 x5 (.i .i64 (Int.ofNat c)) h = qV rec n m x0 x1 x5 (.i .i64 (Int.ofNat c')) h
 | 0, c, c', _, _, _, _, x0, x1, x5, h => rfl
 | m + 1, c, c', h1, h2, h3, h4, x0, x1, x5, h => by
  show aDa rec n (rV rec n m) x0 x1 x5 (.i .i64 (Int.ofNat c)) h = aFv rec n (qV rec n m) x0 x1 x5 (.i .i64 (Int.ofNat c')) h
  unfold aDa aFv
  simp only [lE, bK, dgt (show 0 < c by omega), dgt (show 0 < c' by omega), aBi]
  refine iY fun v k => iY fun v k => dCr ?_ rfl
  unfold bId bEv bEz bGy
  refine iY fun v k => ?_
  unfold bFr bGf
  refine iY fun v k => iY fun v k => iY fun v k => iY fun v k => ?_
  unfold aNy aJz aWd aXi
  refine dWl rec n (fun x0 x1 x5 h => ?_) n _ _ _ _ _ _ _ _
  unfold cN cO
  rw [dAi c h (by omega) h3, dAi c' h (by omega) h4, bK, bK]
  exact dXb m (c - 1) (c' - 1) (by omega) (by omega) (by omega) (by omega) _ _ _ _
theorem dNr (hn : n ≤ 900) {x0 x1 : DV} {h : Hp} {r : DV × Hp} (e : w55 rec n x0 x1 h = some r) : s55 rec n x0 x1 h = some r := by
 unfold w55 bCo bEn at e
 unfold s55 bBy bDg
 obtain ⟨v, k, e1, ea⟩ := aOt e
 obtain ⟨v2, k2, e2, eb⟩ := aOt ea
 obtain ⟨v3, k3, e3, ec⟩ := aOt eb
 obtain ⟨v4, k4, e4, ed⟩ := aOt ec
 obtain ⟨q, N, q1, q2, q3⟩ := bQu e4
 simp only [bM] at q
 obtain ⟨rfl, rfl⟩ := q
 rw [e1, bK, e2, bK, e3, bK, q3, bK]
 have ed := ed
 unfold bIp bWc at ed
 unfold bDp cHf
 rw [← dXb rec n n 16384 N (by omega) (by omega) (by omega) (by omega)]
 exact ed
theorem dDq : ∀ (m c c' : Nat), m ≤ c → m ≤ c' → c < 4611686018427387904 → c' < 4611686018427387904 → ∀ (x0 x1 x2 x3 x9 : DV) (h : Hp), nD rec n m x0 x1 x2 x3 x9 (.i .i64 (Int.ofNat c)) h = nB rec n m x0 x1 x2 x3 x9 (.i .i64 (Int.ofNat c')) h
 | 0, c, c', _, _, _, _, x0, x1, x2, x3, x9, h => rfl
 | m + 1, c, c', h1, h2, h3, h4, x0, x1, x2, x3, x9, h => by
  show uZ rec n (nD rec n m) x0 x1 x2 x3 x9 (.i .i64 (Int.ofNat c)) h = wC rec n (nB rec n m) x0 x1 x2 x3 x9 (.i .i64 (Int.ofNat c')) h
  unfold uZ wC
  simp only [lE, bK, dgt (show 0 < c by omega), dgt (show 0 < c' by omega), aBi]
  refine iY fun v k => iY fun v k => iY fun v k => iY fun v k => iY fun v k => dCr (iY fun v k => iY fun v k => iY fun v k => dCr rfl (iY fun v k => ?_)) rfl
  rw [dAi c _ (by omega) h3, dAi c' _ (by omega) h4, bK, bK]
  exact dDq m (c - 1) (c' - 1) (by omega) (by omega) (by omega) (by omega) _ _ _ _ _ _
theorem cOp (hn : n ≤ 900) {x0 x1 x2 x3 : DV} {h : Hp} {r : DV × Hp} (e : cXi rec n x0 x1 x2 x3 h = some r) : s124 rec n x0 x1 x2 x3 h = some r := by
 unfold cXi aLo at e
 unfold s124 aDk
 obtain ⟨v0, k0, e0, e⟩ := aOt e
 rw [e0, bK]
 unfold aOw at e
 unfold aJf
 obtain ⟨v, k, e1, ea⟩ := aOt e
 obtain ⟨v2, k2, e2, eb⟩ := aOt ea
 obtain ⟨v3, k3, e3, ec⟩ := aOt eb
 obtain ⟨v4, k4, e4, ed⟩ := aOt ec
 obtain ⟨q, N, q1, q2, q3⟩ := bQu e4
 simp only [bM] at q
 obtain ⟨rfl, rfl⟩ := q
 rw [e1, bK, e2, bK, e3, bK, q3, bK]
 have ed := ed
 unfold aGs aSy at ed
 unfold aOh aUs
 rw [← dDq rec n n 16384 N (by omega) (by omega) (by omega) (by omega)]
 exact ed
end
theorem eqW {n : Nat} (hn : n ≤ 900) {f : FuncId} (hf : f = 55 ∨ f = 124) {rec : FuncId → List DV → Hp → aH} {args : List DV} {h : Hp} {r : DV × Hp} (e : aG CFw rec n f args h = some r) : aG CF rec n f args h = some r := by
 rcases hf with rfl | rfl
 ·rw [dUw] at e
  rw [dDs]
  exact dNr rec n hn e
 ·rw [dEw] at e
  rw [bPq]
  exact cOp rec n hn e
theorem dWw {S : Nat} (hS : 16384 ≤ S + 2) (hS2 : S + 2 < 1000000) : ∀ (n : Nat), n ≤ 900 → ∀ (f : FuncId) (args : List DV), SimP (S + 2) (shV n f args) (qO n f args)
 | 0, _, f, args => fun h h' S v k e => by cases e
 | n + 1, hn, f, args => by
  have ok : OkG (S + 2) := .inr ⟨S, rfl, hS, hS2⟩
  have HC : ∀ g args, SimP (S + 2) (bU CF (shV n) g args) (bU CF (qO n) g args) := fun g args => by
   unfold bU
   cases hg : CF.I g with
   | none => exact dWw hS hS2 n (by omega) g args
   | some F => exact dDm ok g F hg args
  have HCw : ∀ g args, SimP (S + 2) (bU CFv (shV n) g args) (bU CFw (qO n) g args) := fun g args => by
   unfold bU
   show SimP (S + 2) (fun h => match (bif Nat.beq g 22 then some cHz else CF.I g) with
    | some F => F args h
    | none => shV n g args h) (fun h => match (bif Nat.beq g 22 then some mH else CF.I g) with
    | some F => F args h
    | none => qO n g args h)
   cases h22 : Nat.beq g 22 with
   | true => exact bMt hS hS2 args
   | false =>
    simp only [cond_false]
    exact HC g args
  intro h h' Sm v k e
  change (bif Nat.beq f 55 || Nat.beq f 124 then aG CFv (shV n) n f args h else (bif rgB f then iD CF (shV n) n itm f args h else shB (shV n) n f args h)) = some (v, k) at e
  show ∃ h'', (bif rgB f then iD CF (qO n) n itm f args h' else shB (qO n) n f args h') = some (v, h'') ∧ _
  cases hv : Nat.beq f 55 || Nat.beq f 124 with
  | true =>
   rw [hv, cond_true] at e
   have hf : f = 55 ∨ f = 124 := by
    simp only [Bool.or_eq_true] at hv
    exact hv.imp Nat.eq_of_beq_eq_true Nat.eq_of_beq_eq_true
   obtain ⟨k', e1, S1⟩ := kK (P := Tryz.prog) (I2 := CFv.I) (I1 := CFw.I) HCw n 0 f args h h' Sm v k e
   have e2 := eqW (by omega) hf e1
   have hr : rgB f = false := by rcases hf with rfl | rfl <;> rfl
   rw [hr, cond_false, zJ]
   exact ⟨k', e2, S1⟩
  | false =>
   rw [hv, cond_false] at e
   cases hr : rgB f with
   | true =>
    rw [hr, cond_true] at e
    rw [cond_true]
    exact aBs (P := Tryz.prog) (I2 := CF.I) (I1 := CF.I) HC n 0 itm f args h h' Sm v k e
   | false =>
    rw [hr, cond_false, zJ] at e
    rw [cond_false, zJ]
    exact kK (P := Tryz.prog) (I2 := CF.I) (I1 := CF.I) HC n 0 f args h h' Sm v k e
end Go.Dd

namespace Go.Dd
noncomputable section
def gA (fin made ns : Nat) (roots : List Nat) (pt : List (Nat × Nat)) (k : Nat) : List (Pos × Ob) :=
 (bH 7, .row .ex [.p (bH 3) 0, .l (bH 4) 0 18 18, .m (bH 5), .m (bH 6)]) ::
 (bH 6, .mp (bJp clF)) :: (bH 5, .mp (bJp (bTp syF ns))) :: (bH 4, .row .ex (dPd roots)) ::
 (bH 3, .big 0 ((WT.e.set 0 (.ofNat fin)).set 1 (.ofNat made))) ::
 (bH 2, .mi (mkP (tB plF made) .e)) :: (bH 1, .big 1 (aEd pt (mkW (tB wsF fin) 0 .e))) ::
 (bH 431, .row .ex (dOk bJn 356)) :: bWk (cKu bJn k) (Nat.add 356 k)
def itV (n : Nat) (K : DV → DV → DV → DV → Hp → aH) : DV → DV → DV → DV → Hp → aH :=
 Nat.rec (motive := fun _ => DV → DV → DV → DV → Hp → aH) K (fun _ ih => hZ (shV 899) 899 ih) n
def nK (k n : Nat) (h : Hp) : aH := itV n nO (.p (bH 7) 0) (.l (bH 431) 0 75 75) (.i .i64 (.ofNat 75)) (.i .i64 (.ofNat k)) h
def cAh : Code := .seq (cL pN3) (.seq (cL pN4) (.seq (cL pN5) (cL (cL pN6))))
def aVj : aO := fun t => bif Nat.beq t 4 then .p (bH 3) 0 else .u
def HB0 : List (Pos × Ob) := [(bH 3, .big 0 ((WT.e.set 0 (.ofNat 3)).set 1 (.ofNat 0))), (bH 2, .mi .e), (bH 1, .big 1 .e)]
def cUn : aH := aM CF (shV 899) 179 899 cAh (fun _ _ _ => none) (fun _ _ => none) cXn aVj (eH 4 HB0)
end
end Go.Dd

