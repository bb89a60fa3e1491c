/- A part of the proof: HD HE OC T0 TL TM TN TP TQ TR HF HG HI W1 W2 W3 W4 W5 LT0 LT1 LT2 LT3 RH R12 NJ W6 W7 W8 TX1 TX2 GI TX3 TX4: each text has a comment of its own. -/
import Derived.Test.YtkdndgecldkiiaaGreatPh4
import Derived.Test.YtkdndgecldkiiaaGreatPh5
import Derived.Test.YtkdndgecldkiiaaGreatPh6
import Derived.Test.YtkdndgecldkiiaaGreatPh7
import Derived.Lib.Bytealg
set_option linter.unusedVariables false
set_option linter.unusedSimpArgs false
set_option linter.constructorNameAsVariable false
set_option maxRecDepth 100000
namespace Go.Dd
theorem mL : ∀ p q : Pos, nC p q = true → p = q
 | .h, .h, _ => rfl
 | .h, .o q, h => by cases h
 | .h, .i q, h => by cases h
 | .o p, .h, h => by cases h
 | .o p, .o q, h => by rw [mL p q h]
 | .o p, .i q, h => by cases h
 | .i p, .h, h => by cases h
 | .i p, .o q, h => by cases h
 | .i p, .i q, h => by rw [mL p q h]
theorem oA (x y : Int) (h : fS x y = true) : x = y := by
 cases x <;> cases y <;> simp only [fS] at h
 ·rw [Nat.eq_of_beq_eq_true h]
 ·cases h
 ·cases h
 ·rw [Nat.eq_of_beq_eq_true h]
theorem aEg : ∀ t u : WT, wtE t u = true → t = u
 | .e, .e, _ => rfl
 | .e, .n _ _ _, h => by cases h
 | .n _ _ _, .e, h => by cases h
 | .n l v r, .n l' v' r', h => by
  have h' : (fS v v' && (wtE l l' && wtE r r')) = true := h
  simp only [Bool.and_eq_true] at h'
  rw [oA _ _ h'.1, aEg _ _ h'.2.1, aEg _ _ h'.2.2]
theorem aUp (x y : DV) (h : dvE x y = true) : x = y := by
 unfold dvE at h
 split at h <;> (try (cases h; done)) <;> (try rfl)
 ·rw [oA _ _ h]
 ·rw [(pY _ _).1 h]
 ·simp only [Bool.and_eq_true] at h
  rw [mL _ _ h.1, Nat.eq_of_beq_eq_true h.2]
 ·simp only [Bool.and_eq_true] at h
  rw [mL _ _ h.1, Nat.eq_of_beq_eq_true h.2.1, Nat.eq_of_beq_eq_true h.2.2.1, Nat.eq_of_beq_eq_true h.2.2.2]
 ·rw [mL _ _ h]
 ·simp at h; rw [h]
theorem aPp : ∀ l m : List DV, cWd l m = true → l = m
 | [], [], _ => rfl
 | [], _ :: _, h => by cases h
 | _ :: _, [], h => by cases h
 | x :: l, y :: m, h => by
  have h' : (dvE x y && cWd l m) = true := h
  simp only [Bool.and_eq_true] at h'
  rw [aUp _ _ h'.1, aPp _ _ h'.2]
theorem bEc : ∀ l m : List (DV × DV), dJv l m = true → l = m
 | [], [], _ => rfl
 | [], _ :: _, h => by cases h
 | _ :: _, [], h => by cases h
 | x :: l, y :: m, h => by
  have h' : (dvE x.1 y.1 && (dvE x.2 y.2 && dJv l m)) = true := h
  simp only [Bool.and_eq_true] at h'
  rw [bEc _ _ h'.2.2]
  congr 1
  exact Prod.ext (aUp _ _ h'.1) (aUp _ _ h'.2.1)
theorem dTb (o p : Ob) (h : obE o p = true) : o = p := by
 unfold obE at h
 split at h <;> (try (cases h; done))
 ·rw [aPp _ _ h]
 ·rw [bEc _ _ h]
 ·simp only [Bool.and_eq_true] at h
  rw [Nat.eq_of_beq_eq_true h.1, aEg _ _ h.2]
 ·rw [aEg _ _ h]
theorem aSu (t : Tr Ob) : ∀ l : List (Pos × Ob), cKq t l = true → ∀ x ∈ l, t.get x.1 = some x.2
 | [], _, x, hx => by cases hx
 | y :: l, h, x, hx => by
  have h' : ((match t.get y.1 with
   | some o => obE o y.2
   | none => false) && cKq t l) = true := h
  simp only [Bool.and_eq_true] at h'
  rcases List.mem_cons.1 hx with rfl | hx
  ·have h1 := h'.1
   split at h1
   ·rename_i o ho
    rw [ho, dTb _ _ h1]
   ·cases h1
  ·exact aSu t l h'.2 x hx
theorem aQw : ∀ (l : List (Pos × Ob)) (b : Pos) (o : Ob), (dWd l).get b = some o → (b, o) ∈ l
 | [], b, o, h => by cases b <;> cases h
 | y :: l, b, o, h => by
  have h' : (Tr.set y.2 y.1 (dWd l)).get b = some o := h
  by_cases e : b = y.1
  ·subst e
   rw [eMi] at h'
   simp only [bH] at h'
   rw [← h']
   exact List.mem_cons_self
  ·rw [eMh _ _ _ _ e] at h'
   exact List.mem_cons_of_mem _ (aQw l b o h')
theorem lG (o : Ob) : xR true o o := by cases o <;> simp [xR]
theorem Sim.refl (h : Hp) : Sim true h h := ⟨rfl, fun b o hb => ⟨o, hb, lG o⟩⟩
theorem kM {o o' : Ob} (h : xR true o o') : o' = o := by cases o <;> simpa [xR] using h
theorem Sim.trans {a b c : Hp} (h : Sim true a b) (k : Sim true b c) : Sim true a c := ⟨k.next.trans h.next, fun p o hp => by
 obtain ⟨o', h1, h2⟩ := h.get p o hp
 rw [kM h2] at h1
 exact k.get p o h1⟩
theorem bHk {r : aK} {vs : List DV} {nx : Nat} {l : List (Pos × Ob)} (h : mK r vs nx l = true) : ∃ g, r = some (.t vs, g) ∧ Sim true (jD nx l) g := by
 unfold mK at h
 split at h <;> (try (cases h; done))
 rename_i us g
 simp only [Bool.and_eq_true] at h
 refine ⟨g, by rw [aPp _ _ h.1], ?_, fun b o hb => ⟨o, ?_, lG o⟩⟩
 ·exact mL _ _ h.2.1
 ·exact aSu _ _ h.2.2 (b, o) (aQw _ _ _ hb)
end Go.Dd

namespace Go.Dd
open Go.Proofs
noncomputable section
def pN0 : Code := cf Tryz.f7
def pN1 : Code := cR pN0
def pN2 : Code := cR pN1
def pN3 : Code := cR pN2
def pN4 : Code := cR pN3
def pN5 : Code := cR pN4
def pN6 : Code := cR pN5
def cWi : Code := .seq (cL pN0) (.seq (cL pN1) (.seq (cL pN2) (.seq (cL pN3) (.seq (cL pN4) (.seq (cL pN5) (cL (cL pN6)))))))
def bUw : Code := cR (cL pN6)
def eGr : Code := cR pN6
def hS : Hp := ⟨bD 1, .e⟩
def dYj : K := fun e h => some (.t [e 5, e 155, e 156, e 157], h)
def dVi (n : Nat) : aK := aM CF (fW 899) 179 899 cWi (fun _ _ _ => none) (fun _ _ => none) dYj (aI [.i .i64 (.ofNat n)]) hS
end
theorem he0 : mK (dVi 20000) (lF 0) 432 (nW 20000 553 84 18 [1076, 1096, 6, 24, 42, 60, 78, 96, 114, 132, 150, 168, 186, 204, 222, 240, 258, 276] [(10, 0), (19, 0), (46, 0), (55, 0), (64, 0), (91, 0), (100, 0), (109, 0), (118, 0), (127, 0), (145, 0)] 0) = true := by kernel_rfl
end Go.Dd

namespace Go.Dd
inductive Out where
 | n (e : bB) (h : Hp)
 | x (i : Nat) (e : bB) (h : Hp)
 | r (e : bB) (h : Hp)
def eNh (o : Option Out) (X : Nat → K) (kr k : K) : aK :=
 match o with
 | none => none
 | some (.n e h) => k e h
 | some (.x i e h) => X i e h
 | some (.r e h) => kr e h
section
variable {C : Cfg} {rec : FuncId → List DV → Hp → aK} {nt : Nat}
theorem bEb (all : Array Oper) : ∀ l : List Oper, ∃ O : bB → Hp → Option (bB × Hp), ∀ k env h, gU C rec nt all l k env h = match O env h with
  | none => none
  | some (e, h) => k e h
 | [] => ⟨fun e h => some (e, h), fun k env h => rfl⟩
 | o :: l => by
  obtain ⟨O, hO⟩ := bEb all l
  refine ⟨fun env h => bif dH nt o.dst then (match bK C rec all o env h with
   | some (v, h') => O (bM env o.dst v) h'
   | none => none) else none, fun k env h => ?_⟩
  change cnd (dH nt o.dst) (bnd (bK C rec all o env h) fun v h' => gU C rec nt all l k (bM env o.dst v) h') = _
  cases dH nt o.dst with
  | false => rfl
  | true =>
   simp only [cond_true]
   cases hs : bK C rec all o env h with
   | none => rfl
   | some p => exact hO k _ _
theorem aSk (all : Array Oper) (m : Array Nat) (p0 : Pos) : ∀ (l : List Oper) (i c : Nat) (dirty : Bool) (rd : List Seen) (hs : List (Option Nat × Hp)), ∃ O : bB → Hp → Option (bB × Hp),
  ∀ k env h, eS C rec nt all m p0 l k i c dirty rd hs env h = match O env h with
   | none => none
   | some (e, h) => k e h
 | [], i, c, dirty, rd, hs => ⟨fun e h => some (e, h), fun k env h => rfl⟩
 | o :: l, i, c, dirty, rd, hs => by
  have ih := aSk all m p0 l
  cases hc : bS C.P o.op with
  | pure =>
   obtain ⟨O, hO⟩ := ih (i + 1) c dirty rd hs
   refine ⟨fun env h => bif dH nt o.dst then (match bK C rec all o env h with
    | some (v, h') => O (bM env o.dst v) h'
    | none => none) else none, fun k env h => ?_⟩
   have e : eS C rec nt all m p0 (o :: l) k i c dirty rd hs env h = cnd (dH nt o.dst) (bnd (bK C rec all o env h) fun v h' => eS C rec nt all m p0 l k (i + 1) c dirty rd hs (bM env o.dst v) h') := by
    change cnd (dH nt o.dst) (match bS C.P o.op with | .pure => _ | .reads => _ | .makes => _ | .acts => _) = _
    rw [hc]
    rfl
   rw [e]
   cases dH nt o.dst with
   | false => rfl
   | true =>
    simp only [cond_true]
    cases hs : bK C rec all o env h with
    | none => rfl
    | some p => exact hO k _ _
  | reads =>
   have hex : ∀ (env : bB) (v : DV), ∃ O : bB → Hp → Option (bB × Hp), ∀ k e h, eS C rec nt all m p0 l k (i + 1) c dirty (⟨i, bK C rec all o env, v⟩ :: rd) hs e h = match O e h with
    | none => none
    | some (e, h) => k e h := fun env v => ih (i + 1) c dirty (⟨i, bK C rec all o env, v⟩ :: rd) hs
   refine ⟨fun env h => bif dH nt o.dst then (match bK C rec all o env h with
    | some (v, h') => bif eU m i v (bK C rec all o env) dirty hs then (hex env v).choose (bM env o.dst v) h' else none
    | none => none) else none, fun k env h => ?_⟩
   have e : eS C rec nt all m p0 (o :: l) k i c dirty rd hs env h = cnd (dH nt o.dst) (bnd (bK C rec all o env h) fun v h' =>
     cnd (eU m i v (bK C rec all o env) dirty hs) (eS C rec nt all m p0 l k (i + 1) c dirty (⟨i, bK C rec all o env, v⟩ :: rd) hs (bM env o.dst v) h')) := by
    change cnd (dH nt o.dst) (match bS C.P o.op with | .pure => _ | .reads => _ | .makes => _ | .acts => _) = _
    rw [hc]
    rfl
   rw [e]
   cases dH nt o.dst with
   | false => rfl
   | true =>
    simp only [cond_true]
    cases hs2 : bK C rec all o env h with
    | none => rfl
    | some p =>
     obtain ⟨v, h'⟩ := p
     show cnd (eU m i v (bK C rec all o env) dirty hs) _ = _
     cases hcc : eU m i v (bK C rec all o env) dirty hs with
     | false => simp only [hcc, cond_false]
     | true => simp only [hcc, cond_true]; exact (hex env v).choose_spec k _ _
  | makes =>
   obtain ⟨O, hO⟩ := ih (i + 1) (c + 1) true rd hs
   refine ⟨fun env h => bif dH nt o.dst then (match eB C o (bF c p0) env h with
    | some (v, h') => O (bM env o.dst v) h'
    | none => none) else none, fun k env h => ?_⟩
   have e : eS C rec nt all m p0 (o :: l) k i c dirty rd hs env h = cnd (dH nt o.dst) (bnd (eB C o (bF c p0) env h) fun v h' => eS C rec nt all m p0 l k (i + 1) (c + 1) true rd hs (bM env o.dst v) h') := by
    change cnd (dH nt o.dst) (match bS C.P o.op with | .pure => _ | .reads => _ | .makes => _ | .acts => _) = _
    rw [hc]
    rfl
   rw [e]
   cases dH nt o.dst with
   | false => rfl
   | true =>
    simp only [cond_true]
    cases hs : eB C o (bF c p0) env h with
    | none => rfl
    | some p => exact hO k _ _
  | acts =>
   have hex : ∀ h' : Hp, ∃ O : bB → Hp → Option (bB × Hp), ∀ k e h, eS C rec nt all m p0 l k (i + 1) c false rd ((some i, h') :: hs) e h = match O e h with
    | none => none
    | some (e, h) => k e h := fun h' => ih (i + 1) c false rd ((some i, h') :: hs)
   refine ⟨fun env h => bif dH nt o.dst then (match bK C rec all o env h with
    | some (v, h') => bif rd.all (fun q => gY m q.at_ i || aX (q.look h') q.v) then (hex h').choose (bM env o.dst v) h' else none
    | none => none) else none, fun k env h => ?_⟩
   have e : eS C rec nt all m p0 (o :: l) k i c dirty rd hs env h = cnd (dH nt o.dst) (bnd (bK C rec all o env h) fun v h' =>
     cnd (rd.all (fun q => gY m q.at_ i || aX (q.look h') q.v)) (eS C rec nt all m p0 l k (i + 1) c false rd ((some i, h') :: hs) (bM env o.dst v) h')) := by
    change cnd (dH nt o.dst) (match bS C.P o.op with | .pure => _ | .reads => _ | .makes => _ | .acts => _) = _
    rw [hc]
    rfl
   rw [e]
   cases dH nt o.dst with
   | false => rfl
   | true =>
    simp only [cond_true]
    cases hs2 : bK C rec all o env h with
    | none => rfl
    | some p =>
     obtain ⟨v, h'⟩ := p
     show cnd (rd.all (fun q => gY m q.at_ i || aX (q.look h') q.v)) _ = _
     cases hcc : rd.all (fun q => gY m q.at_ i || aX (q.look h') q.v) with
     | false => simp only [hcc, cond_false]
     | true => simp only [hcc, cond_true]; exact (hex h').choose_spec k _ _
theorem aSl (n : Nat) : ∀ c : Code, ∃ O : bB → Hp → Option Out, ∀ X kr k env h, aM C rec nt n c X kr k env h = eNh (O env h) X kr k := by
 have hfail : ∃ O : bB → Hp → Option Out, ∀ (X : Nat → K) (kr k : K) (env : bB) (h : Hp), bZ env h = eNh (O env h) X kr k := ⟨fun _ _ => none, fun X kr k env h => rfl⟩
 intro c
 induction c with
 | skip => exact ⟨fun e h => some (.n e h), fun X kr k env h => rfl⟩
 | region id ops dr =>
  cases dr with
  | false =>
   obtain ⟨O, hO⟩ := bEb (C := C) (rec := rec) (nt := nt) ops ops.toList
   refine ⟨fun env h => (O env h).map fun p => .n p.1 p.2, fun X kr k env h => ?_⟩
   show gU C rec nt ops ops.toList k env h = _
   rw [hO]
   dsimp only
   cases hh : O env h <;> rfl
  | true =>
   cases hd : eW C.P ops with
   | false =>
    refine ⟨fun _ _ => none, fun X kr k env h => ?_⟩
    show (Bool.rec (motive := fun _ => K) bZ (iO C rec nt ops k) (eW C.P ops)) env h = _
    rw [hd]; rfl
   | true =>
    have hex : ∀ h : Hp, _ := fun h => aSk (C := C) (rec := rec) (nt := nt) ops (Region.before ops) h.next ops.toList 0 0 false [] [(none, resv (cD C.P ops.toList) h)]
    refine ⟨fun env h => ((hex h).choose env (resv (cD C.P ops.toList) h)).map fun p => .n p.1 p.2, fun X kr k env h => ?_⟩
    have e : aM C rec nt n (.region id ops true) X kr k env h = iO C rec nt ops k env h := by
     show (Bool.rec (motive := fun _ => K) bZ (iO C rec nt ops k) (eW C.P ops)) env h = _
     rw [hd]
    rw [e]
    unfold iO
    rw [(hex h).choose_spec k env _]
    dsimp only
    cases hh : (hex h).choose env (resv (cD C.P ops.toList) h) <;> rfl
 | seq x y ihx ihy =>
  obtain ⟨O1, h1⟩ := ihx
  obtain ⟨O2, h2⟩ := ihy
  refine ⟨fun env h => match O1 env h with
   | some (.n e h) => O2 e h
   | o => o, fun X kr k env h => ?_⟩
  show aM C rec nt n x X kr (aM C rec nt n y X kr k) env h = _
  rw [h1]
  dsimp only
  cases ho : O1 env h with
  | none => rfl
  | some o =>
   cases o with
   | n e h' => exact h2 X kr k e h'
   | x i e h' => rfl
   | r e h' => rfl
 | cond c x y ihx ihy =>
  obtain ⟨O1, h1⟩ := ihx
  obtain ⟨O2, h2⟩ := ihy
  refine ⟨fun env h => match opr env c with
   | .b true => O1 env h
   | .b false => O2 env h
   | _ => none, fun X kr k env h => ?_⟩
  show aU (opr env c) (aM C rec nt n x X kr k env h) (aM C rec nt n y X kr k env h) = _
  rw [h1, h2]
  unfold aU
  dsimp only
  cases opr env c <;> try rfl
  rename_i b
  cases b <;> rfl
 | block id x ih =>
  obtain ⟨O1, h1⟩ := ih
  refine ⟨fun env h => match O1 env h with
   | some (.x i e h') => bif Nat.beq i id then some (.n e h') else some (.x i e h')
   | o => o, fun X kr k env h => ?_⟩
  show aM C rec nt n x (fun j => bif Nat.beq j id then k else X j) kr k env h = _
  rw [h1]
  dsimp only
  cases ho : O1 env h with
  | none => rfl
  | some o =>
   cases o with
   | n e h' => rfl
   | r e h' => rfl
   | x i e h' =>
    simp only [eNh]
    cases hb : Nat.beq i id with
    | true => rfl
    | false => rfl
 | loop x ih =>
  obtain ⟨O1, h1⟩ := ih
  have key : ∀ m : Nat, ∃ O : bB → Hp → Option Out, ∀ (X : Nat → K) (kr k : K) env h, aL (fun kk => aM C rec nt n x X kr kk) m env h = eNh (O env h) X kr k := by
   intro m
   induction m with
   | zero => exact ⟨fun _ _ => none, fun X kr k env h => rfl⟩
   | succ m ihm =>
    obtain ⟨O2, h2⟩ := ihm
    refine ⟨fun env h => match O1 env h with
     | some (.n e h) => O2 e h
     | o => o, fun X kr k env h => ?_⟩
    show aM C rec nt n x X kr (aL (fun kk => aM C rec nt n x X kr kk) m) env h = _
    rw [h1]
    dsimp only
    cases ho : O1 env h with
    | none => rfl
    | some o =>
     cases o with
     | n e h' => exact h2 X kr k e h'
     | x i e h' => rfl
     | r e h' => rfl
  exact key n
 | rangeFunc f ps x y ihx ihy => exact hfail
 | exit id => exact ⟨fun e h => some (.x id e h), fun X kr k env h => rfl⟩
 | scope x ih => exact ih
 | label l => exact ⟨fun e h => some (.n e h), fun X kr k env h => rfl⟩
 | goto l => exact hfail
 | ret => exact ⟨fun e h => some (.r e h), fun X kr k env h => rfl⟩
 | refuse why => exact hfail
end
end Go.Dd

namespace Go.Dd
open Go.Proofs
noncomputable def t20 (rec : FuncId → List DV → Hp → aK) (n : Nat) (x0 x1 : DV) (h0 : Hp) : aK :=
 bnd (aF .eql x1 (.i .i64 (Int.ofNat 0)) h0) fun v1 h1 =>
 bnd (gD v1 false (some (x1, h1)) h1) fun v2 h2 =>
 bnd (gD v1 false (aF .eql v2 (.i .i64 (Int.ofNat 2)) h2) h2) fun v3 h3 =>
 bnd (aP v1 (.b true) v3 h3) fun v4 h4 =>
 bnd (gD v4 false (some (x1, h4)) h4) fun v5 h5 =>
 bnd (gD v4 false (aF .eql v5 (.i .i64 (Int.ofNat 4)) h5) h5) fun v6 h6 =>
 bnd (aP v4 (.b true) v6 h6) fun v7 h7 =>
 bnd (gD v7 false (some (x1, h7)) h7) fun v8 h8 =>
 bnd (gD v7 false (rec 45 [v8] h8) h8) fun v9 h9 =>
 bnd (aP v7 (.b true) v9 h9) fun v10 h10 =>
 bnd (gD v10 false (some (x0, h10)) h10) fun v11 h11 =>
 bnd (gD v10 false (some (x1, h11)) h11) fun v12 h12 =>
 bnd (gD v10 false (rec 46 [v11, v12] h12) h12) fun v13 h13 =>
 bnd (aP v10 (.b true) v13 h13) fun v14 h14 =>
 some (v14, h14)
noncomputable def E20 (rec : FuncId → List DV → Hp → aK) (n : Nat) (c : Code) (X : Nat → K) (k : K) : K := aM CF1 rec 24 n c X (aR CF1 Tryz.f18) k
theorem eKf (rec : FuncId → List DV → Hp → aK) (n : Nat) : E20 rec n (cf Tryz.f18) x0 (aR CF1 Tryz.f18) = (fun (env : bB) (h : Hp) => t20 rec n (env 0) (env 1) h) :=
 (by kernel_rfl)
theorem eCz (rec : FuncId → List DV → Hp → aK) (n : Nat) (args : List DV) (h : Hp) : aE CF1 rec n 18 args h = t20 rec n (args.getD 0 aT) (args.getD 1 aT) h :=
 (by kernel_rfl : aE CF1 rec n 18 args h = E20 rec n (cf Tryz.f18) x0 (aR CF1 Tryz.f18) (aI args) h).trans ((congrFun (congrFun (eKf rec n) (aI args)) h).trans (by kernel_rfl))
noncomputable def t21 (rec : FuncId → List DV → Hp → aK) (n : Nat) (x0 x1 : DV) (h0 : Hp) : aK :=
 bnd (rec 98 [x1] h0) fun v1 h1 =>
 bnd (gD v1 true (some (x0, h1)) h1) fun v2 h2 =>
 bnd (gD v1 true (aQ v2 h2) h2) fun v3 h3 =>
 bnd (gD v1 true (aB 3 v3 h3) h3) fun v4 h4 =>
 bnd (gD v1 true (aA v4 h4) h4) fun v5 h5 =>
 bnd (gD v1 true (some (x1, h5)) h5) fun v6 h6 =>
 bnd (gD v1 true (rec 99 [v6] h6) h6) fun v7 h7 =>
 cnd (aX (gD v1 true (aA v4 h7) h7) v5 && true) (
 bnd (gD v1 true (dV (.int .i64) (.b false) false v5 v7 h7) h7) fun v8 h8 =>
 bnd (aP v1 v8 (.b false) h8) fun v9 h9 =>
 some (v9, h9))
noncomputable def E21 (rec : FuncId → List DV → Hp → aK) (n : Nat) (c : Code) (X : Nat → K) (k : K) : K := aM CF1 rec 16 n c X (aR CF1 Tryz.f46) k
theorem eLt (rec : FuncId → List DV → Hp → aK) (n : Nat) : E21 rec n (cf Tryz.f46) x0 (aR CF1 Tryz.f46) = (fun (env : bB) (h : Hp) => t21 rec n (env 0) (env 1) h) :=
 (by kernel_rfl)
theorem eCa (rec : FuncId → List DV → Hp → aK) (n : Nat) (args : List DV) (h : Hp) : aE CF1 rec n 46 args h = t21 rec n (args.getD 0 aT) (args.getD 1 aT) h :=
 (by kernel_rfl : aE CF1 rec n 46 args h = E21 rec n (cf Tryz.f46) x0 (aR CF1 Tryz.f46) (aI args) h).trans ((congrFun (congrFun (eLt rec n) (aI args)) h).trans (by kernel_rfl))
noncomputable def t22 (rec : FuncId → List DV → Hp → aK) (n : Nat) (x0 : DV) (h0 : Hp) : aK :=
 bnd (aQ x0 h0) fun v1 h1 =>
 bnd (aB 0 v1 h1) fun v2 h2 =>
 bnd (aA v2 h2) fun v3 h3 =>
 bnd (bO v3 h3) fun v4 h4 =>
 some (v4, h4)
noncomputable def E22 (rec : FuncId → List DV → Hp → aK) (n : Nat) (c : Code) (X : Nat → K) (k : K) : K := aM CF1 rec 8 n c X (aR CF1 Tryz.f94) k
theorem eLs (rec : FuncId → List DV → Hp → aK) (n : Nat) : E22 rec n (cf Tryz.f94) x0 (aR CF1 Tryz.f94) = (fun (env : bB) (h : Hp) => t22 rec n (env 0) h) :=
 (by kernel_rfl)
theorem eDn (rec : FuncId → List DV → Hp → aK) (n : Nat) (args : List DV) (h : Hp) : aE CF1 rec n 94 args h = t22 rec n (args.getD 0 aT) h :=
 (by kernel_rfl : aE CF1 rec n 94 args h = E22 rec n (cf Tryz.f94) x0 (aR CF1 Tryz.f94) (aI args) h).trans ((congrFun (congrFun (eLs rec n) (aI args)) h).trans (by kernel_rfl))
noncomputable def t29 (rec : FuncId → List DV → Hp → aK) (n : Nat) (x0 : DV) (h0 : Hp) : aK :=
 bnd (aQ x0 h0) fun v1 h1 =>
 bnd (aB 0 v1 h1) fun v2 h2 =>
 bnd (aA v2 h2) fun v3 h3 =>
 bnd (bO v3 h3) fun v4 h4 =>
 bnd (aQ x0 h4) fun v5 h5 =>
 bnd (aB 1 v5 h5) fun v6 h6 =>
 bnd (aA v6 h6) fun v7 h7 =>
 bnd (aF .sub v4 v7 h7) fun v8 h8 =>
 some (v8, h8)
noncomputable def E29 (rec : FuncId → List DV → Hp → aK) (n : Nat) (c : Code) (X : Nat → K) (k : K) : K := aM CF1 rec 13 n c X (aR CF1 Tryz.f75) k
theorem eJf (rec : FuncId → List DV → Hp → aK) (n : Nat) : E29 rec n (cf Tryz.f75) x0 (aR CF1 Tryz.f75) = (fun (env : bB) (h : Hp) => t29 rec n (env 0) h) :=
 (by kernel_rfl)
theorem dXj (rec : FuncId → List DV → Hp → aK) (n : Nat) (args : List DV) (h : Hp) : aE CF1 rec n 75 args h = t29 rec n (args.getD 0 aT) h :=
 (by kernel_rfl : aE CF1 rec n 75 args h = E29 rec n (cf Tryz.f75) x0 (aR CF1 Tryz.f75) (aI args) h).trans ((congrFun (congrFun (eJf rec n) (aI args)) h).trans (by kernel_rfl))
noncomputable def t30 (rec : FuncId → List DV → Hp → aK) (n : Nat) (x0 x1 x2 x3 : DV) (h0 : Hp) : aK :=
 bnd (rec 74 [x0, x1] h0) fun v1 h1 =>
 bnd (fR .not v1 h1) fun v2 h2 =>
 bnd (gD v2 false (some (x2, h2)) h2) fun v3 h3 =>
 bnd (gD v2 false (aF .lss v3 (.i .i64 (Int.ofNat 0)) h3) h3) fun v4 h4 =>
 bnd (aP v2 (.b true) v4 h4) fun v5 h5 =>
 bnd (gD v5 false (some (x2, h5)) h5) fun v6 h6 =>
 bnd (gD v5 false (aF .gtr v6 (.i .i64 (Int.ofNat 2)) h6) h6) fun v7 h7 =>
 bnd (aP v5 (.b true) v7 h7) fun v8 h8 =>
 bnd (gD v8 false (some (x3, h8)) h8) fun v9 h9 =>
 bnd (gD v8 false (aF .lss v9 (.i .i64 (Int.ofNat 0)) h9) h9) fun v10 h10 =>
 bnd (aP v8 (.b true) v10 h10) fun v11 h11 =>
 bnd (gD v11 false (some (x3, h11)) h11) fun v12 h12 =>
 bnd (gD v11 false (aF .gtr v12 (.i .i64 (Int.ofNat 256)) h12) h12) fun v13 h13 =>
 bnd (aP v11 (.b true) v13 h13) fun v14 h14 =>
 aU v14 (
  some (.t [(.i .i64 (Int.ofNat 0)), (.i .i64 (Int.ofNat 1))], h14)) (
  bnd (rec 75 [x0] h14) fun v15 h15 =>
  bnd (aF .add x3 (.i .i64 (Int.ofNat 3)) h15) fun v16 h16 =>
  bnd (aF .lss v15 v16 h16) fun v17 h17 =>
  bnd (gD v17 false (some (x0, h17)) h17) fun v18 h18 =>
  bnd (gD v17 false (aQ v18 h18) h18) fun v19 h19 =>
  bnd (gD v17 false (aB 2 v19 h19) h19) fun v20 h20 =>
  bnd (gD v17 false (aA v20 h20) h20) fun v21 h21 =>
  bnd (gD v17 false (aF .geq v21 (.i .i64 (Int.ofNat 1099511627776)) h21) h21) fun v22 h22 =>
  bnd (aP v17 (.b true) v22 h22) fun v23 h23 =>
  aU v23 (
   some (.t [(.i .i64 (Int.ofNat 0)), (.i .i64 (Int.ofNat 4))], h23)) (
   bnd (aQ x0 h23) fun v24 h24 =>
   bnd (aB 1 v24 h24) fun v25 h25 =>
   bnd (aA v25 h25) fun v26 h26 =>
   bnd (aQ x0 h26) fun v27 h27 =>
   bnd (aB 2 v27 h27) fun v28 h28 =>
   bnd (aA v28 h28) fun v29 h29 =>
   bnd (aF .add v29 (.i .i64 (Int.ofNat 1)) h29) fun v30 h30 =>
   bnd (aQ x0 h30) fun v31 h31 =>
   bnd (aB 2 v31 h31) fun v32 h32 =>
   bnd (aC 1 v32 v30 h32) fun _ h33 =>
   bnd (aQ x0 h33) fun v34 h34 =>
   bnd (aB 0 v34 h34) fun v35 h35 =>
   bnd (aA v35 h35) fun v36 h36 =>
   bnd (aQ x0 h36) fun v37 h37 =>
   bnd (aB 0 v37 h37) fun v38 h38 =>
   bnd (aA v38 h38) fun v39 h39 =>
   bnd (aF .add v26 (.i .i64 (Int.ofNat 1)) h39) fun v40 h40 =>
   bnd (aQ x0 h40) fun v41 h41 =>
   bnd (aB 0 v41 h41) fun v42 h42 =>
   bnd (aA v42 h42) fun v43 h43 =>
   bnd (aF .add v26 (.i .i64 (Int.ofNat 2)) h43) fun v44 h44 =>
   bnd (dG .shl x3 (.i .u64 (Int.ofNat 2)) h44) fun v45 h45 =>
   bnd (aF .or v45 x2 h45) fun v46 h46 =>
   bnd (aQ x0 h46) fun v47 h47 =>
   bnd (aB 2 v47 h47) fun v48 h48 =>
   bnd (aA v48 h48) fun v49 h49 =>
   bnd (aJ 1 v36 v26 h49) fun v50 h50 =>
   bnd (aC 1 v50 v46 h50) fun v51 h51 =>
   bnd (aJ 1 v39 v40 h51) fun v52 h52 =>
   bnd (aC 1 v52 x1 h52) fun v53 h53 =>
   bnd (aJ 1 v43 v44 h53) fun v54 h54 =>
   bnd (aC 1 v54 v49 h54) fun v55 h55 =>
   bnd (aQ x0 h55) fun v56 h56 =>
   bnd (aB 0 v56 h56) fun v57 h57 =>
   bnd (aA v57 h57) fun v58 h58 =>
   bnd (aF .add v26 (.i .i64 (Int.ofNat 3)) h58) fun v59 h59 =>
   bnd (aF .add v26 (.i .i64 (Int.ofNat 3)) h59) fun v60 h60 =>
   bnd (aF .add v60 x3 h60) fun v61 h61 =>
   bnd (cW 1 v58 (some v59) (some v61) h61) fun v62 h62 =>
   bnd (jR [(.i .i64 (Int.ofNat 0))] v62 h62) fun _ h63 =>
   bnd (aQ x0 h63) fun v64 h64 =>
   bnd (aB 1 v64 h64) fun v65 h65 =>
   bnd (aA v65 h65) fun v66 h66 =>
   bnd (aF .add x3 (.i .i64 (Int.ofNat 3)) h66) fun v67 h67 =>
   bnd (aF .add v66 v67 h67) fun v68 h68 =>
   bnd (aQ x0 h68) fun v69 h69 =>
   bnd (aB 1 v69 h69) fun v70 h70 =>
   bnd (aC 1 v70 v68 h70) fun _ h71 =>
   bnd (aQ x0 h71) fun v72 h72 =>
   bnd (aB 3 v72 h72) fun v73 h73 =>
   bnd (aA v73 h73) fun v74 h74 =>
   bnd (gW (.int .i64) v74 v26 (.b true) h74) fun _ h75 =>
   bnd (rec 76 [v26] h75) fun v76 h76 =>
   bnd (aH 0 v76 h76) fun v77 h77 =>
   bnd (aH 1 v76 h77) fun v78 h78 =>
   some (.t [v77, (.i .i64 (Int.ofNat 0))], h78)))
noncomputable def E30 (rec : FuncId → List DV → Hp → aK) (n : Nat) (c : Code) (X : Nat → K) (k : K) : K := aM CF1 rec 118 n c X (aR CF1 Tryz.f31) k
theorem eLc (rec : FuncId → List DV → Hp → aK) (n : Nat) : E30 rec n (cf Tryz.f31) x0 (aR CF1 Tryz.f31) = (fun (env : bB) (h : Hp) => t30 rec n (env 0) (env 1) (env 2) (env 3) h) :=
 (by kernel_rfl)
theorem eDe (rec : FuncId → List DV → Hp → aK) (n : Nat) (args : List DV) (h : Hp) : aE CF1 rec n 31 args h = t30 rec n (args.getD 0 aT) (args.getD 1 aT) (args.getD 2 aT) (args.getD 3 aT) h :=
 (by kernel_rfl : aE CF1 rec n 31 args h = E30 rec n (cf Tryz.f31) x0 (aR CF1 Tryz.f31) (aI args) h).trans ((congrFun (congrFun (eLc rec n) (aI args)) h).trans (by kernel_rfl))
noncomputable def t41 (rec : FuncId → List DV → Hp → aK) (n : Nat) (x0 : DV) (h0 : Hp) : aK :=
 bnd (aF .lss x0 (.i .i64 (Int.ofNat 16)) h0) fun v1 h1 =>
 bnd (gD v1 false (some (x0, h1)) h1) fun v2 h2 =>
 bnd (gD v1 false (aF .gtr v2 (.i .i64 (Int.ofNat 131072)) h2) h2) fun v3 h3 =>
 bnd (aP v1 (.b true) v3 h3) fun v4 h4 =>
 aU v4 (
  some (.p0, h4)) (
  bnd (cJ 1 8 [(.i .i64 (Int.ofNat 0))] x0 x0 h4) fun v5 h5 =>
  bnd (eI h5) fun v6 h6 =>
  bnd (aS [.l0, (.i .i64 (Int.ofNat 0)), (.i .i64 (Int.ofNat 0)), .m0] [(0, 1, v5), (1, 1, (.i .i64 (Int.ofNat 3))), (3, 1, v6)] h6) fun v7 h7 =>
  bnd (bJ v7 h7) fun v8 h8 =>
  some (v8, h8))
noncomputable def E41 (rec : FuncId → List DV → Hp → aK) (n : Nat) (c : Code) (X : Nat → K) (k : K) : K := aM CF1 rec 14 n c X (aR CF1 Tryz.f30) k
theorem eIu (rec : FuncId → List DV → Hp → aK) (n : Nat) : E41 rec n (cf Tryz.f30) x0 (aR CF1 Tryz.f30) = (fun (env : bB) (h : Hp) => t41 rec n (env 0) h) :=
 (by kernel_rfl)
theorem dIc (rec : FuncId → List DV → Hp → aK) (n : Nat) (args : List DV) (h : Hp) : aE CF1 rec n 30 args h = t41 rec n (args.getD 0 aT) h :=
 (by kernel_rfl : aE CF1 rec n 30 args h = E41 rec n (cf Tryz.f30) x0 (aR CF1 Tryz.f30) (aI args) h).trans ((congrFun (congrFun (eIu rec n) (aI args)) h).trans (by kernel_rfl))
noncomputable def t44 (rec : FuncId → List DV → Hp → aK) (n : Nat) (x0 x1 x2 : DV) (h0 : Hp) : aK :=
 bnd (rec 85 [x0, x1] h0) fun v1 h1 =>
 bnd (aF .eql v1 (.i .i64 (Int.ofNat 0)) h1) fun v2 h2 =>
 bnd (gD v2 false (some (x0, h2)) h2) fun v3 h3 =>
 bnd (gD v2 false (some (x2, h3)) h3) fun v4 h4 =>
 bnd (gD v2 false (rec 74 [v3, v4] h4) h4) fun v5 h5 =>
 bnd (gD v2 false (fR .not v5 h5) h5) fun v6 h6 =>
 bnd (aP v2 (.b true) v6 h6) fun v7 h7 =>
 aU v7 (
  some ((.i .i64 (Int.ofNat 1)), h7)) (
  bnd (aQ x0 h7) fun v8 h8 =>
  bnd (aB 0 v8 h8) fun v9 h9 =>
  bnd (aA v9 h9) fun v10 h10 =>
  bnd (aF .add v1 (.i .i64 (Int.ofNat 1)) h10) fun v11 h11 =>
  bnd (aJ 1 v10 v11 h11) fun v12 h12 =>
  bnd (aC 1 v12 x2 h12) fun _ h13 =>
  some ((.i .i64 (Int.ofNat 0)), h13))
noncomputable def E44 (rec : FuncId → List DV → Hp → aK) (n : Nat) (c : Code) (X : Nat → K) (k : K) : K := aM CF1 rec 27 n c X (aR CF1 Tryz.f35) k
theorem eHi (rec : FuncId → List DV → Hp → aK) (n : Nat) : E44 rec n (cf Tryz.f35) x0 (aR CF1 Tryz.f35) = (fun (env : bB) (h : Hp) => t44 rec n (env 0) (env 1) (env 2) h) :=
 (by kernel_rfl)
theorem dXg (rec : FuncId → List DV → Hp → aK) (n : Nat) (args : List DV) (h : Hp) : aE CF1 rec n 35 args h = t44 rec n (args.getD 0 aT) (args.getD 1 aT) (args.getD 2 aT) h :=
 (by kernel_rfl : aE CF1 rec n 35 args h = E44 rec n (cf Tryz.f35) x0 (aR CF1 Tryz.f35) (aI args) h).trans ((congrFun (congrFun (eHi rec n) (aI args)) h).trans (by kernel_rfl))
noncomputable def tR (rec : FuncId → List DV → Hp → aK) (n : Nat) (x0 x3 x9 : DV) (h0 : Hp) : aK :=
 bnd (aQ x0 h0) fun v1 h1 =>
 bnd (aB 0 v1 h1) fun v2 h2 =>
 bnd (aA v2 h2) fun v3 h3 =>
 bnd (aJ 1 v3 x9 h3) fun v4 h4 =>
 bnd (aC 1 v4 x3 h4) fun _ h5 =>
 some ((.i .i64 (Int.ofNat 0)), h5)
noncomputable def bDe (rec : FuncId → List DV → Hp → aK) (n : Nat) (x0 x1 x3 x9 : DV) (h0 : Hp) : aK :=
 bnd (rec 90 [x0, x1] h0) fun v11 h11 =>
 bnd (aF .eql v11 (.i .i64 (Int.ofNat 0)) h11) fun v12 h12 =>
 aU v12 (
  bnd (rec 18 [x0, x3] h12) fun v13 h13 =>
  bnd (fR .not v13 h13) fun v14 h14 =>
  aU v14 (
   some ((.i .i64 (Int.ofNat 6)), h14)) (
   tR rec n x0 x3 x9 h14)) (
  bnd (aF .eql v11 (.i .i64 (Int.ofNat 2)) h12) fun v15 h15 =>
  aU v15 (
   bnd (aF .lss x3 (.i .i64 (Int.ofNat 0)) h15) fun v16 h16 =>
   bnd (gD v16 false (some (x3, h16)) h16) fun v17 h17 =>
   bnd (gD v16 false (aF .gtr v17 (.i .i64 (Int.ofNat 255)) h17) h17) fun v18 h18 =>
   bnd (aP v16 (.b true) v18 h18) fun v19 h19 =>
   aU v19 (
    some ((.i .i64 (Int.ofNat 6)), h19)) (
    tR rec n x0 x3 x9 h19)) (
   tR rec n x0 x3 x9 h15))
noncomputable def aSv (rec : FuncId → List DV → Hp → aK) (n : Nat) (x0 x1 x3 x9 x10 : DV) (h0 : Hp) : aK :=
 bnd (aF .neq x10 (.i .i64 (Int.ofNat 0)) h0) fun v29 h29 =>
 aU v29 (
  some (x10, h29)) (
  bDe rec n x0 x1 x3 x9 h29)
noncomputable def bFm (rec : FuncId → List DV → Hp → aK) (n : Nat) (x0 x1 x2 x3 : DV) (h0 : Hp) : aK :=
 bnd (rec 89 [x0, x1, x2] h0) fun v31 h31 =>
 bnd (aH 0 v31 h31) fun v32 h32 =>
 bnd (aH 1 v31 h32) fun v33 h33 =>
 aSv rec n x0 x1 x3 v32 v33 h33
noncomputable def t47 (rec : FuncId → List DV → Hp → aK) (n : Nat) (x0 x1 x2 x3 : DV) (h0 : Hp) : aK :=
 bFm rec n x0 x1 x2 x3 h0
noncomputable def E47 (rec : FuncId → List DV → Hp → aK) (n : Nat) (c : Code) (X : Nat → K) (k : K) : K := aM CF1 rec 45 n c X (aR CF1 Tryz.f38) k
theorem dSj (rec : FuncId → List DV → Hp → aK) (n : Nat) : E47 rec n (cR (cR (cR (cR (cf Tryz.f38))))) x0 (aR CF1 Tryz.f38) = (fun (env : bB) (h : Hp) => tR rec n (env 0) (env 3) (env 9) h) :=
 (by kernel_rfl)
theorem dDe (rec : FuncId → List DV → Hp → aK) (n : Nat) : E47 rec n (cR (cR (cR (cf Tryz.f38)))) x0 (aR CF1 Tryz.f38) = E47 rec n (cL (cR (cR (cR (cf Tryz.f38))))) x0 (fun (env : bB) (h : Hp) => tR rec n (env 0) (env 3) (env 9) h) :=
 congrArg (fun k => E47 rec n (cL (cR (cR (cR (cf Tryz.f38))))) x0 k) (dSj rec n)
theorem dVw (rec : FuncId → List DV → Hp → aK) (n : Nat) : E47 rec n (cR (cR (cR (cf Tryz.f38)))) x0 (aR CF1 Tryz.f38) = (fun (env : bB) (h : Hp) => bDe rec n (env 0) (env 1) (env 3) (env 9) h) :=
 (dDe rec n).trans
 ((by kernel_rfl))
theorem cYv (rec : FuncId → List DV → Hp → aK) (n : Nat) : E47 rec n (cR (cR (cf Tryz.f38))) x0 (aR CF1 Tryz.f38) = E47 rec n (cL (cR (cR (cf Tryz.f38)))) x0 (fun (env : bB) (h : Hp) => bDe rec n (env 0) (env 1) (env 3) (env 9) h) :=
 congrArg (fun k => E47 rec n (cL (cR (cR (cf Tryz.f38)))) x0 k) (dVw rec n)
theorem dKr (rec : FuncId → List DV → Hp → aK) (n : Nat) : E47 rec n (cR (cR (cf Tryz.f38))) x0 (aR CF1 Tryz.f38) = (fun (env : bB) (h : Hp) => aSv rec n (env 0) (env 1) (env 3) (env 9) (env 10) h) :=
 (cYv rec n).trans
 ((by kernel_rfl))
theorem cUr (rec : FuncId → List DV → Hp → aK) (n : Nat) : E47 rec n (cR (cf Tryz.f38)) x0 (aR CF1 Tryz.f38) = E47 rec n (cL (cR (cf Tryz.f38))) x0 (fun (env : bB) (h : Hp) => aSv rec n (env 0) (env 1) (env 3) (env 9) (env 10) h) :=
 congrArg (fun k => E47 rec n (cL (cR (cf Tryz.f38))) x0 k) (dKr rec n)
theorem dSk (rec : FuncId → List DV → Hp → aK) (n : Nat) : E47 rec n (cR (cf Tryz.f38)) x0 (aR CF1 Tryz.f38) = (fun (env : bB) (h : Hp) => bFm rec n (env 0) (env 1) (env 2) (env 3) h) :=
 (cUr rec n).trans
 ((by kernel_rfl))
theorem eAl (rec : FuncId → List DV → Hp → aK) (n : Nat) : E47 rec n (cf Tryz.f38) x0 (aR CF1 Tryz.f38) = E47 rec n (cL (cf Tryz.f38)) x0 (fun (env : bB) (h : Hp) => bFm rec n (env 0) (env 1) (env 2) (env 3) h) :=
 congrArg (fun k => E47 rec n (cL (cf Tryz.f38)) x0 k) (dSk rec n)
theorem eLn (rec : FuncId → List DV → Hp → aK) (n : Nat) : E47 rec n (cf Tryz.f38) x0 (aR CF1 Tryz.f38) = (fun (env : bB) (h : Hp) => t47 rec n (env 0) (env 1) (env 2) (env 3) h) :=
 (eAl rec n).trans
 ((by kernel_rfl))
theorem eBy (rec : FuncId → List DV → Hp → aK) (n : Nat) (args : List DV) (h : Hp) : aE CF1 rec n 38 args h = t47 rec n (args.getD 0 aT) (args.getD 1 aT) (args.getD 2 aT) (args.getD 3 aT) h :=
 (by kernel_rfl : aE CF1 rec n 38 args h = E47 rec n (cf Tryz.f38) x0 (aR CF1 Tryz.f38) (aI args) h).trans ((congrFun (congrFun (eLn rec n) (aI args)) h).trans (by kernel_rfl))
noncomputable def t50 (rec : FuncId → List DV → Hp → aK) (n : Nat) (x0 x1 : DV) (h0 : Hp) : aK :=
 bnd (aQ x0 h0) fun v1 h1 =>
 bnd (aB 0 v1 h1) fun v2 h2 =>
 bnd (aA v2 h2) fun v3 h3 =>
 bnd (rec 85 [x0, x1] h3) fun v4 h4 =>
 cnd (aX (aA v2 h4) v3 && true) (
 bnd (aF .add v4 (.i .i64 (Int.ofNat 1)) h4) fun v5 h5 =>
 bnd (aJ 1 v3 v5 h5) fun v6 h6 =>
 bnd (aA v6 h6) fun v7 h7 =>
 some (v7, h7))
noncomputable def E50 (rec : FuncId → List DV → Hp → aK) (n : Nat) (c : Code) (X : Nat → K) (k : K) : K := aM CF1 rec 15 n c X (aR CF1 Tryz.f104) k
theorem eIe (rec : FuncId → List DV → Hp → aK) (n : Nat) : E50 rec n (cf Tryz.f104) x0 (aR CF1 Tryz.f104) = (fun (env : bB) (h : Hp) => t50 rec n (env 0) (env 1) h) :=
 (by kernel_rfl)
theorem dZb (rec : FuncId → List DV → Hp → aK) (n : Nat) (args : List DV) (h : Hp) : aE CF1 rec n 104 args h = t50 rec n (args.getD 0 aT) (args.getD 1 aT) h :=
 (by kernel_rfl : aE CF1 rec n 104 args h = E50 rec n (cf Tryz.f104) x0 (aR CF1 Tryz.f104) (aI args) h).trans ((congrFun (congrFun (eIe rec n) (aI args)) h).trans (by kernel_rfl))
noncomputable def t51 (rec : FuncId → List DV → Hp → aK) (n : Nat) (x0 x1 : DV) (h0 : Hp) : aK :=
 bnd (aQ x0 h0) fun v1 h1 =>
 bnd (aB 0 v1 h1) fun v2 h2 =>
 bnd (aA v2 h2) fun v3 h3 =>
 bnd (rec 85 [x0, x1] h3) fun v4 h4 =>
 cnd (aX (aA v2 h4) v3 && true) (
 bnd (aJ 1 v3 v4 h4) fun v5 h5 =>
 bnd (aA v5 h5) fun v6 h6 =>
 bnd (aF .and v6 (.i .i64 (Int.ofNat 3)) h6) fun v7 h7 =>
 some (v7, h7))
noncomputable def E51 (rec : FuncId → List DV → Hp → aK) (n : Nat) (c : Code) (X : Nat → K) (k : K) : K := aM CF1 rec 15 n c X (aR CF1 Tryz.f90) k
theorem eLe (rec : FuncId → List DV → Hp → aK) (n : Nat) : E51 rec n (cf Tryz.f90) x0 (aR CF1 Tryz.f90) = (fun (env : bB) (h : Hp) => t51 rec n (env 0) (env 1) h) :=
 (by kernel_rfl)
theorem eCj (rec : FuncId → List DV → Hp → aK) (n : Nat) (args : List DV) (h : Hp) : aE CF1 rec n 90 args h = t51 rec n (args.getD 0 aT) (args.getD 1 aT) h :=
 (by kernel_rfl : aE CF1 rec n 90 args h = E51 rec n (cf Tryz.f90) x0 (aR CF1 Tryz.f90) (aI args) h).trans ((congrFun (congrFun (eLe rec n) (aI args)) h).trans (by kernel_rfl))
noncomputable def t52 (rec : FuncId → List DV → Hp → aK) (n : Nat) (x0 x1 : DV) (h0 : Hp) : aK :=
 bnd (aQ x0 h0) fun v1 h1 =>
 bnd (aB 0 v1 h1) fun v2 h2 =>
 bnd (aA v2 h2) fun v3 h3 =>
 bnd (rec 85 [x0, x1] h3) fun v4 h4 =>
 cnd (aX (aA v2 h4) v3 && true) (
 bnd (aJ 1 v3 v4 h4) fun v5 h5 =>
 bnd (aA v5 h5) fun v6 h6 =>
 bnd (dG .shr v6 (.i .u64 (Int.ofNat 2)) h6) fun v7 h7 =>
 some (v7, h7))
noncomputable def E52 (rec : FuncId → List DV → Hp → aK) (n : Nat) (c : Code) (X : Nat → K) (k : K) : K := aM CF1 rec 15 n c X (aR CF1 Tryz.f73) k
theorem eIh (rec : FuncId → List DV → Hp → aK) (n : Nat) : E52 rec n (cf Tryz.f73) x0 (aR CF1 Tryz.f73) = (fun (env : bB) (h : Hp) => t52 rec n (env 0) (env 1) h) :=
 (by kernel_rfl)
theorem dZf (rec : FuncId → List DV → Hp → aK) (n : Nat) (args : List DV) (h : Hp) : aE CF1 rec n 73 args h = t52 rec n (args.getD 0 aT) (args.getD 1 aT) h :=
 (by kernel_rfl : aE CF1 rec n 73 args h = E52 rec n (cf Tryz.f73) x0 (aR CF1 Tryz.f73) (aI args) h).trans ((congrFun (congrFun (eIh rec n) (aI args)) h).trans (by kernel_rfl))
noncomputable def t54 (rec : FuncId → List DV → Hp → aK) (n : Nat) (x0 : DV) (h0 : Hp) : aK :=
 bnd (aF .and x0 (.i .i64 (Int.ofNat 1)) h0) fun v1 h1 =>
 bnd (aF .eql v1 (.i .i64 (Int.ofNat 1)) h1) fun v2 h2 =>
 bnd (gD v2 true (some (x0, h2)) h2) fun v3 h3 =>
 bnd (gD v2 true (dG .shr v3 (.i .u64 (Int.ofNat 1)) h3) h3) fun v4 h4 =>
 bnd (gD v2 true (rec 97 [v4, (.i .i64 (Int.negSucc 1073741823)), (.i .i64 (Int.ofNat 1073741823))] h4) h4) fun v5 h5 =>
 bnd (aP v2 v5 (.b false) h5) fun v6 h6 =>
 some (v6, h6)
noncomputable def E54 (rec : FuncId → List DV → Hp → aK) (n : Nat) (c : Code) (X : Nat → K) (k : K) : K := aM CF1 rec 11 n c X (aR CF1 Tryz.f45) k
theorem eLq (rec : FuncId → List DV → Hp → aK) (n : Nat) : E54 rec n (cf Tryz.f45) x0 (aR CF1 Tryz.f45) = (fun (env : bB) (h : Hp) => t54 rec n (env 0) h) :=
 (by kernel_rfl)
theorem eBt (rec : FuncId → List DV → Hp → aK) (n : Nat) (args : List DV) (h : Hp) : aE CF1 rec n 45 args h = t54 rec n (args.getD 0 aT) h :=
 (by kernel_rfl : aE CF1 rec n 45 args h = E54 rec n (cf Tryz.f45) x0 (aR CF1 Tryz.f45) (aI args) h).trans ((congrFun (congrFun (eLq rec n) (aI args)) h).trans (by kernel_rfl))
noncomputable def t60 (rec : FuncId → List DV → Hp → aK) (n : Nat) (x0 : DV) (h0 : Hp) : aK :=
 bnd (rec 97 [x0, (.i .i64 (Int.negSucc 1073741823)), (.i .i64 (Int.ofNat 1073741823))] h0) fun v1 h1 =>
 bnd (fR .not v1 h1) fun v2 h2 =>
 aU v2 (
  some (.t [(.i .i64 (Int.ofNat 0)), (.b false)], h2)) (
  bnd (dG .shl x0 (.i .u64 (Int.ofNat 1)) h2) fun v3 h3 =>
  bnd (aF .or v3 (.i .i64 (Int.ofNat 1)) h3) fun v4 h4 =>
  some (.t [v4, (.b true)], h4))
noncomputable def E60 (rec : FuncId → List DV → Hp → aK) (n : Nat) (c : Code) (X : Nat → K) (k : K) : K := aM CF1 rec 10 n c X (aR CF1 Tryz.f88) k
theorem eIl (rec : FuncId → List DV → Hp → aK) (n : Nat) : E60 rec n (cf Tryz.f88) x0 (aR CF1 Tryz.f88) = (fun (env : bB) (h : Hp) => t60 rec n (env 0) h) :=
 (by kernel_rfl)
theorem eHc (rec : FuncId → List DV → Hp → aK) (n : Nat) (args : List DV) (h : Hp) : aE CF1 rec n 88 args h = t60 rec n (args.getD 0 aT) h :=
 (by kernel_rfl : aE CF1 rec n 88 args h = E60 rec n (cf Tryz.f88) x0 (aR CF1 Tryz.f88) (aI args) h).trans ((congrFun (congrFun (eIl rec n) (aI args)) h).trans (by kernel_rfl))
noncomputable def t62 (rec : FuncId → List DV → Hp → aK) (n : Nat) (x0 : DV) (h0 : Hp) : aK :=
 bnd (rec 45 [x0] h0) fun v1 h1 =>
 bnd (fR .not v1 h1) fun v2 h2 =>
 aU v2 (
  some ((.i .i64 (Int.ofNat 0)), h2)) (
  bnd (dG .shr x0 (.i .u64 (Int.ofNat 1)) h2) fun v3 h3 =>
  some (v3, h3))
noncomputable def E62 (rec : FuncId → List DV → Hp → aK) (n : Nat) (c : Code) (X : Nat → K) (k : K) : K := aM CF1 rec 8 n c X (aR CF1 Tryz.f122) k
theorem eLk (rec : FuncId → List DV → Hp → aK) (n : Nat) : E62 rec n (cf Tryz.f122) x0 (aR CF1 Tryz.f122) = (fun (env : bB) (h : Hp) => t62 rec n (env 0) h) :=
 (by kernel_rfl)
theorem eCt (rec : FuncId → List DV → Hp → aK) (n : Nat) (args : List DV) (h : Hp) : aE CF1 rec n 122 args h = t62 rec n (args.getD 0 aT) h :=
 (by kernel_rfl : aE CF1 rec n 122 args h = E62 rec n (cf Tryz.f122) x0 (aR CF1 Tryz.f122) (aI args) h).trans ((congrFun (congrFun (eLk rec n) (aI args)) h).trans (by kernel_rfl))
noncomputable def t63 (rec : FuncId → List DV → Hp → aK) (n : Nat) (x0 : DV) (h0 : Hp) : aK :=
 bnd (aF .and x0 (.i .i64 (Int.ofNat 1)) h0) fun v1 h1 =>
 bnd (aF .eql v1 (.i .i64 (Int.ofNat 0)) h1) fun v2 h2 =>
 bnd (gD v2 true (some (x0, h2)) h2) fun v3 h3 =>
 bnd (gD v2 true (dG .shr v3 (.i .u64 (Int.ofNat 1)) h3) h3) fun v4 h4 =>
 bnd (gD v2 true (rec 97 [v4, (.i .i64 (Int.ofNat 3)), (.i .i64 (Int.ofNat 131072))] h4) h4) fun v5 h5 =>
 bnd (aP v2 v5 (.b false) h5) fun v6 h6 =>
 some (v6, h6)
noncomputable def E63 (rec : FuncId → List DV → Hp → aK) (n : Nat) (c : Code) (X : Nat → K) (k : K) : K := aM CF1 rec 11 n c X (aR CF1 Tryz.f98) k
theorem eMd (rec : FuncId → List DV → Hp → aK) (n : Nat) : E63 rec n (cf Tryz.f98) x0 (aR CF1 Tryz.f98) = (fun (env : bB) (h : Hp) => t63 rec n (env 0) h) :=
 (by kernel_rfl)
theorem dYd (rec : FuncId → List DV → Hp → aK) (n : Nat) (args : List DV) (h : Hp) : aE CF1 rec n 98 args h = t63 rec n (args.getD 0 aT) h :=
 (by kernel_rfl : aE CF1 rec n 98 args h = E63 rec n (cf Tryz.f98) x0 (aR CF1 Tryz.f98) (aI args) h).trans ((congrFun (congrFun (eMd rec n) (aI args)) h).trans (by kernel_rfl))
noncomputable def t64 (rec : FuncId → List DV → Hp → aK) (n : Nat) (x0 : DV) (h0 : Hp) : aK :=
 bnd (rec 98 [x0] h0) fun v1 h1 =>
 bnd (fR .not v1 h1) fun v2 h2 =>
 aU v2 (
  some ((.i .i64 (Int.ofNat 0)), h2)) (
  bnd (dG .shr x0 (.i .u64 (Int.ofNat 1)) h2) fun v3 h3 =>
  some (v3, h3))
noncomputable def E64 (rec : FuncId → List DV → Hp → aK) (n : Nat) (c : Code) (X : Nat → K) (k : K) : K := aM CF1 rec 8 n c X (aR CF1 Tryz.f99) k
theorem eHs (rec : FuncId → List DV → Hp → aK) (n : Nat) : E64 rec n (cf Tryz.f99) x0 (aR CF1 Tryz.f99) = (fun (env : bB) (h : Hp) => t64 rec n (env 0) h) :=
 (by kernel_rfl)
theorem eFi (rec : FuncId → List DV → Hp → aK) (n : Nat) (args : List DV) (h : Hp) : aE CF1 rec n 99 args h = t64 rec n (args.getD 0 aT) h :=
 (by kernel_rfl : aE CF1 rec n 99 args h = E64 rec n (cf Tryz.f99) x0 (aR CF1 Tryz.f99) (aI args) h).trans ((congrFun (congrFun (eHs rec n) (aI args)) h).trans (by kernel_rfl))
noncomputable def t73 (rec : FuncId → List DV → Hp → aK) (n : Nat) (x0 x1 x2 : DV) (h0 : Hp) : aK :=
 bnd (rec 89 [x0, x1, x2] h0) fun v1 h1 =>
 bnd (aH 0 v1 h1) fun v2 h2 =>
 bnd (aH 1 v1 h2) fun v3 h3 =>
 bnd (aF .neq v3 (.i .i64 (Int.ofNat 0)) h3) fun v4 h4 =>
 aU v4 (
  some (.t [(.i .i64 (Int.ofNat 0)), v3], h4)) (
  bnd (aQ x0 h4) fun v5 h5 =>
  bnd (aB 0 v5 h5) fun v6 h6 =>
  bnd (aA v6 h6) fun v7 h7 =>
  bnd (aJ 1 v7 v2 h7) fun v8 h8 =>
  bnd (aA v8 h8) fun v9 h9 =>
  some (.t [v9, (.i .i64 (Int.ofNat 0))], h9))
noncomputable def E73 (rec : FuncId → List DV → Hp → aK) (n : Nat) (c : Code) (X : Nat → K) (k : K) : K := aM CF1 rec 27 n c X (aR CF1 Tryz.f52) k
theorem eKi (rec : FuncId → List DV → Hp → aK) (n : Nat) : E73 rec n (cf Tryz.f52) x0 (aR CF1 Tryz.f52) = (fun (env : bB) (h : Hp) => t73 rec n (env 0) (env 1) (env 2) h) :=
 (by kernel_rfl)
theorem dIv (rec : FuncId → List DV → Hp → aK) (n : Nat) (args : List DV) (h : Hp) : aE CF1 rec n 52 args h = t73 rec n (args.getD 0 aT) (args.getD 1 aT) (args.getD 2 aT) h :=
 (by kernel_rfl : aE CF1 rec n 52 args h = E73 rec n (cf Tryz.f52) x0 (aR CF1 Tryz.f52) (aI args) h).trans ((congrFun (congrFun (eKi rec n) (aI args)) h).trans (by kernel_rfl))
noncomputable def t74 (rec : FuncId → List DV → Hp → aK) (n : Nat) (x0 x1 : DV) (h0 : Hp) : aK :=
 bnd (aF .eql x1 (.i .i64 (Int.ofNat 0)) h0) fun v1 h1 =>
 bnd (gD v1 false (some (x0, h1)) h1) fun v2 h2 =>
 bnd (gD v1 false (some (x1, h2)) h2) fun v3 h3 =>
 bnd (gD v1 false (rec 46 [v2, v3] h3) h3) fun v4 h4 =>
 bnd (aP v1 (.b true) v4 h4) fun v5 h5 =>
 some (v5, h5)
noncomputable def E74 (rec : FuncId → List DV → Hp → aK) (n : Nat) (c : Code) (X : Nat → K) (k : K) : K := aM CF1 rec 12 n c X (aR CF1 Tryz.f74) k
theorem eLm (rec : FuncId → List DV → Hp → aK) (n : Nat) : E74 rec n (cf Tryz.f74) x0 (aR CF1 Tryz.f74) = (fun (env : bB) (h : Hp) => t74 rec n (env 0) (env 1) h) :=
 (by kernel_rfl)
theorem dZm (rec : FuncId → List DV → Hp → aK) (n : Nat) (args : List DV) (h : Hp) : aE CF1 rec n 74 args h = t74 rec n (args.getD 0 aT) (args.getD 1 aT) h :=
 (by kernel_rfl : aE CF1 rec n 74 args h = E74 rec n (cf Tryz.f74) x0 (aR CF1 Tryz.f74) (aI args) h).trans ((congrFun (congrFun (eLm rec n) (aI args)) h).trans (by kernel_rfl))
noncomputable def t75 (rec : FuncId → List DV → Hp → aK) (n : Nat) (x0 : DV) (h0 : Hp) : aK :=
 bnd (rec 97 [x0, (.i .i64 (Int.ofNat 3)), (.i .i64 (Int.ofNat 131072))] h0) fun v1 h1 =>
 bnd (fR .not v1 h1) fun v2 h2 =>
 aU v2 (
  some (.t [(.i .i64 (Int.ofNat 0)), (.b false)], h2)) (
  bnd (dG .shl x0 (.i .u64 (Int.ofNat 1)) h2) fun v3 h3 =>
  some (.t [v3, (.b true)], h3))
noncomputable def E75 (rec : FuncId → List DV → Hp → aK) (n : Nat) (c : Code) (X : Nat → K) (k : K) : K := aM CF1 rec 9 n c X (aR CF1 Tryz.f76) k
theorem eIy (rec : FuncId → List DV → Hp → aK) (n : Nat) : E75 rec n (cf Tryz.f76) x0 (aR CF1 Tryz.f76) = (fun (env : bB) (h : Hp) => t75 rec n (env 0) h) :=
 (by kernel_rfl)
theorem eAk (rec : FuncId → List DV → Hp → aK) (n : Nat) (args : List DV) (h : Hp) : aE CF1 rec n 76 args h = t75 rec n (args.getD 0 aT) h :=
 (by kernel_rfl : aE CF1 rec n 76 args h = E75 rec n (cf Tryz.f76) x0 (aR CF1 Tryz.f76) (aI args) h).trans ((congrFun (congrFun (eIy rec n) (aI args)) h).trans (by kernel_rfl))
noncomputable def dWp (rec : FuncId → List DV → Hp → aK) (n : Nat) (x0 x1 : DV) (h0 : Hp) : aK :=
 bnd (rec 46 [x0, x1] h0) fun v1 h1 =>
 bnd (fR .not v1 h1) fun v2 h2 =>
 aU v2 (
  some ((.i .i64 (Int.ofNat 0)), h2)) (
  bnd (rec 99 [x1] h2) fun v3 h3 =>
  some (v3, h3))
noncomputable def eGk (rec : FuncId → List DV → Hp → aK) (n : Nat) (c : Code) (X : Nat → K) (k : K) : K := aM CF1 rec 11 n c X (aR CF1 Tryz.f85) k
theorem dYx (rec : FuncId → List DV → Hp → aK) (n : Nat) : eGk rec n (cf Tryz.f85) x0 (aR CF1 Tryz.f85) = (fun (env : bB) (h : Hp) => dWp rec n (env 0) (env 1) h) :=
 (by kernel_rfl)
theorem dNm (rec : FuncId → List DV → Hp → aK) (n : Nat) (args : List DV) (h : Hp) : aE CF1 rec n 85 args h = dWp rec n (args.getD 0 aT) (args.getD 1 aT) h :=
 (by kernel_rfl : aE CF1 rec n 85 args h = eGk rec n (cf Tryz.f85) x0 (aR CF1 Tryz.f85) (aI args) h).trans ((congrFun (congrFun (dYx rec n) (aI args)) h).trans (by kernel_rfl))
noncomputable def bLc (rec : FuncId → List DV → Hp → aK) (n : Nat) (x0 x1 x2 : DV) (h0 : Hp) : aK :=
 bnd (rec 85 [x0, x1] h0) fun v1 h1 =>
 bnd (aF .eql v1 (.i .i64 (Int.ofNat 0)) h1) fun v2 h2 =>
 aU v2 (
  some (.t [(.i .i64 (Int.ofNat 0)), (.i .i64 (Int.ofNat 1))], h2)) (
  bnd (aF .lss x2 (.i .i64 (Int.ofNat 0)) h2) fun v3 h3 =>
  bnd (gD v3 false (some (x2, h3)) h3) fun v4 h4 =>
  bnd (gD v3 false (some (x0, h4)) h4) fun v5 h5 =>
  bnd (gD v3 false (some (x1, h5)) h5) fun v6 h6 =>
  bnd (gD v3 false (rec 73 [v5, v6] h6) h6) fun v7 h7 =>
  bnd (gD v3 false (aF .geq v4 v7 h7) h7) fun v8 h8 =>
  bnd (aP v3 (.b true) v8 h8) fun v9 h9 =>
  aU v9 (
   some (.t [(.i .i64 (Int.ofNat 0)), (.i .i64 (Int.ofNat 5))], h9)) (
   bnd (aF .add v1 (.i .i64 (Int.ofNat 3)) h9) fun v10 h10 =>
   bnd (aF .add v10 x2 h10) fun v11 h11 =>
   some (.t [v11, (.i .i64 (Int.ofNat 0))], h11)))
noncomputable def eFk (rec : FuncId → List DV → Hp → aK) (n : Nat) (c : Code) (X : Nat → K) (k : K) : K := aM CF1 rec 29 n c X (aR CF1 Tryz.f89) k
theorem dYm (rec : FuncId → List DV → Hp → aK) (n : Nat) : eFk rec n (cf Tryz.f89) x0 (aR CF1 Tryz.f89) = (fun (env : bB) (h : Hp) => bLc rec n (env 0) (env 1) (env 2) h) :=
 (by kernel_rfl)
theorem aFz (rec : FuncId → List DV → Hp → aK) (n : Nat) (args : List DV) (h : Hp) : aE CF1 rec n 89 args h = bLc rec n (args.getD 0 aT) (args.getD 1 aT) (args.getD 2 aT) h :=
 (by kernel_rfl : aE CF1 rec n 89 args h = eFk rec n (cf Tryz.f89) x0 (aR CF1 Tryz.f89) (aI args) h).trans ((congrFun (congrFun (dYm rec n) (aI args)) h).trans (by kernel_rfl))
noncomputable def dVb (rec : FuncId → List DV → Hp → aK) (n : Nat) (x0 x1 x2 : DV) (h0 : Hp) : aK :=
 bnd (aF .geq x0 x1 h0) fun v1 h1 =>
 bnd (gD v1 true (some (x0, h1)) h1) fun v2 h2 =>
 bnd (gD v1 true (some (x2, h2)) h2) fun v3 h3 =>
 bnd (gD v1 true (aF .leq v2 v3 h3) h3) fun v4 h4 =>
 bnd (aP v1 v4 (.b false) h4) fun v5 h5 =>
 some (v5, h5)
noncomputable def dZc (rec : FuncId → List DV → Hp → aK) (n : Nat) (c : Code) (X : Nat → K) (k : K) : K := aM CF1 rec 15 n c X (aR CF1 Tryz.f97) k
theorem eAw (rec : FuncId → List DV → Hp → aK) (n : Nat) : dZc rec n (cf Tryz.f97) x0 (aR CF1 Tryz.f97) = (fun (env : bB) (h : Hp) => dVb rec n (env 0) (env 1) (env 2) h) :=
 (by kernel_rfl)
theorem dPt (rec : FuncId → List DV → Hp → aK) (n : Nat) (args : List DV) (h : Hp) : aE CF1 rec n 97 args h = dVb rec n (args.getD 0 aT) (args.getD 1 aT) (args.getD 2 aT) h :=
 (by kernel_rfl : aE CF1 rec n 97 args h = dZc rec n (cf Tryz.f97) x0 (aR CF1 Tryz.f97) (aI args) h).trans ((congrFun (congrFun (eAw rec n) (aI args)) h).trans (by kernel_rfl))
end Go.Dd

namespace Go.Dd
theorem rK {a b : Nat} : Nat.beq a b = decide (a = b) := by
 cases h : Nat.beq a b with
 | true => simp [Nat.eq_of_beq_eq_true h]
 | false =>
  have : a ≠ b := by intro e; subst e; simp at h
  simp [this]
theorem jY {a b : Nat} : Nat.ble a b = decide (a ≤ b) := by
 cases h : Nat.ble a b with
 | true => simp [Nat.le_of_ble_eq_true h]
 | false =>
  have : ¬ a ≤ b := by intro e; rw [Nat.ble_eq_true_of_le e] at h; cases h
  simp [this]
theorem jF {a b : Nat} : Nat.blt a b = decide (a < b) := by
 show Nat.ble (a + 1) b = _
 rw [jY]
 simp [Nat.succ_le_iff]
theorem nO (w : Int) : (jA w ≠ 0 ↔ (w % 2 = 0 ∧ 3 ≤ w / 2 ∧ w / 2 ≤ 131072)) ∧ (jA w ≠ 0 → (jA w : Int) = w / 2) ∧ jA w ≤ 131072 := by
 cases w with
 | ofNat w =>
  simp only [jA, rK, jY]
  have e1 : Nat.mod w 2 = w % 2 := rfl
  have e2 : Nat.div w 2 = w / 2 := rfl
  rw [e1, e2]
  by_cases hc : w % 2 = 0 ∧ 6 ≤ w ∧ w ≤ 262144
  ·obtain ⟨h1, h2, h3⟩ := hc
   simp only [h1, h2, h3, decide_true, Bool.and_self, cond_true]
   simp only [Int.ofNat_eq_natCast]
   refine ⟨⟨fun _ => ⟨by omega, by omega, by omega⟩, fun _ => by omega⟩, fun _ => by omega, by omega⟩
  ·have : (decide (w % 2 = 0) && (decide (6 ≤ w) && decide (w ≤ 262144))) = false := by
    rw [← Bool.not_eq_true]
    simpa using hc
   rw [this]
   simp only [cond_false, Int.ofNat_eq_natCast]
   refine ⟨⟨fun h => absurd rfl h, fun h => by omega⟩, fun h => absurd rfl h, by omega⟩
 | negSucc w =>
  simp only [jA]
  refine ⟨⟨fun h => absurd rfl h, fun h => by omega⟩, fun h => absurd rfl h, by omega⟩
theorem aUc (w : Int) : iK w = decide (w % 2 = 1 ∧ -1073741824 ≤ w / 2 ∧ w / 2 ≤ 1073741823) := by
 rw [Bool.eq_iff_iff, decide_eq_true_iff]
 cases w with
 | ofNat w =>
  simp only [iK, rK, jF, Bool.and_eq_true, decide_eq_true_eq]
  have e1 : Nat.mod w 2 = w % 2 := rfl
  rw [e1]
  simp only [Int.ofNat_eq_natCast]
  omega
 | negSucc w =>
  simp only [iK, rK, jF, Bool.and_eq_true, decide_eq_true_eq]
  have e1 : Nat.mod w 2 = w % 2 := rfl
  rw [e1]
  omega
theorem bNp (w : Int) : dIp w = w / 2 := by
 cases w with
 | ofNat w => show Int.ofNat (w / 2) = _; simp
 | negSucc w => show Int.negSucc (w / 2) = _; omega
theorem iL (a : Int) (h : -9223372036854775808 ≤ a ∧ a ≤ 9223372036854775807) : IntKind.i64.wrap a = a := by
 simp [IntKind.wrap, IntKind.signed, IntKind.bits, Int.bmod]
 omega
theorem hY (a : Int) : (BitVec.ofInt 64 a).toNat = (a % 18446744073709551616).toNat := by
 rw [BitVec.toNat_ofInt]
 rfl
theorem eKg (w : Int) : IntKind.i64.wrap (((BitVec.ofInt 64 w &&& BitVec.ofInt 64 1).toNat : Nat) : Int) = w % 2 := by
 rw [BitVec.toNat_and, hY, hY]
 rw [show ((1 : Int) % 18446744073709551616).toNat = 1 from rfl, Nat.and_one_is_mod]
 rw [iL _ (by omega)]
 omega
theorem eLv (w : Int) : IntKind.i64.wrap (((BitVec.ofInt 64 w &&& BitVec.ofInt 64 3).toNat : Nat) : Int) = w % 4 := by
 rw [BitVec.toNat_and, hY, hY]
 rw [show ((3 : Int) % 18446744073709551616).toNat = 2 ^ 2 - 1 from rfl, Nat.and_two_pow_sub_one_eq_mod]
 rw [iL _ (by omega)]
 omega
theorem dTu (a : Nat) (k b : Nat) (hb : b < 2 ^ k) (hs : a * 2 ^ k + b < 9223372036854775808) : IntKind.i64.wrap (((BitVec.ofInt 64 ((a * 2 ^ k : Nat) : Int) ||| BitVec.ofInt 64 (b : Int)).toNat : Nat) : Int) = ((a * 2 ^ k + b : Nat) : Int) := by
 have h1 : (BitVec.ofInt 64 ((a * 2 ^ k : Nat) : Int)).toNat = a * 2 ^ k := by rw [hY]; omega
 have h2 : (BitVec.ofInt 64 (b : Int)).toNat = b := by rw [hY]; omega
 rw [BitVec.toNat_or, h1, h2, Nat.mul_comm a, ← Nat.two_pow_add_eq_or_of_lt hb, Nat.mul_comm]
 exact iL _ (by omega)
theorem aRa (a : Int) (b : Int) (hb : 0 ≤ b) : a.fdiv b = a / b := Int.fdiv_eq_ediv_of_nonneg a hb
theorem fJ (k : IntKind) (a b : Int) (h : Hp) : aF .eql (.i k a) (.i k b) h = some (.b (a == b), h) := by simp only [aF, if_true, eZ]
theorem gZ (k : IntKind) (a b : Int) (h : Hp) : aF .neq (.i k a) (.i k b) h = some (.b (a != b), h) := by simp only [aF, if_true, eZ]
theorem fV (k : IntKind) (a b : Int) (h : Hp) : aF .lss (.i k a) (.i k b) h = some (.b (decide (a < b)), h) := by simp only [aF, if_true, eZ]
theorem dOp (k : IntKind) (a b : Int) (h : Hp) : aF .leq (.i k a) (.i k b) h = some (.b (decide (a ≤ b)), h) := by simp only [aF, if_true, eZ]
theorem eY (k : IntKind) (a b : Int) (h : Hp) : aF .gtr (.i k a) (.i k b) h = some (.b (decide (a > b)), h) := by simp only [aF, if_true, eZ]
theorem aAr (k : IntKind) (a b : Int) (h : Hp) : aF .geq (.i k a) (.i k b) h = some (.b (decide (a ≥ b)), h) := by simp only [aF, if_true, eZ]
theorem iT (a b : Int) (h : Hp) (hr : -9223372036854775808 ≤ a + b ∧ a + b ≤ 9223372036854775807) : aF .add (.i .i64 a) (.i .i64 b) h = some (.i .i64 (a + b), h) := by simp only [aF, if_true, eZ, iL _ hr]
theorem aXz (a b : Int) (h : Hp) (hr : -9223372036854775808 ≤ a - b ∧ a - b ≤ 9223372036854775807) : aF .sub (.i .i64 a) (.i .i64 b) h = some (.i .i64 (a - b), h) := by simp only [aF, if_true, eZ, iL _ hr]
theorem bKv (w : Int) (h : Hp) : aF .and (.i .i64 w) (.i .i64 (Int.ofNat 1)) h = some (.i .i64 (w % 2), h) := by
 have : eZ .and .i64 w (Int.ofNat 1) = some (.i .i64 (w % 2)) := by
  rw [← eKg w]; rfl
 simp only [aF, if_true, this]
theorem cUs (w : Int) (h : Hp) : aF .and (.i .i64 w) (.i .i64 (Int.ofNat 3)) h = some (.i .i64 (w % 4), h) := by
 have : eZ .and .i64 w (Int.ofNat 3) = some (.i .i64 (w % 4)) := by
  rw [← eLv w]; rfl
 simp only [aF, if_true, this]
theorem uZ (w : Int) (h : Hp) : dG .shr (.i .i64 w) (.i .u64 (Int.ofNat 1)) h = some (.i .i64 (w / 2), h) := by
 have : w.fdiv (2 ^ (min (Int.ofNat 1).toNat IntKind.i64.bits)) = w / 2 := aRa w (2 ^ 1) (by decide)
 simp only [dG, show ¬ ((Int.ofNat 1) < 0) by decide, if_false, this]
theorem cPd (w : Int) (h : Hp) : dG .shr (.i .i64 w) (.i .u64 (Int.ofNat 2)) h = some (.i .i64 (w / 4), h) := by
 have : w.fdiv (2 ^ (min (Int.ofNat 2).toNat IntKind.i64.bits)) = w / 4 := aRa w (2 ^ 2) (by decide)
 simp only [dG, show ¬ ((Int.ofNat 2) < 0) by decide, if_false, this]
theorem bIk (w : Int) (h : Hp) (hr : -4611686018427387904 ≤ w ∧ w ≤ 4611686018427387903) : dG .shl (.i .i64 w) (.i .u64 (Int.ofNat 1)) h = some (.i .i64 (2 * w), h) := by
 have : IntKind.i64.wrap (w * 2 ^ (min (Int.ofNat 1).toNat IntKind.i64.bits)) = 2 * w := by
  rw [show w * 2 ^ (min (Int.ofNat 1).toNat IntKind.i64.bits) = 2 * w from Int.mul_comm w 2]
  exact iL _ (by omega)
 simp only [dG, show ¬ ((Int.ofNat 1) < 0) by decide, if_false, this]
theorem dDv (w : Int) (h : Hp) (hr : -2305843009213693952 ≤ w ∧ w ≤ 2305843009213693951) : dG .shl (.i .i64 w) (.i .u64 (Int.ofNat 2)) h = some (.i .i64 (4 * w), h) := by
 have : IntKind.i64.wrap (w * 2 ^ (min (Int.ofNat 2).toNat IntKind.i64.bits)) = 4 * w := by
  rw [show w * 2 ^ (min (Int.ofNat 2).toNat IntKind.i64.bits) = 4 * w from Int.mul_comm w 4]
  exact iL _ (by omega)
 simp only [dG, show ¬ ((Int.ofNat 2) < 0) by decide, if_false, this]
theorem mV (r : aK) (h : Hp) : gD (.b true) true r h = r := Eq.trans rfl rfl
theorem jU (r : aK) (h : Hp) : gD (.b false) false r h = r := Eq.trans rfl rfl
theorem hC (r : aK) (h : Hp) : gD (.b true) false r h = some (aT, h) := Eq.trans rfl rfl
theorem mN (r : aK) (h : Hp) : gD (.b false) true r h = some (aT, h) := Eq.trans rfl rfl
theorem sQ (w : Bool) (r : aK) (h : Hp) : gD aT w r h = some (aT, h) := Eq.trans rfl rfl
theorem bC (v : DV) (h : Hp) (k : DV → Hp → aK) : bnd (some (v, h)) k = k v h := Eq.trans rfl rfl
theorem cI (x y : DV) (h : Hp) : aP (.b true) x y h = some (x, h) := Eq.trans rfl rfl
theorem cM (x y : DV) (h : Hp) : aP (.b false) x y h = some (y, h) := Eq.trans rfl rfl
theorem mO (b : Bool) (h : Hp) : fR .not (.b b) h = some (.b (!b), h) := Eq.trans rfl rfl
theorem dD (a b : aK) : aU (.b true) a b = a := Eq.trans rfl rfl
theorem cU (a b : aK) : aU (.b false) a b = b := Eq.trans rfl rfl
theorem g0 (a : DV) (l : List DV) : (a :: l).getD 0 aT = a := Eq.trans rfl rfl
theorem g1 (a b : DV) (l : List DV) : (a :: b :: l).getD 1 aT = b := Eq.trans rfl rfl
theorem g2 (a b c : DV) (l : List DV) : (a :: b :: c :: l).getD 2 aT = c := Eq.trans rfl rfl
theorem g3 (a b c d : DV) (l : List DV) : (a :: b :: c :: d :: l).getD 3 aT = d := Eq.trans rfl rfl
theorem bFd (n : Nat) (a b c : Int) (h : Hp) : gH CF1 (n + 1) 97 [.i .i64 a, .i .i64 b, .i .i64 c] h = some (.b (decide (b ≤ a ∧ a ≤ c)), h) := by
 rw [cB 97 rfl, dPt]
 simp only [dVb, g0, g1, g2, aAr, bC]
 by_cases h1 : b ≤ a
 ·simp only [ge_iff_le, h1, decide_true, mV, bC, dOp, cI, true_and]
 ·simp only [ge_iff_le, h1, decide_false, mN, bC, cM, false_and]
theorem dNw (n : Nat) (w : Int) (h : Hp) : gH CF1 (n + 2) 45 [.i .i64 w] h = some (.b (iK w), h) := by
 rw [cB 45 rfl, eBt]
 simp only [t54, g0, bKv, bC, fJ, aUc]
 by_cases h1 : w % 2 = 1
 ·have e : (w % 2 == Int.ofNat 1) = true := by simpa using h1
  rw [e]
  simp only [mV, bC, uZ, bFd, cI, h1, true_and]
  rfl
 ·have e : (w % 2 == Int.ofNat 1) = false := by simpa using h1
  rw [e]
  simp only [mN, bC, cM, h1, false_and, decide_false]
theorem eAc (n : Nat) (w : Int) (h : Hp) : gH CF1 (n + 2) 98 [.i .i64 w] h = some (.b (!(Nat.beq (jA w) 0)), h) := by
 rw [cB 98 rfl, dYd]
 simp only [t63, g0, bKv, bC, fJ, rK]
 have hp := (nO w).1
 by_cases h1 : w % 2 = 0
 ·have e : (w % 2 == Int.ofNat 0) = true := by simpa using h1
  rw [e]
  simp only [mV, bC, uZ, bFd, cI]
  by_cases h2 : jA w = 0
  ·have : ¬ (Int.ofNat 3 ≤ w / 2 ∧ w / 2 ≤ Int.ofNat 131072) := fun h => (hp.2 ⟨h1, h⟩) h2
   simp only [h2, this, decide_true, Bool.not_true, decide_false]
  ·have : Int.ofNat 3 ≤ w / 2 ∧ w / 2 ≤ Int.ofNat 131072 := (hp.1 h2).2
   simp only [h2, this, decide_false, Bool.not_false, and_self, decide_true]
 ·have h2 : jA w = 0 := by
   by_cases h2 : jA w = 0
   ·exact h2
   ·exact absurd (hp.1 h2).1 h1
  have e : (w % 2 == Int.ofNat 0) = false := by simpa using h1
  rw [e]
  simp only [mN, bC, cM, h2, decide_true, Bool.not_true]
theorem dZo (n : Nat) (w : Int) (h : Hp) : gH CF1 (n + 3) 99 [.i .i64 w] h = some (.i .i64 (jA w), h) := by
 rw [cB 99 rfl, eFi]
 simp only [t64, g0, eAc, bC, mO, rK]
 by_cases h2 : jA w = 0
 ·simp only [h2, decide_true, Bool.not_true, Bool.not_false, dD]; rfl
 ·have hp := (nO w).2.1 h2
  simp only [h2, decide_false, Bool.not_false, Bool.not_true, cU, uZ, bC, hp]
theorem dYr (n : Nat) (w : Int) (h : Hp) : gH CF1 (n + 2) 88 [.i .i64 w] h = some (if -1073741824 ≤ w ∧ w ≤ 1073741823 then .t [.i .i64 (2 * w + 1), .b true] else .t [.i .i64 0, .b false], h) := by
 rw [cB 88 rfl, eHc]
 simp only [t60, g0, bFd, bC, mO]
 by_cases h1 : -1073741824 ≤ w ∧ w ≤ 1073741823
 ·have h1' : Int.negSucc 1073741823 ≤ w ∧ w ≤ Int.ofNat 1073741823 := h1
  rw [if_pos h1]
  simp only [h1', decide_true, and_self, cU, Bool.not_true]
  rw [bIk w h (by omega)]
  have hb : eZ .or .i64 (2 * w) (Int.ofNat 1) = some (.i .i64 (2 * w + 1)) := by
   have : IntKind.i64.wrap (((BitVec.ofInt 64 (2 * w) ||| BitVec.ofInt 64 (Int.ofNat 1)).toNat : Nat) : Int) = 2 * w + 1 := by
    rw [BitVec.toNat_or, hY, hY]
    rw [show ((Int.ofNat 1) % 18446744073709551616).toNat = 1 from rfl]
    obtain ⟨q, hq⟩ : ∃ q : Nat, ((2 * w) % 18446744073709551616).toNat = 2 ^ 1 * q := ⟨((2 * w) % 18446744073709551616).toNat / 2, by omega⟩
    rw [hq, ← Nat.two_pow_add_eq_or_of_lt (show 1 < 2 ^ 1 by omega)]
    rw [← hq]
    simp [IntKind.wrap, IntKind.signed, IntKind.bits, Int.bmod]
    omega
   rw [← this]; rfl
  simp only [bC, aF, if_true, hb]
 ·have h1' : ¬ (Int.negSucc 1073741823 ≤ w ∧ w ≤ Int.ofNat 1073741823) := h1
  rw [if_neg h1]
  simp only [h1', decide_false, dD, Bool.not_false]
  rfl
theorem eLf (n : Nat) (w : Int) (h : Hp) : gH CF1 (n + 3) 122 [.i .i64 w] h = some (if iK w then .i .i64 (w / 2) else .i .i64 0, h) := by
 rw [cB 122 rfl, eCt]
 simp only [t62, g0, dNw, bC, mO]
 cases iK w with
 | false => rfl
 | true => simp only [Bool.not_true, cU, uZ, bC, if_true]
theorem eHu (n : Nat) (a : Int) (h : Hp) : gH CF1 (n + 2) 76 [.i .i64 a] h = some (if 3 ≤ a ∧ a ≤ 131072 then .t [.i .i64 (2 * a), .b true] else .t [.i .i64 0, .b false], h) := by
 rw [cB 76 rfl, eAk]
 simp only [t75, g0, bFd, bC, mO]
 by_cases h1 : 3 ≤ a ∧ a ≤ 131072
 ·have h1' : Int.ofNat 3 ≤ a ∧ a ≤ Int.ofNat 131072 := h1
  rw [if_pos h1]
  simp only [h1', decide_true, and_self, cU, Bool.not_true]
  rw [bIk a h (by omega)]
  rfl
 ·have h1' : ¬ (Int.ofNat 3 ≤ a ∧ a ≤ Int.ofNat 131072) := h1
  rw [if_neg h1]
  simp only [h1', decide_false, dD, Bool.not_false]
  rfl
end Go.Dd

namespace Go.Dd
structure ML (m : Pos) (M : MemV) (h : Hp) : Prop where
 row : h.bl.get m = some (.row .ex [.l M.wb 0 M.n M.n, .i .i64 (Int.ofNat M.fin), .i .i64 (Int.ofNat M.made), .m M.pb])
 words : h.bl.get M.wb = some (.row .ex (iM M.n M.t))
 places : ∃ es, h.bl.get M.pb = some (.mp es) ∧ ∀ a : Int, dR (.int .i64) (.i .i64 a) es = some (if 0 ≤ a ∧ M.pl.get a.toNat ≠ 0 then some (.b true) else none)
 n_lt : M.n < 1000000
 fin_le : M.fin ≤ M.n
 made_lt : M.made < 2000000
 d1 : m ≠ M.wb
 d2 : m ≠ M.pb
 d3 : M.wb ≠ M.pb
theorem sY {m : Pos} {M : MemV} {h : Hp} (hm : mE m h = some M) :
  h.bl.get m = some (.row .ex [.l M.wb 0 M.n M.n, .i .i64 (Int.ofNat M.fin), .i .i64 (Int.ofNat M.made), .m M.pb]) ∧ h.bl.get M.wb = some (.big M.n M.t) ∧ h.bl.get M.pb = some (.mi M.pl) ∧ M.n < 1000000 ∧ M.fin ≤ M.n ∧ M.made < 1000000 := by
 unfold mE at hm
 split at hm <;> (try (cases hm; done))
 rename_i wb n c fin made pb hr
 split at hm <;> (try (cases hm; done))
 rename_i n' t pl h1 h2
 cases hb : (Nat.beq n n' && Nat.beq n c) with
 | false => rw [hb] at hm; cases hm
 | true =>
  rw [hb] at hm
  simp only [cond_true] at hm
  cases hc : (Nat.blt n 1000000 && (Nat.ble fin n && Nat.blt made 1000000)) with
  | false => rw [hc] at hm; cases hm
  | true =>
   rw [hc] at hm
   simp only [cond_true, bH] at hm
   subst hm
   simp only [rK, jY, jF, Bool.and_eq_true, decide_eq_true_eq] at hb hc
   obtain ⟨rfl, rfl⟩ := hb
   exact ⟨hr, h1, h2, hc.1, hc.2.1, hc.2.2⟩
theorem fX {m : Pos} {M : MemV} {h h' : Hp} (hm : mE m h = some M) (S : Sim false h h') : ML m M h' := by
 obtain ⟨h1, h2, h3, h4, h5, h6⟩ := sY hm
 refine ⟨S.row h1, ?_, ?_, h4, h5, by omega, fun e => by (rw [e, h2] at h1; cases h1), fun e => by (rw [e, h3] at h1; cases h1), fun e => by (rw [e, h3] at h2; cases h2)⟩
 ·obtain ⟨o', e1, e2⟩ := S.get _ _ h2
  have e2' : o' = .row .ex (iM M.n M.t) := by simpa [aD, xR] using e2
  rw [e1, e2']
 ·obtain ⟨o', e1, e2⟩ := S.get _ _ h3
  have e2' : ∃ es, o' = .mp es ∧ ∀ a : Int, dR (.int .i64) (.i .i64 a) es = some (if 0 ≤ a ∧ M.pl.get a.toNat ≠ 0 then some (.b true) else none) := by simpa [aD, xR] using e2
  obtain ⟨es, rfl, e3⟩ := e2'
  exact ⟨es, e1, e3⟩
section
variable {m : Pos} {M : MemV} {h : Hp}
theorem iA (b : Pos) (o : Nat) (h : Hp) : aQ (.p b o) h = some (.p b o, h) := Eq.trans rfl rfl
theorem eJ (k : Nat) (b : Pos) (o : Nat) (h : Hp) : aB k (.p b o) h = some (.p b (o + k), h) := Eq.trans rfl rfl
theorem ML.l0 (H : ML m M h) : aA (.p m (0 + 0)) h = some (.l M.wb 0 M.n M.n, h) := by
 simp [aA, cellD, rowOf, H.row, DV.one]
theorem ML.l1 (H : ML m M h) : aA (.p m (0 + 1)) h = some (.i .i64 (Int.ofNat M.fin), h) := by
 simp [aA, cellD, rowOf, H.row, DV.one]
theorem ML.l2 (H : ML m M h) : aA (.p m (0 + 2)) h = some (.i .i64 (Int.ofNat M.made), h) := by
 simp [aA, cellD, rowOf, H.row, DV.one]
theorem ML.l3 (H : ML m M h) : aA (.p m (0 + 3)) h = some (.m M.pb, h) := by
 simp [aA, cellD, rowOf, H.row, DV.one]
theorem kZ {n : Nat} {t : WT} {i : Nat} (h : i < n) : (iM n t)[i]? = some (.i .i64 (t.get i)) := by
 simp [iM, h]
theorem ML.ix (H : ML m M h) {a : Nat} (ha : a < M.n) : aJ 1 (.l M.wb 0 M.n M.n) (.i .i64 (a : Int)) h = some (.p M.wb a, h) := by
 have : (0 : Int) ≤ (a : Int) ∧ (a : Int) < (M.n : Int) := by omega
 simp [aJ, this]
theorem ML.ld (H : ML m M h) {a : Nat} (ha : a < M.n) : aA (.p M.wb a) h = some (.i .i64 (M.t.get a), h) := by
 simp [aA, cellD, rowOf, H.words, kZ ha, DV.one]
theorem mG (o : Int) (pl : WT) : cE o pl = 0 ∨ (cE o pl = jA o ∧ jA o ≠ 0) := by
 unfold cE
 by_cases h0 : jA o = 0
 ·simp [h0, rK]
 ·simp only [rK, h0, decide_false, cond_false]
  split
  ·exact .inl rfl
  ·exact .inr ⟨rfl, h0⟩
theorem atN_pos {o : Int} {pl : WT} : (cE o pl ≠ 0) ↔ (jA o ≠ 0 ∧ pl.get (jA o) ≠ 0) := by
 unfold cE
 by_cases h0 : jA o = 0
 ·simp [h0, rK]
 ·simp only [rK, h0, decide_false, cond_false]
  split
  ·rename_i e; simp [e]
  ·rename_i e
   refine ⟨fun _ => ⟨h0, fun e' => e (by rw [e']; rfl)⟩, fun _ => h0⟩
theorem ML.lookup (H : ML m M h) (a : Nat) : dV (.int .i64) (.b false) false (.m M.pb) (.i .i64 (a : Int)) h = some (.b (decide (M.pl.get a ≠ 0)), h) := by
 obtain ⟨es, h1, h2⟩ := H.places
 have := h2 a
 simp only [Int.toNat_natCast] at this
 simp only [dV, gG, h1, this]
 by_cases hc : M.pl.get a = 0
 ·simp [hc]
 ·simp [hc]
theorem mH {r : aK} {v : DV} {h : Hp} (hr : r = some (v, h)) (hv : DV.beq v v = true) : aX r v = true := by
 rw [hr]; exact hv
theorem eCx (b : Pos) : DV.beq (.m b) (.m b) = true := by simp [DV.beq]
theorem cCy (b : Pos) (o n c : Nat) : DV.beq (.l b o n c) (.l b o n c) = true := by simp [DV.beq]
theorem cYy (H : ML m M h) (n : Nat) (w : Int) : gH CF1 (n + 4) 46 [.p m 0, .i .i64 w] h = some (.b (!(Nat.beq (cE w M.pl) 0)), h) := by
 rw [cB 46 rfl, eCa]
 simp only [t21, g0, g1, eAc, bC, rK]
 by_cases h0 : jA w = 0
 ·have : cE w M.pl = 0 := by
   rcases mG w M.pl with e | ⟨e, e'⟩
   ·exact e
   ·exact absurd h0 e'
  simp only [h0, decide_true, Bool.not_true, mN, bC, this]
  simp [aX, aT, DV.beq, eNb, cnd, bnd, aP]
 ·simp only [h0, decide_false, Bool.not_false, mV, bC, iA, eJ, H.l3, dZo]
  rw [mH rfl (eCx _), Bool.and_self]
  simp only [cnd, H.lookup, bC, cI]
  by_cases h1 : M.pl.get (jA w) = 0
  ·have : cE w M.pl = 0 := by
    by_cases e : cE w M.pl = 0
    ·exact e
    ·exact absurd h1 (atN_pos.1 e).2
   simp [h1, this]
  ·have : cE w M.pl ≠ 0 := atN_pos.2 ⟨h0, h1⟩
   simp [h1, this]
theorem eKm (H : ML m M h) (n : Nat) : gH CF1 (n + 1) 94 [.p m 0] h = some (.i .i64 (Int.ofNat M.n), h) := by
 rw [cB 94 rfl, eDn]
 simp only [t22, g0, bC, iA, eJ, H.l0]
 rfl
theorem eFl (H : ML m M h) (n : Nat) : gH CF1 (n + 1) 75 [.p m 0] h = some (.i .i64 (Int.ofNat (M.n - M.fin)), h) := by
 rw [cB 75 rfl, dXj]
 have h1 := H.n_lt
 have h2 := H.fin_le
 have e : bO (.l M.wb 0 M.n M.n) h = some (.i .i64 (M.n : Int), h) := rfl
 simp only [t29, g0, bC, iA, eJ, H.l0, H.l1, e]
 rw [aXz _ _ _ (by simp only [Int.ofNat_eq_natCast]; omega)]
 simp only [bC]
 congr 3
 simp only [Int.ofNat_eq_natCast]
 omega
theorem eEv (H : ML m M h) (n : Nat) (w : Int) : gH CF1 (n + 5) 18 [.p m 0, .i .i64 w] h = some (.b (lO w M.pl), h) := by
 rw [cB 18 rfl, eCz]
 have hm : lO w M.pl = (decide (w = 0) || (decide (w = 2) || (decide (w = 4) || (iK w || !(Nat.beq (cE w M.pl) 0))))) := by
  unfold lO
  split
  ·simp
  ·simp
  ·simp
  ·rename_i h1 h2 h3
   have e1 : w ≠ 0 := fun e => h1 (by rw [e]; rfl)
   have e2 : w ≠ 2 := fun e => h2 (by rw [e]; rfl)
   have e3 : w ≠ 4 := fun e => h3 (by rw [e]; rfl)
   simp [e1, e2, e3]
 rw [hm]
 simp only [t20, g0, g1, fJ, bC]
 have b0 : (w == Int.ofNat 0) = decide (w = 0) := rfl
 have b2 : (w == Int.ofNat 2) = decide (w = 2) := rfl
 have b4 : (w == Int.ofNat 4) = decide (w = 4) := rfl
 rw [b0]
 cases decide (w = 0) with
 | true => simp only [hC, bC, cI, Bool.true_or]
 | false =>
  simp only [jU, bC, fJ, cM, b2, Bool.false_or]
  cases decide (w = 2) with
  | true => simp only [hC, bC, cI, Bool.true_or]
  | false =>
   simp only [jU, bC, fJ, cM, b4, Bool.false_or]
   cases decide (w = 4) with
   | true => simp only [hC, bC, cI, Bool.true_or]
   | false =>
    simp only [jU, bC, dNw, cM, Bool.false_or]
    cases iK w with
    | true => simp only [hC, bC, cI, Bool.true_or]
    | false => simp only [jU, bC, cYy H, cM, Bool.false_or]
theorem eFa (H : ML m M h) (n : Nat) (w : Int) : gH CF1 (n + 5) 74 [.p m 0, .i .i64 w] h = some (.b (rT w M.pl), h) := by
 rw [cB 74 rfl, dZm]
 have hm : rT w M.pl = (decide (w = 0) || !(Nat.beq (cE w M.pl) 0)) := by
  unfold rT
  split
  ·simp
  ·rename_i h1
   have e1 : w ≠ 0 := fun e => h1 (by rw [e]; rfl)
   simp [e1]
 rw [hm]
 have b0 : (w == Int.ofNat 0) = decide (w = 0) := rfl
 simp only [t74, g0, g1, fJ, bC, b0]
 cases decide (w = 0) with
 | true => simp only [hC, bC, cI, Bool.true_or]
 | false => simp only [jU, bC, cYy H, cM, Bool.false_or]
theorem tT (H : ML m M h) (n : Nat) (w : Int) : gH CF1 (n + 5) 85 [.p m 0, .i .i64 w] h = some (.i .i64 (cE w M.pl), h) := by
 rw [cB 85 rfl, dNm]
 simp only [dWp, g0, g1, cYy H, bC, mO, rK]
 rcases mG w M.pl with e | ⟨e, e'⟩
 ·simp only [e, decide_true, Bool.not_true, Bool.not_false, dD]; rfl
 ·simp only [e, e', decide_false, Bool.not_false, Bool.not_true, cU, dZo, bC]
theorem xC {o : Int} {k : Nat → aK} {r : DV × Hp} (hh : jJ M o k = some r) : cE o M.pl + 1 < M.n ∧ ∃ hd, M.t.get (cE o M.pl) = Int.ofNat hd ∧ hd < 1000000000000 ∧ k hd = some r := by
 unfold jJ at hh
 cases hb : Nat.blt (Nat.add (cE o M.pl) 1) M.n with
 | false => rw [hb] at hh; cases hh
 | true =>
  rw [hb] at hh
  simp only [cond_true] at hh
  simp only [jF, decide_eq_true_eq] at hb
  split at hh <;> (try (cases hh; done))
  rename_i hd he
  cases hc : Nat.blt hd 1000000000000 with
  | false => rw [hc] at hh; cases hh
  | true =>
   rw [hc] at hh
   simp only [jF, decide_eq_true_eq] at hc
   exact ⟨hb, hd, he, hc, hh⟩
theorem eJm (H : ML m M h) (n : Nat) (o : Int) (ho : cE o M.pl + 1 < M.n) : gH CF1 (n + 6) 104 [.p m 0, .i .i64 o] h = some (.i .i64 (M.t.get (cE o M.pl + 1)), h) := by
 rw [cB 104 rfl, dZb]
 have hn := H.n_lt
 simp only [t50, g0, g1, bC, iA, eJ, H.l0, tT H]
 rw [mH rfl (cCy _ _ _ _), Bool.and_self]
 simp only [cnd]
 rw [iT _ _ _ (by simp only [Int.ofNat_eq_natCast]; omega)]
 have e : (cE o M.pl : Int) + Int.ofNat 1 = ((cE o M.pl + 1 : Nat) : Int) := by simp
 simp only [bC, e, H.ix ho, H.ld ho]
theorem dYu (H : ML m M h) (n : Nat) (o : Int) (ho : cE o M.pl < M.n) : gH CF1 (n + 6) 90 [.p m 0, .i .i64 o] h = some (.i .i64 (M.t.get (cE o M.pl) % 4), h) := by
 rw [cB 90 rfl, eCj]
 simp only [t51, g0, g1, bC, iA, eJ, H.l0, tT H]
 rw [mH rfl (cCy _ _ _ _), Bool.and_self]
 simp only [cnd, bC, H.ix ho, H.ld ho, cUs]
theorem eFc (H : ML m M h) (n : Nat) (o : Int) (ho : cE o M.pl < M.n) : gH CF1 (n + 6) 73 [.p m 0, .i .i64 o] h = some (.i .i64 (M.t.get (cE o M.pl) / 4), h) := by
 rw [cB 73 rfl, dZf]
 simp only [t52, g0, g1, bC, iA, eJ, H.l0, tT H]
 rw [mH rfl (cCy _ _ _ _), Bool.and_self]
 simp only [cnd, bC, H.ix ho, H.ld ho, cPd]
end
end Go.Dd

namespace Go.Dd
section
variable {m : Pos} {M : MemV} {h : Hp}
theorem cHp (H : ML m M h) {o i : Int} {bad : Nat → aK} {k : Nat → Nat → aK} {r : DV × Hp} (hf : iG M o i bad k = some r) :
  (∃ e : Nat, e ≠ 0 ∧ bad e = some r ∧ ∀ n, gH CF1 (n + 7) 89 [.p m 0, .i .i64 o, .i .i64 i] h = some (.t [.i .i64 (Int.ofNat 0), .i .i64 (Int.ofNat e)], h)) ∨
  (∃ hd a : Nat, cE o M.pl ≠ 0 ∧ a < M.n ∧ cE o M.pl + 1 < M.n ∧ M.t.get (cE o M.pl) = Int.ofNat hd ∧ k hd a = some r ∧ ∀ n, gH CF1 (n + 7) 89 [.p m 0, .i .i64 o, .i .i64 i] h = some (.t [.i .i64 (a : Int), .i .i64 (Int.ofNat 0)], h)) := by
 have hn := H.n_lt
 unfold iG at hf
 rw [rK] at hf
 by_cases h0 : cE o M.pl = 0
 ·simp only [h0, decide_true, cond_true] at hf
  refine .inl ⟨1, by omega, hf, fun n => ?_⟩
  rw [cB 89 rfl, aFz]
  simp only [bLc, g0, g1, g2, tT H, bC, fJ, h0]
  rfl
 ·simp only [h0, decide_false, cond_false] at hf
  have e0 : ((cE o M.pl : Int) == Int.ofNat 0) = false := by simpa using h0
  cases i with
  | negSucc i =>
   refine .inl ⟨5, by omega, hf, fun n => ?_⟩
   rw [cB 89 rfl, aFz]
   have hlt : decide (Int.negSucc i < Int.ofNat 0) = true := decide_eq_true (Int.negSucc_lt_zero i)
   simp only [bLc, g0, g1, g2, tT H, bC, fJ, e0, cU, fV, hlt, hC, cI, dD]
  | ofNat i =>
   dsimp only at hf
   obtain ⟨h1, hd, h2, h3, h4⟩ := xC hf
   rw [jY] at h4
   have hlt : decide (Int.ofNat i < Int.ofNat 0) = false := by simp
   have h52 := fun n => eFc H n o (show cE o M.pl < M.n by omega)
   rw [h2] at h52
   by_cases hi : Nat.div hd 4 ≤ i
   ·simp only [hi, decide_true, cond_true] at h4
    refine .inl ⟨5, by omega, h4, fun n => ?_⟩
    rw [cB 89 rfl, aFz]
    have hge : decide (Int.ofNat i ≥ Int.ofNat hd / 4) = true := by
     have : hd / 4 ≤ i := hi
     simp only [decide_eq_true_eq, Int.ofNat_eq_natCast]
     omega
    simp only [bLc, g0, g1, g2, tT H, bC, fJ, e0, cU, fV, hlt, jU, h52, aAr, hge, cM, dD]
   ·simp only [hi, decide_false, cond_false] at h4
    rw [jF] at h4
    by_cases ha : Nat.add (Nat.add (cE o M.pl) 3) i < M.n
    ·simp only [ha, decide_true, cond_true] at h4
     have ha' : cE o M.pl + 3 + i < M.n := ha
     refine .inr ⟨hd, _, h0, ha, h1, h2, h4, fun n => ?_⟩
     rw [cB 89 rfl, aFz]
     have hge : decide (Int.ofNat i ≥ Int.ofNat hd / 4) = false := by
      have : ¬ hd / 4 ≤ i := hi
      simp only [decide_eq_false_iff_not, Int.ofNat_eq_natCast]
      omega
     simp only [bLc, g0, g1, g2, tT H, bC, fJ, e0, cU, fV, hlt, jU, h52, aAr, hge, cM]
     rw [iT _ _ _ (by simp only [Int.ofNat_eq_natCast]; omega)]
     simp only [bC]
     rw [iT _ _ _ (by simp only [Int.ofNat_eq_natCast]; omega)]
     simp only [bC]
     congr 4
    ·simp only [ha, decide_false, cond_false] at h4
     cases h4
theorem cMx (a b : DV) (h : Hp) : aH 0 (.t [a, b]) h = some (a, h) := Eq.trans rfl rfl
theorem cAc (a b : DV) (h : Hp) : aH 1 (.t [a, b]) h = some (b, h) := Eq.trans rfl rfl
theorem dHz {e : Nat} (he : e ≠ 0) : (Int.ofNat e != Int.ofNat 0) = true := by
 simpa using he
theorem ML.put (H : ML m M h) {a : Nat} (ha : a < M.n) (w : Int) : aC 1 (.p M.wb a) (.i .i64 w) h = some (aT, ⟨h.next, Tr.set (.row .ex (iM M.n (M.t.set a w))) M.wb h.bl⟩) := by
 have hput : ∀ (n : Nat) (l : List DV) (x : DV), (∀ v ∈ l, v.one = true) → x.one = true → n < l.length → gL n l [x] = some (l.set n x) := by
  intro n
  induction n with
  | zero =>
   intro l x hl hx hlt
   cases l with
   | nil => simp at hlt
   | cons y l =>
    have hp : lP l [] = some l := by cases l <;> rfl
    simp [gL, lP, hl y (by simp), hx, hp]
  | succ n ih =>
   intro l x hl hx hlt
   cases l with
   | nil => simp at hlt
   | cons y l =>
    simp only [gL, List.set_cons_succ]
    rw [ih l x (fun v hv => hl v (by simp [hv])) hx (by simpa using hlt)]
    rfl
 have hb : ∀ v ∈ iM M.n M.t, v.one = true := by
  intro v hv
  simp only [iM, List.mem_map] at hv
  obtain ⟨i, _, rfl⟩ := hv
  rfl
 have hlen : (iM M.n M.t).length = M.n := by simp [iM]
 have hset : (iM M.n M.t).set a (.i .i64 w) = iM M.n (M.t.set a w) := by
  apply List.ext_getElem?
  intro i
  rw [List.getElem?_set]
  by_cases hi : i < M.n
  ·rw [kZ hi, kZ hi, WT.get_set M.t a w i (by have := H.n_lt; omega)]
   by_cases e : a = i
   ·subst e
    simp [hlen, hi]
   ·rw [if_neg e, if_neg (by omega)]
  ·have h1 : (iM M.n M.t)[i]? = none := List.getElem?_eq_none (by omega)
   have h2 : (iM M.n (M.t.set a w))[i]? = none := List.getElem?_eq_none (by simp [iM]; omega)
   rw [h2]
   split
   ·rename_i e; subst e; rw [if_neg (by omega)]
   ·exact h1
 simp only [aC, dE, List.length_singleton, if_true, cQ, H.words, Kind.writable]
 rw [hput a _ _ hb rfl (by omega), hset]
theorem eHm (H : ML m M h) {o i : Int} {k : Nat → aK} {kk : Nat → Nat → aK} {r : DV × Hp} (hf : iG M o i k kk = some r) :
  (∃ e : Nat, k e = some r ∧ ∀ n, gH CF1 (n + 8) 52 [.p m 0, .i .i64 o, .i .i64 i] h = some (.t [.i .i64 (Int.ofNat 0), .i .i64 (Int.ofNat e)], h)) ∨
  (∃ hd a : Nat, kk hd a = some r ∧ ∀ n, gH CF1 (n + 8) 52 [.p m 0, .i .i64 o, .i .i64 i] h = some (.t [.i .i64 (M.t.get a), .i .i64 (Int.ofNat 0)], h)) := by
 rcases cHp H hf with ⟨e, he, h1, h2⟩ | ⟨hd, a, h0, h1, h2, h3, h4, h5⟩
 ·refine .inl ⟨e, h1, fun n => ?_⟩
  rw [cB 52 rfl, dIv]
  simp only [t73, g0, g1, g2, h2, bC, cMx, cAc, gZ, dHz he, dD]
 ·refine .inr ⟨hd, a, h4, fun n => ?_⟩
  rw [cB 52 rfl, dIv]
  have e0 : (Int.ofNat 0 != Int.ofNat 0) = false := rfl
  simp only [t73, g0, g1, g2, h5, bC, cMx, cAc, gZ, e0, cU, iA, eJ, H.l0, H.ix h1, H.ld h1]
end
theorem eX {args : List DV} {h : Hp} {k : MemV → List DV → aK} {r : DV × Hp} (hr : kE args h k = some r) :
  ∃ m rest M, args = .p m 0 :: rest ∧ mE m h = some M ∧ k M rest = some r := by
 unfold kE at hr
 split at hr <;> (try (cases hr; done))
 rename_i m rest
 split at hr <;> (try (cases hr; done))
 rename_i M hM
 exact ⟨m, rest, M, rfl, hM, hr⟩
theorem dUi (n : Nat) (args : List DV) : SimP false (isF args) (gH CF1 (n + 12) 46 args) := fun h h' S v k e => by
 obtain ⟨m, rest, M, rfl, hM, e⟩ := eX e
 split at e <;> (try (cases e; done))
 simp only [bH, bN] at e
 obtain ⟨rfl, rfl⟩ := e
 exact ⟨h', cYy (fX hM S) (n + 8) _, S⟩
theorem cZw (n : Nat) (args : List DV) : SimP false (cFr args) (gH CF1 (n + 12) 18 args) := fun h h' S v k e => by
 obtain ⟨m, rest, M, rfl, hM, e⟩ := eX e
 split at e <;> (try (cases e; done))
 simp only [bH, bN] at e
 obtain ⟨rfl, rfl⟩ := e
 exact ⟨h', eEv (fX hM S) (n + 7) _, S⟩
theorem cGc (n : Nat) (args : List DV) : SimP false (kG args) (gH CF1 (n + 12) 94 args) := fun h h' S v k e => by
 obtain ⟨m, rest, M, rfl, hM, e⟩ := eX e
 split at e <;> (try (cases e; done))
 simp only [bH, bN] at e
 obtain ⟨rfl, rfl⟩ := e
 exact ⟨h', eKm (fX hM S) (n + 11), S⟩
theorem cHj (n : Nat) (args : List DV) : SimP false (bJg args) (gH CF1 (n + 12) 75 args) := fun h h' S v k e => by
 obtain ⟨m, rest, M, rfl, hM, e⟩ := eX e
 split at e <;> (try (cases e; done))
 simp only [bH, bN] at e
 obtain ⟨rfl, rfl⟩ := e
 exact ⟨h', eFl (fX hM S) (n + 11), S⟩
theorem bQh (n : Nat) (args : List DV) : SimP false (kV args) (gH CF1 (n + 12) 104 args) := fun h h' S v k e => by
 obtain ⟨m, rest, M, rfl, hM, e⟩ := eX e
 split at e <;> (try (cases e; done))
 obtain ⟨h1, hd, h2, h3, e⟩ := xC e
 simp only [bH, bN] at e
 obtain ⟨rfl, rfl⟩ := e
 exact ⟨h', eJm (fX hM S) (n + 6) _ h1, S⟩
theorem aXe (n : Nat) (args : List DV) : SimP false (nY args) (gH CF1 (n + 12) 90 args) := fun h h' S v k e => by
 obtain ⟨m, rest, M, rfl, hM, e⟩ := eX e
 split at e <;> (try (cases e; done))
 obtain ⟨h1, hd, h2, h3, e⟩ := xC e
 simp only [bH, bN] at e
 obtain ⟨rfl, rfl⟩ := e
 refine ⟨h', ?_, S⟩
 rw [dYu (fX hM S) (n + 6) _ (by omega), h2]
 rfl
theorem aTl (n : Nat) (args : List DV) : SimP false (jO args) (gH CF1 (n + 12) 73 args) := fun h h' S v k e => by
 obtain ⟨m, rest, M, rfl, hM, e⟩ := eX e
 split at e <;> (try (cases e; done))
 obtain ⟨h1, hd, h2, h3, e⟩ := xC e
 simp only [bH, bN] at e
 obtain ⟨rfl, rfl⟩ := e
 refine ⟨h', ?_, S⟩
 rw [eFc (fX hM S) (n + 6) _ (by omega), h2]
 rfl
theorem dFk (n : Nat) (args : List DV) : SimP false (aPt args) (gH CF1 (n + 12) 52 args) := fun h h' S v k e => by
 obtain ⟨m, rest, M, rfl, hM, e⟩ := eX e
 split at e <;> (try (cases e; done))
 rename_i o i
 rcases eHm (fX hM S) e with ⟨er, e1, e2⟩ | ⟨hd, a, e1, e2⟩
 ·simp only [err, bH, bN] at e1
  obtain ⟨rfl, rfl⟩ := e1
  exact ⟨h', e2 (n + 4), S⟩
 ·simp only [bH, bN] at e1
  obtain ⟨rfl, rfl⟩ := e1
  exact ⟨h', e2 (n + 4), S⟩
theorem aRx (n : Nat) (args : List DV) : SimP false (jC args) (gH CF1 (n + 12) 45 args) := fun h h' S v k e => by
 unfold jC at e
 split at e <;> (try (cases e; done))
 simp only [bH, bN] at e
 obtain ⟨rfl, rfl⟩ := e
 exact ⟨h', dNw (n + 10) _ h', S⟩
theorem bOw (n : Nat) (args : List DV) : SimP false (mF args) (gH CF1 (n + 12) 122 args) := fun h h' S v k e => by
 unfold mF at e
 split at e <;> (try (cases e; done))
 rename_i w
 have hc := eLf (n + 9) w h'
 cases hs : iK w with
 | true =>
  rw [hs] at e hc
  simp only [cond_true, bH, bN] at e
  obtain ⟨rfl, rfl⟩ := e
  exact ⟨h', by rw [hc, bNp]; rfl, S⟩
 | false =>
  rw [hs] at e hc
  simp only [cond_false, bH, bN] at e
  obtain ⟨rfl, rfl⟩ := e
  exact ⟨h', by rw [hc]; rfl, S⟩
theorem bOe (n : Nat) (args : List DV) : SimP false (mW args) (gH CF1 (n + 12) 88 args) := fun h h' S v k e => by
 unfold mW at e
 split at e <;> (try (cases e; done))
 ·rename_i w
  have hc := dYr (n + 10) (Int.ofNat w) h'
  rw [jF] at e
  by_cases hw : w < 1073741824
  ·simp only [hw, decide_true, cond_true, bH, bN] at e
   obtain ⟨rfl, rfl⟩ := e
   rw [if_pos (by simp only [Int.ofNat_eq_natCast]; omega)] at hc
   refine ⟨h', ?_, S⟩
   rw [hc]
   have : 2 * Int.ofNat w + 1 = Int.ofNat (Nat.succ (Nat.mul w 2)) := by
    have : Nat.mul w 2 = w * 2 := rfl
    rw [this]
    simp only [Int.ofNat_eq_natCast]; omega
   rw [this]
  ·simp only [hw, decide_false, cond_false, bH, bN] at e
   obtain ⟨rfl, rfl⟩ := e
   rw [if_neg (by simp only [Int.ofNat_eq_natCast]; omega)] at hc
   exact ⟨h', by rw [hc]; rfl, S⟩
 ·rename_i w
  have hc := dYr (n + 10) (Int.negSucc w) h'
  rw [jF] at e
  by_cases hw : w < 1073741824
  ·simp only [hw, decide_true, cond_true, bH, bN] at e
   obtain ⟨rfl, rfl⟩ := e
   rw [if_pos (by omega)] at hc
   refine ⟨h', ?_, S⟩
   rw [hc]
   have : 2 * Int.negSucc w + 1 = Int.negSucc (Nat.mul w 2) := by
    have : Nat.mul w 2 = w * 2 := rfl
    rw [this]; omega
   rw [this]
  ·simp only [hw, decide_false, cond_false, bH, bN] at e
   obtain ⟨rfl, rfl⟩ := e
   rw [if_neg (by omega)] at hc
   exact ⟨h', by rw [hc]; rfl, S⟩
end Go.Dd

namespace Go.Dd
def Oth (m wb pb : Pos) (h h1 : Hp) : Prop := h1.next = h.next ∧ ∀ b, b ≠ m → b ≠ wb → b ≠ pb → h1.bl.get b = h.bl.get b
theorem Oth.refl (m wb pb : Pos) (h : Hp) : Oth m wb pb h h := ⟨rfl, fun _ _ _ _ => rfl⟩
theorem Oth.trans {m wb pb : Pos} {a b c : Hp} (h : Oth m wb pb a b) (k : Oth m wb pb b c) : Oth m wb pb a c := ⟨k.1.trans h.1, fun x h1 h2 h3 => (k.2 x h1 h2 h3).trans (h.2 x h1 h2 h3)⟩
section
variable {m : Pos} {M : MemV} {h : Hp}
def bVm (M : MemV) : Ob := .row .ex [.l M.wb 0 M.n M.n, .i .i64 (Int.ofNat M.fin), .i .i64 (Int.ofNat M.made), .m M.pb]
theorem ML.setM (H : ML m M h) (M' : MemV) (e1 : M'.wb = M.wb) (e2 : M'.pb = M.pb) (e3 : M'.n = M.n) (e4 : M'.t = M.t) (e5 : M'.pl = M.pl) (h1 : M'.fin ≤ M.n) (h2 : M'.made < 2000000) :
  ML m M' ⟨h.next, Tr.set (bVm M') m h.bl⟩ ∧ Oth m M.wb M.pb h ⟨h.next, Tr.set (bVm M') m h.bl⟩ := by
 refine ⟨⟨by rw [eMi]; rfl, ?_, ?_, by rw [e3]; exact H.n_lt, by rw [e3]; exact h1, h2, by rw [e1]; exact H.d1, by rw [e2]; exact H.d2, by rw [e1, e2]; exact H.d3⟩, rfl, fun b h1 _ _ => eMh _ _ _ _ h1⟩
 ·rw [e1, e3, e4, eMh _ _ _ _ (Ne.symm H.d1)]; exact H.words
 ·rw [e2, e5, eMh _ _ _ _ (Ne.symm H.d2)]; exact H.places
theorem ML.st1 (H : ML m M h) {x : Nat} (hx : x ≤ M.n) : ∃ h1, aC 1 (.p m (0 + 1)) (.i .i64 (Int.ofNat x)) h = some (aT, h1) ∧ ML m { M with fin := x } h1 ∧ Oth m M.wb M.pb h h1 := by
 obtain ⟨a, b⟩ := H.setM { M with fin := x } rfl rfl rfl rfl rfl hx H.made_lt
 exact ⟨_, by simp [aC, dE, cQ, H.row, Kind.writable, gL, lP, DV.one, bVm], a, b⟩
theorem ML.st2 (H : ML m M h) {x : Nat} (hx : x < 2000000) : ∃ h1, aC 1 (.p m (0 + 2)) (.i .i64 (Int.ofNat x)) h = some (aT, h1) ∧ ML m { M with made := x } h1 ∧ Oth m M.wb M.pb h h1 := by
 obtain ⟨a, b⟩ := H.setM { M with made := x } rfl rfl rfl rfl rfl H.fin_le hx
 exact ⟨_, by simp [aC, dE, cQ, H.row, Kind.writable, gL, lP, DV.one, bVm], a, b⟩
theorem ML.setW (H : ML m M h) (t : WT) : ML m { M with t := t } ⟨h.next, Tr.set (.row .ex (iM M.n t)) M.wb h.bl⟩ ∧ Oth m M.wb M.pb h ⟨h.next, Tr.set (.row .ex (iM M.n t)) M.wb h.bl⟩ := by
 refine ⟨⟨?_, by rw [eMi], ?_, H.n_lt, H.fin_le, H.made_lt, H.d1, H.d2, H.d3⟩, rfl, fun b _ h1 _ => eMh _ _ _ _ h1⟩
 ·rw [eMh _ _ _ _ H.d1]; exact H.row
 ·rw [eMh _ _ _ _ (Ne.symm H.d3)]; exact H.places
theorem ML.put' (H : ML m M h) {a : Nat} (ha : a < M.n) (w : Int) : ∃ h1, aC 1 (.p M.wb a) (.i .i64 w) h = some (aT, h1) ∧ ML m { M with t := M.t.set a w } h1 ∧ Oth m M.wb M.pb h h1 :=
 ⟨_, H.put ha w, (H.setW _).1, (H.setW _).2⟩
theorem bMb {a : Int} {es : List (DV × DV)} : ∀ (b : Int) {r r' : Option DV}, dR (.int .i64) (.i .i64 a) es = some r → dR (.int .i64) (.i .i64 b) es = some r' →
  dR (.int .i64) (.i .i64 b) (sW (.int .i64) (.i .i64 a) (.b true) es) = some (if b = a then some (.b true) else r') := by
 induction es with
 | nil =>
  intro b r r' h1 h2
  simp only [dR, bH] at h2
  subst h2
  simp only [sW, dR, oF, if_true]
  by_cases e : b = a
  ·simp [e]
  ·have : (b == a) = false := by simpa using e
   simp [e, this]
 | cons e es ih =>
  intro b r r' h1 h2
  simp only [dR] at h1 h2
  have hk : ∃ c, e.1 = .i .i64 c := by
   obtain ⟨x, y⟩ := e
   cases x <;> simp [oF] at h1
   rename_i k c
   cases k <;> simp at h1
   exact ⟨c, rfl⟩
  obtain ⟨c, hc⟩ := hk
  simp only [hc, oF, if_true] at h1 h2
  simp only [sW, hc, oF, if_true]
  by_cases hac : a = c
  ·subst hac
   simp only [beq_self_eq_true] at h1 ⊢
   simp only [dR, oF, if_true]
   by_cases hba : b = a
   ·subst hba; simp
   ·have : (b == a) = false := by simpa using hba
    simp only [this] at h2 ⊢
    rw [h2]; simp [hba]
  ·have hac' : (a == c) = false := by simpa using hac
   simp only [hac'] at h1 ⊢
   simp only [dR, hc, oF, if_true]
   by_cases hbc : b = c
   ·subst hbc
    simp only [beq_self_eq_true, bH] at h2 ⊢
    rw [if_neg (fun e => hac e.symm), h2]
   ·have hbc' : (b == c) = false := by simpa using hbc
    simp only [hbc'] at h2 ⊢
    exact ih b h1 h2
theorem ML.place (H : ML m M h) {a : Nat} (ha : a < 16000000) : ∃ h1, gW (.int .i64) (.m M.pb) (.i .i64 (a : Int)) (.b true) h = some (aT, h1) ∧ ML m { M with pl := M.pl.set a 1 } h1 ∧ Oth m M.wb M.pb h h1 := by
 obtain ⟨es, h1, h2⟩ := H.places
 refine ⟨⟨h.next, Tr.set (.mp (sW (.int .i64) (.i .i64 (a : Int)) (.b true) es)) M.pb h.bl⟩, by simp [gW, h1, h2 a], ⟨?_, ?_, ⟨_, by rw [eMi], fun b => ?_⟩, H.n_lt, H.fin_le, H.made_lt, H.d1, H.d2, H.d3⟩, rfl, fun b _ _ h1 => eMh _ _ _ _ h1⟩
 ·rw [eMh _ _ _ _ H.d2]; exact H.row
 ·rw [eMh _ _ _ _ H.d3]; exact H.words
 ·rw [bMb b (h2 a) (h2 b)]
  congr 1
  by_cases e : b = (a : Int)
  ·subst e
   simp [WT.get_set _ _ _ _ ha]
  ·rw [if_neg e]
   by_cases hb : 0 ≤ b
   ·have : b.toNat ≠ a := by omega
    rw [WT.get_set _ _ _ _ ha, if_neg this]
   ·simp [hb]
theorem dBd {h' h1 : Hp} {M' : MemV} (S : Sim false h h') (hM : mE m h = some M) (H1 : ML m M' h1) (e1 : M'.wb = M.wb) (e2 : M'.pb = M.pb) (e3 : M'.n = M.n) (O : Oth m M.wb M.pb h' h1) :
  Sim false ⟨h.next, Tr.set (bVm M') m (Tr.set (.mi M'.pl) M.pb (Tr.set (.big M.n M'.t) M.wb h.bl))⟩ h1 := by
 have H := fX hM S
 refine ⟨O.1.trans S.next, fun b o hb => ?_⟩
 by_cases b1 : b = m
 ·subst b1
  simp only [eMi, bH] at hb
  subst hb
  exact ⟨_, H1.row, rfl⟩
 ·simp only [eMh _ _ _ _ b1] at hb
  by_cases b2 : b = M.pb
  ·subst b2
   simp only [eMi, bH] at hb
   subst hb
   obtain ⟨es, p1, p2⟩ := H1.places
   rw [e2] at p1
   exact ⟨_, p1, by simp only [xR]; exact ⟨es, rfl, p2⟩⟩
  ·simp only [eMh _ _ _ _ b2] at hb
   by_cases b3 : b = M.wb
   ·subst b3
    simp only [eMi, bH] at hb
    subst hb
    have := H1.words
    rw [e1, e3] at this
    exact ⟨_, this, by simp [xR]⟩
   ·simp only [eMh _ _ _ _ b3] at hb
    rw [O.2 b b1 b3 b2]
    exact S.get b o hb
theorem bMt {h' h1 : Hp} {t : WT} (S : Sim false h h') (hM : mE m h = some M) (H1 : ML m { M with t := t } h1) (O : Oth m M.wb M.pb h' h1) (hm : h1.bl.get m = h'.bl.get m) (hp : h1.bl.get M.pb = h'.bl.get M.pb) :
  Sim false ⟨h.next, Tr.set (.big M.n t) M.wb h.bl⟩ h1 := by
 refine ⟨O.1.trans S.next, fun b o hb => ?_⟩
 by_cases b3 : b = M.wb
 ·subst b3
  simp only [eMi, bH] at hb
  subst hb
  exact ⟨_, H1.words, by simp [xR]⟩
 ·simp only [eMh _ _ _ _ b3] at hb
  by_cases b1 : b = m
  ·subst b1; rw [hm]; exact S.get _ o hb
  ·by_cases b2 : b = M.pb
   ·subst b2; rw [hp]; exact S.get _ o hb
   ·rw [O.2 b b1 b3 b2]
    exact S.get b o hb
end
theorem aQt {m : Pos} {M : MemV} {h h' : Hp} (S : Sim false h h') (hM : mE m h = some M) {a : Nat} (ha : a < M.n) (w : Int) {v : DV} {k : Hp} (hp : nT M a w h = some (v, k)) :
  v = .i .i64 (Int.ofNat 0) ∧ ∃ h1, aC 1 (.p M.wb a) (.i .i64 w) h' = some (aT, h1) ∧ Sim false k h1 := by
 have H := fX hM S
 simp only [nT, bH, bN] at hp
 obtain ⟨rfl, rfl⟩ := hp
 refine ⟨rfl, _, H.put ha w, bMt S hM (H.setW _).1 (H.setW _).2 ?_ ?_⟩
 ·exact eMh _ _ _ _ H.d1
 ·exact eMh _ _ _ _ (Ne.symm H.d3)
theorem cTr (n : Nat) (args : List DV) : SimP false (aCj args) (gH CF1 (n + 12) 38 args) := fun h h' S v k e => by
 obtain ⟨m, rest, M, rfl, hM, e⟩ := eX e
 split at e <;> (try (cases e; done))
 rename_i o i w _
 have H := fX hM S
 rw [cB 38 rfl, eBy]
 simp only [t47, bFm, g0, g1, g2, g3]
 rcases cHp H e with ⟨er, he, e1, e2⟩ | ⟨hd, a, h0, h1, h2, h3, e1, e2⟩
 ·simp only [bH, bN] at e1
  obtain ⟨rfl, rfl⟩ := e1
  refine ⟨h', ?_, S⟩
  simp only [e2 (n + 4), bC, cMx, cAc, aSv, gZ, dHz he, dD]
 ·have e0 : (Int.ofNat 0 != Int.ofNat 0) = false := rfl
  have h51 := dYu H (n + 5) o (show cE o M.pl < M.n by omega)
  rw [h3] at h51
  simp only [e2 (n + 4), bC, cMx, cAc, aSv, gZ, e0, cU, bDe, h51, fJ]
  have hmod : Int.ofNat hd % 4 = Int.ofNat (Nat.mod hd 4) := rfl
  have h4 : tR (gH CF1 (n + 11)) (n + 11) (.p m 0) (.i .i64 w) (.i .i64 (a : Int)) h' = bnd (aC 1 (.p M.wb a) (.i .i64 w) h') fun _ h5 => some (.i .i64 (Int.ofNat 0), h5) := by
   simp only [tR, iA, eJ, bC, H.l0, H.ix h1]
  have hput : nT M a w h = some (v, k) → ∃ h1, tR (gH CF1 (n + 11)) (n + 11) (.p m 0) (.i .i64 w) (.i .i64 (a : Int)) h' = some (v, h1) ∧ Sim false k h1 := by
   intro hp
   obtain ⟨rfl, h1', p1, p2⟩ := aQt S hM h1 w hp
   exact ⟨h1', by rw [h4, p1]; rfl, p2⟩
  rw [hmod]
  split at e1
  ·rename_i hz
   rw [hz]
   have : (Int.ofNat 0 == Int.ofNat 0) = true := rfl
   simp only [this, dD, eEv H, bC, mO]
   cases hmay : lO w M.pl with
   | true =>
    rw [hmay] at e1
    simp only [cond_true] at e1
    simp only [Bool.not_true, cU]
    exact hput e1
   | false =>
    rw [hmay] at e1
    simp only [cond_false, bH, bN] at e1
    obtain ⟨rfl, rfl⟩ := e1
    exact ⟨h', rfl, S⟩
  ·rename_i hz
   rw [hz]
   have q0 : (Int.ofNat 2 == Int.ofNat 0) = false := rfl
   have q2 : (Int.ofNat 2 == Int.ofNat 2) = true := rfl
   simp only [q0, cU, bC, q2, dD, fV]
   cases w with
   | negSucc c =>
    simp only [bH, bN] at e1
    obtain ⟨rfl, rfl⟩ := e1
    have hlt : decide (Int.negSucc c < Int.ofNat 0) = true := decide_eq_true (Int.negSucc_lt_zero c)
    simp only [hlt, hC, bC, cI, dD]
    exact ⟨h', rfl, S⟩
   | ofNat c =>
    dsimp only at e1
    have hlt : decide (Int.ofNat c < Int.ofNat 0) = false := by simp
    simp only [hlt, jU, bC, cM, eY]
    rw [jY] at e1
    by_cases hc : c ≤ 255
    ·simp only [hc, decide_true, cond_true] at e1
     have hgt : decide (Int.ofNat c > Int.ofNat 255) = false := by
      simp only [decide_eq_false_iff_not, Int.ofNat_eq_natCast]; omega
     simp only [hgt, cU]
     exact hput e1
    ·simp only [hc, decide_false, cond_false, bH, bN] at e1
     obtain ⟨rfl, rfl⟩ := e1
     have hgt : decide (Int.ofNat c > Int.ofNat 255) = true := by
      simp only [decide_eq_true_eq, Int.ofNat_eq_natCast]; omega
     simp only [hgt, dD]
     exact ⟨h', rfl, S⟩
  ·rename_i hz0 hz2
   have q0 : (Int.ofNat (Nat.mod hd 4) == Int.ofNat 0) = false := by
    simp only [beq_eq_false_iff_ne, ne_eq, Int.ofNat_eq_natCast]
    intro e; exact hz0 (by exact_mod_cast e)
   have q2 : (Int.ofNat (Nat.mod hd 4) == Int.ofNat 2) = false := by
    simp only [beq_eq_false_iff_ne, ne_eq, Int.ofNat_eq_natCast]
    intro e; exact hz2 (by exact_mod_cast e)
   simp only [q0, cU, bC, q2, cU]
   exact hput e1
theorem aNq (n : Nat) (args : List DV) : SimP false (lB args) (gH CF1 (n + 12) 35 args) := fun h h' S v k e => by
 obtain ⟨m, rest, M, rfl, hM, e⟩ := eX e
 split at e <;> (try (cases e; done))
 rename_i o c _
 have H := fX hM S
 rw [cB 35 rfl, dXg]
 simp only [t44, g0, g1, g2, tT H, bC, fJ]
 rw [rK] at e
 by_cases h0 : cE o M.pl = 0
 ·simp only [h0, decide_true, Bool.true_or, cond_true, bH, bN] at e
  obtain ⟨rfl, rfl⟩ := e
  have : ((0 : Nat) : Int) = Int.ofNat 0 := rfl
  have q : (((cE o M.pl : Nat) : Int) == Int.ofNat 0) = true := by rw [h0]; rfl
  simp only [q, hC, bC, cI, dD]
  exact ⟨h', rfl, S⟩
 ·have q : (((cE o M.pl : Nat) : Int) == Int.ofNat 0) = false := by simpa using h0
  simp only [q, jU, bC, cM, eFa H, mO]
  cases hc : rT c M.pl with
  | false =>
   rw [hc] at e
   simp only [h0, decide_false, Bool.not_false, Bool.false_or, cond_true, bH, bN] at e
   obtain ⟨rfl, rfl⟩ := e
   simp only [Bool.not_false, dD]
   exact ⟨h', rfl, S⟩
  | true =>
   rw [hc] at e
   simp only [h0, decide_false, Bool.not_true, Bool.false_or, cond_false] at e
   rw [jF] at e
   by_cases ha : Nat.add (cE o M.pl) 1 < M.n
   ·simp only [ha, decide_true, cond_true] at e
    have ha' : cE o M.pl + 1 < M.n := ha
    have hn := H.n_lt
    simp only [Bool.not_true, cU, iA, eJ, bC, H.l0]
    rw [iT _ _ _ (by simp only [Int.ofNat_eq_natCast]; omega)]
    have ee : (cE o M.pl : Int) + Int.ofNat 1 = ((cE o M.pl + 1 : Nat) : Int) := by simp
    obtain ⟨rfl, h1', p1, p2⟩ := aQt S hM ha' c e
    simp only [bC, ee, H.ix ha', p1]
    exact ⟨h1', rfl, p2⟩
   ·simp only [ha, decide_false, cond_false] at e
    cases e
end Go.Dd

namespace Go.Dd
theorem kK (a b : Nat) (h : Hp) (hr : a + b < 4611686018427387904) : aF .add (.i .i64 (Int.ofNat a)) (.i .i64 (Int.ofNat b)) h = some (.i .i64 (Int.ofNat (a + b)), h) := by
 rw [iT _ _ _ (by simp only [Int.ofNat_eq_natCast]; omega)]
 rfl
theorem dNs (c f : Nat) (h : Hp) (hc : c ≤ 256) (hf : f ≤ 2) : aF .or (.i .i64 (4 * Int.ofNat c)) (.i .i64 (Int.ofNat f)) h = some (.i .i64 (Int.ofNat (c * 4 + f)), h) := by
 have hb : eZ .or .i64 (4 * Int.ofNat c) (Int.ofNat f) = some (.i .i64 (Int.ofNat (c * 4 + f))) := by
  have := dTu c 2 f (by omega) (by omega)
  have e1 : ((c * 2 ^ 2 : Nat) : Int) = 4 * Int.ofNat c := by simp only [Int.ofNat_eq_natCast]; omega
  have e2 : ((c * 2 ^ 2 + f : Nat) : Int) = Int.ofNat (c * 4 + f) := rfl
  rw [e1, e2] at this
  rw [← this]; rfl
 simp only [aF, if_true, hb]
theorem tE (t : WT) : ∀ (c a j : Nat), a + c < 16000000 → (mM t c a).get j = if a ≤ j ∧ j < a + c then 0 else t.get j
 | 0, a, j, h => by rw [if_neg (by omega)]; rfl
 | c + 1, a, j, h => by
  have e : mM t (c + 1) a = (mM t c (a + 1)).set a (.ofNat 0) := rfl
  rw [e, WT.get_set _ _ _ _ (by omega), tE t c (a + 1) j (by omega)]
  by_cases h1 : j = a
  ·rw [if_pos h1, if_pos (by omega)]; rfl
  ·rw [if_neg h1]
   by_cases h2 : a + 1 ≤ j ∧ j < a + 1 + c
   ·rw [if_pos h2, if_pos (by omega)]
   ·rw [if_neg h2, if_neg (by omega)]
theorem bGk : ∀ (l vs : List DV), (∀ v ∈ l, v.one = true) → (∀ v ∈ vs, v.one = true) → vs.length ≤ l.length → ∃ l', lP l vs = some l'
 | l, [], _, _, _ => ⟨l, by cases l <;> rfl⟩
 | [], v :: vs, _, _, h => by simp at h
 | x :: l, v :: vs, h1, h2, h3 => by
  obtain ⟨l', e⟩ := bGk l vs (fun u hu => h1 u (by simp [hu])) (fun u hu => h2 u (by simp [hu])) (by simpa using h3)
  exact ⟨v :: l', by simp [lP, h1 x (by simp), h2 v (by simp), e]⟩
theorem aQq : ∀ (o : Nat) (l vs : List DV), (∀ v ∈ l, v.one = true) → (∀ v ∈ vs, v.one = true) → o + vs.length ≤ l.length → ∃ l', gL o l vs = some l'
 | 0, l, vs, h1, h2, h3 => by
  obtain ⟨l', e⟩ := bGk l vs h1 h2 (by omega)
  exact ⟨l', e⟩
 | o + 1, [], vs, h1, h2, h3 => by simp at h3
 | o + 1, x :: l, vs, h1, h2, h3 => by
  obtain ⟨l', e⟩ := aQq o l vs (fun u hu => h1 u (by simp [hu])) h2 (by simp at h3; omega)
  exact ⟨x :: l', by simp [gL, e]⟩
section
variable {m : Pos} {M : MemV} {h : Hp}
theorem bVs {n : Nat} {t : WT} : ∀ v ∈ iM n t, v.one = true := by
 intro v hv
 simp only [iM, List.mem_map] at hv
 obtain ⟨i, _, rfl⟩ := hv
 rfl
theorem ML.ix' (H : ML m M h) {a : Nat} (ha : a < M.n) : aJ 1 (.l M.wb 0 M.n M.n) (.i .i64 (Int.ofNat a)) h = some (.p M.wb a, h) := H.ix ha
theorem yG (c : Nat) : (List.replicate c [DV.i .i64 (Int.ofNat 0)]).flatten = List.replicate c (.i .i64 (Int.ofNat 0)) := by
 induction c with
 | zero => rfl
 | succ c ih => simp [List.replicate_succ, ih]
theorem ML.clear (H : ML m M h) {a c : Nat} (hac : a + c ≤ M.n) : ∃ v h1, cW 1 (.l M.wb 0 M.n M.n) (some (.i .i64 (Int.ofNat a))) (some (.i .i64 (Int.ofNat (a + c)))) h = some (v, h) ∧
  jR [.i .i64 (Int.ofNat 0)] v h = some (.t [], h1) ∧ ML m { M with t := mM M.t c a } h1 ∧ Oth m M.wb M.pb h h1 := by
 have hn := H.n_lt
 have e1 : iQ (.i .i64 (Int.ofNat (a + c))) M.n = some (a + c) := by
  have : (0 : Int) ≤ Int.ofNat (a + c) ∧ Int.ofNat (a + c) ≤ (M.n : Int) := by simp only [Int.ofNat_eq_natCast]; omega
  simp only [iQ, this, and_self, if_true]
  rfl
 have e2 : iQ (.i .i64 (Int.ofNat a)) (a + c) = some a := by
  have : (0 : Int) ≤ Int.ofNat a ∧ Int.ofNat a ≤ ((a + c : Nat) : Int) := by simp only [Int.ofNat_eq_natCast]; omega
  simp only [iQ, this, and_self, if_true]
  rfl
 refine ⟨.l M.wb (if M.n = a then 0 else 0 + a * 1) (a + c - a) (M.n - a), ?_⟩
 have hs : cW 1 (.l M.wb 0 M.n M.n) (some (.i .i64 (Int.ofNat a))) (some (.i .i64 (Int.ofNat (a + c)))) h = some (.l M.wb (if M.n = a then 0 else 0 + a * 1) (a + c - a) (M.n - a), h) := by
  simp only [cW, hiD, loD, e1, e2, H.words]
 by_cases hc : c = 0
 ·subst hc
  refine ⟨h, hs, by simp [jR], H, Oth.refl _ _ _ _⟩
 ·obtain ⟨l', hl'⟩ := aQq a (iM M.n M.t) (List.replicate c (.i .i64 (Int.ofNat 0))) bVs (fun v hv => by rw [List.eq_of_mem_replicate hv]; rfl) (by simp [iM]; omega)
  obtain ⟨p1, p2, p3, p4, p5⟩ := lY _ _ _ _ hl'
  have hll : l' = iM M.n (mM M.t c a) := by
   apply List.ext_getElem?
   intro j
   by_cases hj : j < M.n
   ·rw [kZ hj, tE _ _ _ _ (by omega)]
    by_cases hin : a ≤ j ∧ j < a + c
    ·rw [if_pos hin]
     obtain ⟨q1, _⟩ := p4 (j - a) (.i .i64 (Int.ofNat 0)) (by rw [List.getElem?_replicate, if_pos (by omega)])
     rw [show a + (j - a) = j from by omega] at q1
     exact q1
    ·rw [if_neg hin, p5 j (by rw [List.length_replicate]; omega), kZ hj]
   ·rw [List.getElem?_eq_none (by rw [p1]; simp [iM]; omega), List.getElem?_eq_none (by simp [iM]; omega)]
  refine ⟨⟨h.next, Tr.set (.row .ex (iM M.n (mM M.t c a))) M.wb h.bl⟩, hs, ?_, (H.setW _).1, (H.setW _).2⟩
  have hna : M.n ≠ a := by omega
  rw [if_neg hna]
  simp only [jR, show a + c - a = c from by omega, hc, if_false, yG, cQ, H.words, Kind.writable, if_true, Nat.zero_add, Nat.mul_one, hl', hll]
end
noncomputable def bIt (rec : FuncId → List DV → Hp → aK) (x0 x3 v26 : DV) (h0 : Hp) : aK :=
 bnd (aQ x0 h0) fun v64 h64 =>
 bnd (aB 1 v64 h64) fun v65 h65 =>
 bnd (aA v65 h65) fun v66 h66 =>
 bnd (aF .add x3 (.i .i64 (Int.ofNat 3)) h66) fun v67 h67 =>
 bnd (aF .add v66 v67 h67) fun v68 h68 =>
 bnd (aQ x0 h68) fun v69 h69 =>
 bnd (aB 1 v69 h69) fun v70 h70 =>
 bnd (aC 1 v70 v68 h70) fun _ h71 =>
 bnd (aQ x0 h71) fun v72 h72 =>
 bnd (aB 3 v72 h72) fun v73 h73 =>
 bnd (aA v73 h73) fun v74 h74 =>
 bnd (gW (.int .i64) v74 v26 (.b true) h74) fun _ h75 =>
 bnd (rec 76 [v26] h75) fun v76 h76 =>
 bnd (aH 0 v76 h76) fun v77 h77 =>
 bnd (aH 1 v76 h77) fun v78 h78 =>
 some (.t [v77, (.i .i64 (Int.ofNat 0))], h78)
noncomputable def bCv (rec : FuncId → List DV → Hp → aK) (x0 x3 v26 : DV) (h0 : Hp) : aK :=
 bnd (aQ x0 h0) fun v56 h56 =>
 bnd (aB 0 v56 h56) fun v57 h57 =>
 bnd (aA v57 h57) fun v58 h58 =>
 bnd (aF .add v26 (.i .i64 (Int.ofNat 3)) h58) fun v59 h59 =>
 bnd (aF .add v26 (.i .i64 (Int.ofNat 3)) h59) fun v60 h60 =>
 bnd (aF .add v60 x3 h60) fun v61 h61 =>
 bnd (cW 1 v58 (some v59) (some v61) h61) fun v62 h62 =>
 bnd (jR [(.i .i64 (Int.ofNat 0))] v62 h62) fun _ h63 =>
 bIt rec x0 x3 v26 h63
noncomputable def bGn (rec : FuncId → List DV → Hp → aK) (x0 x1 x2 x3 v26 : DV) (h0 : Hp) : aK :=
 bnd (aQ x0 h0) fun v34 h34 =>
 bnd (aB 0 v34 h34) fun v35 h35 =>
 bnd (aA v35 h35) fun v36 h36 =>
 bnd (aQ x0 h36) fun v37 h37 =>
 bnd (aB 0 v37 h37) fun v38 h38 =>
 bnd (aA v38 h38) fun v39 h39 =>
 bnd (aF .add v26 (.i .i64 (Int.ofNat 1)) h39) fun v40 h40 =>
 bnd (aQ x0 h40) fun v41 h41 =>
 bnd (aB 0 v41 h41) fun v42 h42 =>
 bnd (aA v42 h42) fun v43 h43 =>
 bnd (aF .add v26 (.i .i64 (Int.ofNat 2)) h43) fun v44 h44 =>
 bnd (dG .shl x3 (.i .u64 (Int.ofNat 2)) h44) fun v45 h45 =>
 bnd (aF .or v45 x2 h45) fun v46 h46 =>
 bnd (aQ x0 h46) fun v47 h47 =>
 bnd (aB 2 v47 h47) fun v48 h48 =>
 bnd (aA v48 h48) fun v49 h49 =>
 bnd (aJ 1 v36 v26 h49) fun v50 h50 =>
 bnd (aC 1 v50 v46 h50) fun v51 h51 =>
 bnd (aJ 1 v39 v40 h51) fun v52 h52 =>
 bnd (aC 1 v52 x1 h52) fun v53 h53 =>
 bnd (aJ 1 v43 v44 h53) fun v54 h54 =>
 bnd (aC 1 v54 v49 h54) fun v55 h55 =>
 bCv rec x0 x3 v26 h55
noncomputable def aKh (rec : FuncId → List DV → Hp → aK) (x0 x1 x2 x3 : DV) (h0 : Hp) : aK :=
 bnd (aQ x0 h0) fun v24 h24 =>
 bnd (aB 1 v24 h24) fun v25 h25 =>
 bnd (aA v25 h25) fun v26 h26 =>
 bnd (aQ x0 h26) fun v27 h27 =>
 bnd (aB 2 v27 h27) fun v28 h28 =>
 bnd (aA v28 h28) fun v29 h29 =>
 bnd (aF .add v29 (.i .i64 (Int.ofNat 1)) h29) fun v30 h30 =>
 bnd (aQ x0 h30) fun v31 h31 =>
 bnd (aB 2 v31 h31) fun v32 h32 =>
 bnd (aC 1 v32 v30 h32) fun _ h33 =>
 bGn rec x0 x1 x2 x3 v26 h33
theorem dQm (rec : FuncId → List DV → Hp → aK) (n : Nat) (x0 x1 x2 x3 : DV) (h0 : Hp) : t30 rec n x0 x1 x2 x3 h0 = (
 bnd (rec 74 [x0, x1] h0) fun v1 h1 =>
 bnd (fR .not v1 h1) fun v2 h2 =>
 bnd (gD v2 false (some (x2, h2)) h2) fun v3 h3 =>
 bnd (gD v2 false (aF .lss v3 (.i .i64 (Int.ofNat 0)) h3) h3) fun v4 h4 =>
 bnd (aP v2 (.b true) v4 h4) fun v5 h5 =>
 bnd (gD v5 false (some (x2, h5)) h5) fun v6 h6 =>
 bnd (gD v5 false (aF .gtr v6 (.i .i64 (Int.ofNat 2)) h6) h6) fun v7 h7 =>
 bnd (aP v5 (.b true) v7 h7) fun v8 h8 =>
 bnd (gD v8 false (some (x3, h8)) h8) fun v9 h9 =>
 bnd (gD v8 false (aF .lss v9 (.i .i64 (Int.ofNat 0)) h9) h9) fun v10 h10 =>
 bnd (aP v8 (.b true) v10 h10) fun v11 h11 =>
 bnd (gD v11 false (some (x3, h11)) h11) fun v12 h12 =>
 bnd (gD v11 false (aF .gtr v12 (.i .i64 (Int.ofNat 256)) h12) h12) fun v13 h13 =>
 bnd (aP v11 (.b true) v13 h13) fun v14 h14 =>
 aU v14 (
 some (.t [(.i .i64 (Int.ofNat 0)), (.i .i64 (Int.ofNat 1))], h14)) (
 bnd (rec 75 [x0] h14) fun v15 h15 =>
 bnd (aF .add x3 (.i .i64 (Int.ofNat 3)) h15) fun v16 h16 =>
 bnd (aF .lss v15 v16 h16) fun v17 h17 =>
 bnd (gD v17 false (some (x0, h17)) h17) fun v18 h18 =>
 bnd (gD v17 false (aQ v18 h18) h18) fun v19 h19 =>
 bnd (gD v17 false (aB 2 v19 h19) h19) fun v20 h20 =>
 bnd (gD v17 false (aA v20 h20) h20) fun v21 h21 =>
 bnd (gD v17 false (aF .geq v21 (.i .i64 (Int.ofNat 1099511627776)) h21) h21) fun v22 h22 =>
 bnd (aP v17 (.b true) v22 h22) fun v23 h23 =>
 aU v23 (
 some (.t [(.i .i64 (Int.ofNat 0)), (.i .i64 (Int.ofNat 4))], h23)) (
 aKh rec x0 x1 x2 x3 h23))) := rfl
section
variable {m : Pos} {M : MemV} {h : Hp}
theorem bTx (H : ML m M h) {c : Nat} (hr : M.fin + (c + 3) ≤ M.n) (ha : 3 ≤ M.fin ∧ M.fin ≤ 131072) (n : Nat) :
  ∃ h1, bIt (gH CF1 (n + 11)) (.p m 0) (.i .i64 (Int.ofNat c)) (.i .i64 (Int.ofNat M.fin)) h = some (.t [.i .i64 (Int.ofNat (Nat.mul M.fin 2)), .i .i64 (Int.ofNat 0)], h1) ∧
   ML m { M with fin := M.fin + (c + 3), pl := M.pl.set M.fin 1 } h1 ∧ Oth m M.wb M.pb h h1 := by
 have hn := H.n_lt
 simp only [bIt, iA, eJ, bC, H.l1, kK c 3 _ (show c + 3 < 4611686018427387904 by omega), kK M.fin (c + 3) _ (show M.fin + (c + 3) < 4611686018427387904 by omega)]
 obtain ⟨h6, s6, H6, O6⟩ := H.st1 (x := M.fin + (c + 3)) hr
 simp only [s6, bC, H6.l3]
 obtain ⟨h7, s7, H7, O7⟩ := H6.place (a := M.fin) (by omega)
 rw [show gW (.int .i64) (.m M.pb) (.i .i64 (Int.ofNat M.fin)) (.b true) h6 = some (aT, h7) from s7]
 have hp : 3 ≤ Int.ofNat M.fin ∧ Int.ofNat M.fin ≤ 131072 := by simp only [Int.ofNat_eq_natCast]; omega
 have e2 : 2 * Int.ofNat M.fin = Int.ofNat (Nat.mul M.fin 2) := by
  have : Nat.mul M.fin 2 = M.fin * 2 := rfl
  rw [this]; simp only [Int.ofNat_eq_natCast]; omega
 have h75 := eHu (n + 9) (Int.ofNat M.fin) h7
 rw [if_pos hp, e2] at h75
 simp only [bC, h75, cMx, cAc]
 exact ⟨h7, rfl, H7, O6.trans O7⟩
theorem cIl (H : ML m M h) {c : Nat} (hr : M.fin + (c + 3) ≤ M.n) (n : Nat) :
  ∃ h1, bCv (gH CF1 (n + 11)) (.p m 0) (.i .i64 (Int.ofNat c)) (.i .i64 (Int.ofNat M.fin)) h = bIt (gH CF1 (n + 11)) (.p m 0) (.i .i64 (Int.ofNat c)) (.i .i64 (Int.ofNat M.fin)) h1 ∧
   ML m { M with t := mM M.t c (M.fin + 3) } h1 ∧ Oth m M.wb M.pb h h1 := by
 have hn := H.n_lt
 obtain ⟨vv, h5, s5, s5', H5, O5⟩ := H.clear (a := M.fin + 3) (c := c) (show M.fin + 3 + c ≤ M.n by omega)
 refine ⟨h5, ?_, H5, O5⟩
 simp only [bCv, iA, eJ, bC, H.l0, kK M.fin 3 _ (show M.fin + 3 < 4611686018427387904 by omega), kK (M.fin + 3) c _ (show M.fin + 3 + c < 4611686018427387904 by omega), s5, s5']
theorem cBz (H : ML m M h) {cls : Int} {c f : Nat} (hcc : c ≤ 256) (hf : f ≤ 2) (hr : M.fin + (c + 3) ≤ M.n) (n : Nat) :
  ∃ h1, bGn (gH CF1 (n + 11)) (.p m 0) (.i .i64 cls) (.i .i64 (Int.ofNat f)) (.i .i64 (Int.ofNat c)) (.i .i64 (Int.ofNat M.fin)) h = bCv (gH CF1 (n + 11)) (.p m 0) (.i .i64 (Int.ofNat c)) (.i .i64 (Int.ofNat M.fin)) h1 ∧
   ML m { M with t := ((M.t.set M.fin (Int.ofNat (c * 4 + f))).set (M.fin + 1) cls).set (M.fin + 2) (Int.ofNat M.made) } h1 ∧ Oth m M.wb M.pb h h1 := by
 have hn := H.n_lt
 obtain ⟨h2, s2, H2, O2⟩ := H.put' (a := M.fin) (show M.fin < M.n by omega) (Int.ofNat (c * 4 + f))
 obtain ⟨h3, s3, H3, O3⟩ := H2.put' (a := M.fin + 1) (show M.fin + 1 < M.n by omega) cls
 obtain ⟨h4, s4, H4, O4⟩ := H3.put' (a := M.fin + 2) (show M.fin + 2 < M.n by omega) (Int.ofNat M.made)
 have i1 := H.ix' (a := M.fin) (by omega)
 have i2 : aJ 1 (.l M.wb 0 M.n M.n) (.i .i64 (Int.ofNat (M.fin + 1))) h2 = some (.p M.wb (M.fin + 1), h2) := H2.ix' (a := M.fin + 1) (show M.fin + 1 < M.n by omega)
 have i3 : aJ 1 (.l M.wb 0 M.n M.n) (.i .i64 (Int.ofNat (M.fin + 2))) h3 = some (.p M.wb (M.fin + 2), h3) := H3.ix' (a := M.fin + 2) (show M.fin + 2 < M.n by omega)
 have s3' : aC 1 (.p M.wb (M.fin + 1)) (.i .i64 cls) h2 = some (aT, h3) := s3
 have s4' : aC 1 (.p M.wb (M.fin + 2)) (.i .i64 (Int.ofNat M.made)) h3 = some (aT, h4) := s4
 refine ⟨h4, ?_, H4, (O2.trans O3).trans O4⟩
 simp only [bGn, iA, eJ, bC, H.l0, H.l2, kK M.fin 1 _ (show M.fin + 1 < 4611686018427387904 by omega), kK M.fin 2 _ (show M.fin + 2 < 4611686018427387904 by omega),
  dDv (Int.ofNat c) _ (show -2305843009213693952 ≤ Int.ofNat c ∧ Int.ofNat c ≤ 2305843009213693951 by simp only [Int.ofNat_eq_natCast]; omega), dNs c f _ hcc hf, i1, s2, i2, s3', i3, s4']
end
theorem bPv {m : Pos} {M : MemV} {h h' : Hp} (S : Sim false h h') (hM : mE m h = some M) {cls : Int} {c f : Nat} (hcc : c ≤ 256) (hf : f ≤ 2) (hr : M.fin + (c + 3) ≤ M.n) (ha : 3 ≤ M.fin ∧ M.fin ≤ 131072) (n : Nat) :
  ∃ h1, aKh (gH CF1 (n + 11)) (.p m 0) (.i .i64 cls) (.i .i64 (Int.ofNat f)) (.i .i64 (Int.ofNat c)) h' = some (.t [.i .i64 (Int.ofNat (Nat.mul M.fin 2)), .i .i64 (Int.ofNat 0)], h1) ∧
   Sim false ⟨h.next, Tr.set (.row .ex [.l M.wb 0 M.n M.n, .i .i64 (Int.ofNat (M.fin + (c + 3))), .i .i64 (Int.ofNat (M.made + 1)), .m M.pb]) m
    (Tr.set (.mi (M.pl.set M.fin 1)) M.pb
     (Tr.set (.big M.n (mM (((M.t.set M.fin (Int.ofNat (c * 4 + f))).set (M.fin + 1) cls).set (M.fin + 2) (Int.ofNat (M.made + 1))) c (M.fin + 3))) M.wb h.bl))⟩ h1 := by
 have H := fX hM S
 have hmd : M.made < 1000000 := (sY hM).2.2.2.2.2
 obtain ⟨h1, s1, H1, O1⟩ := H.st2 (x := M.made + 1) (by omega)
 obtain ⟨h2, s2, H2, O2⟩ := cBz H1 (cls := cls) hcc hf hr n
 obtain ⟨h3, s3, H3, O3⟩ := cIl H2 hr n
 obtain ⟨h4, s4, H4, O4⟩ := bTx H3 hr ha n
 have e : aKh (gH CF1 (n + 11)) (.p m 0) (.i .i64 cls) (.i .i64 (Int.ofNat f)) (.i .i64 (Int.ofNat c)) h' = bGn (gH CF1 (n + 11)) (.p m 0) (.i .i64 cls) (.i .i64 (Int.ofNat f)) (.i .i64 (Int.ofNat c)) (.i .i64 (Int.ofNat M.fin)) h1 := by
  simp only [aKh, iA, eJ, bC, H.l1, H.l2, kK M.made 1 _ (show M.made + 1 < 4611686018427387904 by omega), s1]
 refine ⟨h4, e.trans (s2.trans (s3.trans s4)), ?_⟩
 dsimp only at H4
 have H5 : ML m ⟨M.wb, M.n, M.fin + (c + 3), M.made + 1, M.pb, mM (((M.t.set M.fin (Int.ofNat (c * 4 + f))).set (M.fin + 1) cls).set (M.fin + 2) (Int.ofNat (M.made + 1))) c (M.fin + 3), M.pl.set M.fin 1⟩ h4 := H4
 exact dBd S hM H5 rfl rfl rfl (((O1.trans O2).trans O3).trans O4)
theorem bWp (n : Nat) (args : List DV) : SimP false (oQ args) (gH CF1 (n + 12) 31 args) := fun h h' S v k e => by
 unfold oQ at e
 split at e <;> (try (cases e; done))
 rename_i m cls fmt cnt
 split at e <;> (try (cases e; done))
 rename_i M hM
 have H := fX hM S
 have hn := H.n_lt
 have hfn := H.fin_le
 rw [cB 31 rfl, eDe, dQm]
 simp only [g0, g1, g2, g3, eFa H, bC, mO]
 have herr : ∀ er : Nat, err er h = some (v, k) → ∃ h1, (some (.t [.i .i64 (Int.ofNat 0), .i .i64 (Int.ofNat er)], h') : aK) = some (v, h1) ∧ Sim false k h1 := by
  intro er he
  simp only [err, bH, bN] at he
  obtain ⟨rfl, rfl⟩ := he
  exact ⟨h', rfl, S⟩
 cases hc : rT cls M.pl with
 | false =>
  rw [hc] at e
  simp only [Bool.not_false, cond_true] at e
  simp only [Bool.not_false, hC, bC, cI, dD]
  exact herr 1 e
 | true =>
  rw [hc] at e
  simp only [Bool.not_true, cond_false] at e
  simp only [Bool.not_true, jU, bC, cM, fV]
  cases fmt with
  | negSucc f =>
   have hlt : decide (Int.negSucc f < Int.ofNat 0) = true := decide_eq_true (Int.negSucc_lt_zero f)
   simp only [hlt, hC, bC, cI, dD]
   exact herr 1 e
  | ofNat f =>
   have hlt : decide (Int.ofNat f < Int.ofNat 0) = false := by simp
   simp only [hlt, jU, bC, cM, eY]
   by_cases hf : f ≤ 2
   ·have hgt : decide (Int.ofNat f > Int.ofNat 2) = false := by simp only [decide_eq_false_iff_not, Int.ofNat_eq_natCast]; omega
    simp only [hgt, jU, bC, cM, fV]
    cases cnt with
    | negSucc c =>
     have hlt : decide (Int.negSucc c < Int.ofNat 0) = true := decide_eq_true (Int.negSucc_lt_zero c)
     simp only [hlt, hC, bC, cI, dD]
     exact herr 1 e
    | ofNat c =>
     have hlt : decide (Int.ofNat c < Int.ofNat 0) = false := by simp
     simp only [hlt, jU, bC, cM, eY]
     dsimp only at e
     simp only [jY, jF, hf, decide_true, Bool.true_and] at e
     by_cases hcc : c ≤ 256
     ·have hgt : decide (Int.ofNat c > Int.ofNat 256) = false := by simp only [decide_eq_false_iff_not, Int.ofNat_eq_natCast]; omega
      simp only [hgt, cU, eFl H, bC, kK c 3 _ (by omega), fV]
      simp only [hcc, decide_true, cond_true] at e
      have hsub : Nat.sub M.n M.fin = M.n - M.fin := rfl
      have hadd : Nat.add c 3 = c + 3 := rfl
      rw [hsub, hadd] at e
      by_cases hr : M.n - M.fin < c + 3
      ·simp only [hr, decide_true, cond_true] at e
       have hl : decide (Int.ofNat (M.n - M.fin) < Int.ofNat (c + 3)) = true := by simp only [decide_eq_true_eq, Int.ofNat_eq_natCast]; omega
       simp only [hl, hC, bC, cI, dD]
       exact herr 4 e
      ·simp only [hr, decide_false, cond_false] at e
       have hl : decide (Int.ofNat (M.n - M.fin) < Int.ofNat (c + 3)) = false := by simp only [decide_eq_false_iff_not, Int.ofNat_eq_natCast]; omega
       simp only [hl, jU, bC, cM, iA, eJ, H.l2, aAr]
       have hg : decide (Int.ofNat M.made ≥ Int.ofNat 1099511627776) = false := by
        have hmd : M.made < 1000000 := (sY hM).2.2.2.2.2
        simp only [decide_eq_false_iff_not, Int.ofNat_eq_natCast]; omega
       simp only [hg, cU]
       by_cases ha : 3 ≤ M.fin ∧ M.fin ≤ 131072
       ·simp only [ha.1, ha.2, decide_true, Bool.and_self, cond_true, bH, bN] at e
        obtain ⟨rfl, rfl⟩ := e
        exact bPv S hM hcc hf (by omega) ha n
       ·have : (decide (3 ≤ M.fin) && decide (M.fin ≤ 131072)) = false := by
         rw [← Bool.not_eq_true]
         simpa using ha
        rw [this] at e
        simp only [cond_false] at e
        cases e
     ·have hgt : decide (Int.ofNat c > Int.ofNat 256) = true := by simp only [decide_eq_true_eq, Int.ofNat_eq_natCast]; omega
      simp only [hcc, decide_false, cond_false] at e
      simp only [hgt, dD]
      exact herr 1 e
   ·have hgt : decide (Int.ofNat f > Int.ofNat 2) = true := by simp only [decide_eq_true_eq, Int.ofNat_eq_natCast]; omega
    simp only [hgt, hC, bC, cI, dD]
    cases cnt with
    | negSucc c => exact herr 1 e
    | ofNat c =>
     dsimp only at e
     simp only [jY, hf, decide_false, Bool.false_and, cond_false] at e
     exact herr 1 e
theorem bAz (n : Nat) (args : List DV) : SimP false (aWn args) (gH CF1 (n + 12) 30 args) := fun h h' S v k e => by
 unfold aWn at e
 split at e <;> (try (cases e; done))
 ·rename_i w
  rw [cB 30 rfl, dIc]
  simp only [t41, g0, fV, bC]
  simp only [jF] at e
  by_cases h1 : w < 16
  ·simp only [h1, decide_true, Bool.true_or, cond_true, bH, bN] at e
   obtain ⟨rfl, rfl⟩ := e
   have hl : decide (Int.ofNat w < Int.ofNat 16) = true := by simp only [decide_eq_true_eq, Int.ofNat_eq_natCast]; omega
   simp only [hl, hC, bC, cI, dD]
   exact ⟨h', rfl, S⟩
  ·have hl : decide (Int.ofNat w < Int.ofNat 16) = false := by simp only [decide_eq_false_iff_not, Int.ofNat_eq_natCast]; omega
   simp only [hl, jU, bC, cM, eY]
   by_cases h2 : 131072 < w
   ·simp only [h2, decide_true, Bool.or_true, cond_true, bH, bN] at e
    obtain ⟨rfl, rfl⟩ := e
    have hg : decide (Int.ofNat w > Int.ofNat 131072) = true := by simp only [decide_eq_true_eq, Int.ofNat_eq_natCast]; omega
    simp only [hg, dD]
    exact ⟨h', rfl, S⟩
   ·simp only [h1, h2, decide_false, Bool.or_self, cond_false, bH, bN] at e
    obtain ⟨rfl, rfl⟩ := e
    have hg : decide (Int.ofNat w > Int.ofNat 131072) = false := by simp only [decide_eq_false_iff_not, Int.ofNat_eq_natCast]; omega
    simp only [hg, cU]
    have hms : cJ 1 8 [.i .i64 (Int.ofNat 0)] (.i .i64 (Int.ofNat w)) (.i .i64 (Int.ofNat w)) h' = some (.l h'.next 0 w w, ⟨h'.next.succ, Tr.set (.row .ex (iM w .e)) h'.next h'.bl⟩) := by
     have hc : (0 : Int) ≤ Int.ofNat w ∧ Int.ofNat w ≤ Int.ofNat w ∧ (Int.ofNat w).toNat * 8 ≤ 2 ^ 30 ∧ (Int.ofNat w).toNat * 1 ≤ 2 ^ 24 ∧ Int.ofNat w < 2 ^ 32 := by
      have : (Int.ofNat w).toNat = w := rfl
      rw [this]
      simp only [Int.ofNat_eq_natCast]
      omega
     have hz : (List.replicate (Int.ofNat w).toNat [DV.i .i64 (Int.ofNat 0)]).flatten = iM w .e := by
      have : (Int.ofNat w).toNat = w := rfl
      rw [this, yG]
      apply List.ext_getElem?
      intro j
      by_cases hj : j < w
      ·rw [kZ hj, List.getElem?_replicate, if_pos hj]; rfl
      ·rw [List.getElem?_replicate, if_neg hj, List.getElem?_eq_none (by simp [iM]; omega)]
     simp only [cJ, hc, and_self, if_true, hz]
     rfl
    simp only [hms, bC, eI]
    have hb : ∀ x y h, aS [.l0, .i .i64 (Int.ofNat 0), .i .i64 (Int.ofNat 0), .m0] [(0, 1, .l x 0 w w), (1, 1, .i .i64 (Int.ofNat 3)), (3, 1, .m y)] h = some (.a [.l x 0 w w, .i .i64 (Int.ofNat 3), .i .i64 (Int.ofNat 0), .m y], h) := fun x y h => rfl
    simp only [hb, bC, bJ, dE, aZ]
    have hnx := S.next
    refine ⟨_, by rw [hnx]; rfl, ?_⟩
    refine ⟨rfl, fun b o hb => ?_⟩
    show ∃ o', (Tr.set _ (bF 2 h.next) (Tr.set _ (bF 1 h.next) (Tr.set _ h.next h'.bl))).get b = some o' ∧ _
    by_cases b1 : b = bF 2 h.next
    ·subst b1
     simp only [eMi, bH] at hb ⊢
     subst hb
     exact ⟨_, rfl, rfl⟩
    ·simp only [eMh _ _ _ _ b1] at hb ⊢
     by_cases b2 : b = bF 1 h.next
     ·subst b2
      simp only [eMi, bH] at hb ⊢
      subst hb
      exact ⟨_, rfl, by simp only [xR]; exact ⟨[], rfl, fun a => by simp [dR, WT.get_e]⟩⟩
     ·simp only [eMh _ _ _ _ b2] at hb ⊢
      by_cases b3 : b = h.next
      ·subst b3
       simp only [eMi, bH] at hb ⊢
       subst hb
       exact ⟨_, rfl, by simp [xR]⟩
      ·simp only [eMh _ _ _ _ b3] at hb ⊢
       exact S.get b o hb
 ·rename_i w
  simp only [bH, bN] at e
  obtain ⟨rfl, rfl⟩ := e
  rw [cB 30 rfl, dIc]
  have hl : decide (Int.negSucc w < Int.ofNat 16) = true := by simp only [decide_eq_true_eq]; have := Int.negSucc_lt_zero w; simp only [Int.ofNat_eq_natCast]; omega
  simp only [t41, g0, fV, bC, hl, hC, cI, dD]
  exact ⟨h', rfl, S⟩
end Go.Dd

namespace Go.Dd
theorem aJg {gg : Bool} (args : List DV) : SimP gg (mQ args) (mQ args) := fun h h' S v k e => by
 unfold mQ at e ⊢
 split at e <;> (try (cases e; done))
 rename_i l c
 cases hc : Nat.blt c 256 with
 | false => rw [hc] at e; cases e
 | true =>
  rw [hc] at e
  simp only [cond_true, bH, bN] at e
  obtain ⟨rfl, rfl⟩ := e
  exact ⟨h', rfl, S⟩
theorem aVt {gg : Bool} (q : Pos) (l1 : DV) (cs : List DV) : SimP gg (jT q l1 cs) (jT q l1 cs) := fun h h' S v k e => by
 unfold jT at e ⊢
 split at e <;> (try (cases e; done))
 ·simp only [bH, bN] at e ⊢
  obtain ⟨rfl, rfl⟩ := e
  exact ⟨_, ⟨by rw [S.next], rfl⟩, by rw [S.next]; exact S.setR _ _ _ _⟩
 ·rename_i b o len cap
  cases hc : (Nat.ble cap len && !(nC b q)) with
  | false => rw [hc] at e; cases e
  | true =>
   rw [hc] at e
   simp only [cnd] at e ⊢
   split at e <;> (try (cases e; done))
   rename_i es l old hb hold
   rw [S.row hb, S.cellsAt hold]
   dsimp only
   split at e <;> (try (cases e; done))
   rename_i hr
   rw [if_pos hr]
   simp only [bH, bN] at e ⊢
   obtain ⟨rfl, rfl⟩ := e
   refine ⟨_, ⟨by rw [S.next], rfl⟩, ?_⟩
   rw [S.next]
   exact (S.setR .sp (bQ o l) b h.next).setR _ _ _ _
theorem aYf {gg : Bool} (c q : Pos) : SimP gg (tG c q) (tG c q) := by
 intro h h' S
 unfold tG
 refine eMp (lL _ h h' S) fun l1 _ _ _ => ?_
 refine eMp (eMl (mT l1) h h' S) fun n _ _ _ => ?_
 refine eMp (lI _ _ h h' S) fun x _ _ _ => ?_
 split
 ·refine eNe id ?_
  have S2 : Sim gg ⟨h.next.succ.succ, h.bl⟩ ⟨h'.next.succ.succ, h'.bl⟩ := ⟨by show h'.next.succ.succ = _; rw [S.next], S.get⟩
  refine eMp (aVt _ _ _ _ _ S2) fun l2 h3 h3' T3 => ?_
  exact eMp (lC _ _ _ h3 h3' T3) fun u h4 h4' T4 => SimR.some T4 _
 ·exact SimR.none _
theorem dGy {gg : Bool} (n : Nat) (f : FuncId) (args : List DV) : SimP gg (fnD CF0 n f args) (fnD CF0 n f args) :=
 cLu (gg := gg) (P := Go.Proofs.Tryz.prog) (I2 := fun _ => none) (I1 := fun _ => none) 0 (fun _ _ => rfl) (fun _ _ h => by cases h) n f args
theorem aNm {gg : Bool} (args : List DV) : SimP gg (lV args) (lV args) := by
 unfold lV
 intro h h' S
 split
 ·rename_i c lit
  dsimp only
  rw [show h'.next = h.next from S.next]
  refine eMp (aMl _ h h' S) fun b h1 h1' T1 => ?_
  refine eMp (lL _ h1 h1' T1) fun ls h2 h2' T2 => ?_
  refine eMp (dGy _ _ _ h2 h2' T2) fun i h3 h3' T3 => ?_
  refine eMp (eMl (zE _ _ _) h3 h3' T3) fun t h4 h4' T4 => ?_
  exact aJb (aYf _ _ h4 h4' T4) (SimR.some T4 _)
 ·exact SimR.none _
theorem nZ {C : Cfg} {rec : FuncId → List DV → Hp → aK} {g : FuncId} (h : C.I g = none) (args : List DV) : bT C rec g args = rec g args := by
 funext k
 unfold bT
 rw [h]
theorem aRc (g : FuncId) (F : List DV → Hp → aK) (hg : aCd g = some F) (n : Nat) (args : List DV) : SimP false (F args) (gH CF1 (n + 12) g args) := by
 unfold aCd at hg
 have hb : ∀ k, Nat.beq g k = true → g = k := fun k h => Nat.eq_of_beq_eq_true h
 cases h1 : Nat.beq g 18 with
 | true => rw [h1] at hg; cases hg; rw [hb _ h1]; exact cZw n args
 | false =>
 cases h2 : Nat.beq g 46 with
 | true => rw [h1, h2] at hg; cases hg; rw [hb _ h2]; exact dUi n args
 | false =>
 cases h3 : Nat.beq g 94 with
 | true => rw [h1, h2, h3] at hg; cases hg; rw [hb _ h3]; exact cGc n args
 | false =>
 cases h4 : Nat.beq g 75 with
 | true => rw [h1, h2, h3, h4] at hg; cases hg; rw [hb _ h4]; exact cHj n args
 | false =>
 cases h5 : Nat.beq g 31 with
 | true => rw [h1, h2, h3, h4, h5] at hg; cases hg; rw [hb _ h5]; exact bWp n args
 | false =>
 cases h6 : Nat.beq g 30 with
 | true => rw [h1, h2, h3, h4, h5, h6] at hg; cases hg; rw [hb _ h6]; exact bAz n args
 | false =>
 cases h7 : Nat.beq g 35 with
 | true => rw [h1, h2, h3, h4, h5, h6, h7] at hg; cases hg; rw [hb _ h7]; exact aNq n args
 | false =>
 cases h8 : Nat.beq g 38 with
 | true => rw [h1, h2, h3, h4, h5, h6, h7, h8] at hg; cases hg; rw [hb _ h8]; exact cTr n args
 | false =>
 cases h9 : Nat.beq g 104 with
 | true => rw [h1, h2, h3, h4, h5, h6, h7, h8, h9] at hg; cases hg; rw [hb _ h9]; exact bQh n args
 | false =>
 cases h10 : Nat.beq g 90 with
 | true => rw [h1, h2, h3, h4, h5, h6, h7, h8, h9, h10] at hg; cases hg; rw [hb _ h10]; exact aXe n args
 | false =>
 cases h11 : Nat.beq g 73 with
 | true => rw [h1, h2, h3, h4, h5, h6, h7, h8, h9, h10, h11] at hg; cases hg; rw [hb _ h11]; exact aTl n args
 | false =>
 cases h12 : Nat.beq g 45 with
 | true => rw [h1, h2, h3, h4, h5, h6, h7, h8, h9, h10, h11, h12] at hg; cases hg; rw [hb _ h12]; exact aRx n args
 | false =>
 cases h13 : Nat.beq g 88 with
 | true => rw [h1, h2, h3, h4, h5, h6, h7, h8, h9, h10, h11, h12, h13] at hg; cases hg; rw [hb _ h13]; exact bOe n args
 | false =>
 cases h14 : Nat.beq g 122 with
 | true => rw [h1, h2, h3, h4, h5, h6, h7, h8, h9, h10, h11, h12, h13, h14] at hg; cases hg; rw [hb _ h14]; exact bOw n args
 | false =>
 cases h15 : Nat.beq g 52 with
 | true => rw [h1, h2, h3, h4, h5, h6, h7, h8, h9, h10, h11, h12, h13, h14, h15] at hg; cases hg; rw [hb _ h15]; exact dFk n args
 | false => rw [h1, h2, h3, h4, h5, h6, h7, h8, h9, h10, h11, h12, h13, h14, h15] at hg; cases hg
theorem cBi (n : Nat) (f : FuncId) (args : List DV) : SimP false (gH CF n f args) (gH CF1 (n + 12) f args) := by
 have key := aHb (I := itm) (q := rgB) (gg := false) (P := Go.Proofs.Tryz.prog) (I2 := CF.I) (I1 := CF1.I) 12 (fun g hg => by
  show (bif Nat.beq g 229 then some mQ else bif Nat.beq g 214 then some lV else none) = none
  change (bif Nat.beq g 229 then some mQ else bif Nat.beq g 214 then some lV else aCd g) = none at hg
  cases h1 : Nat.beq g 229 with
  | true => rw [h1] at hg; cases hg
  | false =>
   cases h2 : Nat.beq g 214 with
   | true => rw [h1, h2] at hg; cases hg
   | false => rfl) (fun g F hg n args => by
  change (bif Nat.beq g 229 then some mQ else bif Nat.beq g 214 then some lV else aCd g) = some F at hg
  have hcall : bT ⟨Go.Proofs.Tryz.prog, CF1.I⟩ (gH ⟨Go.Proofs.Tryz.prog, CF1.I⟩ (n + 12)) g args = fun h => match (bif Nat.beq g 229 then some mQ else bif Nat.beq g 214 then some lV else none : Option (List DV → Hp → aK)) with
   | some F => F args h
   | none => gH ⟨Go.Proofs.Tryz.prog, CF1.I⟩ (n + 12) g args h := rfl
  rw [hcall]
  cases h1 : Nat.beq g 229 with
  | true => rw [h1] at hg; cases hg; exact aJg args
  | false =>
   cases h2 : Nat.beq g 214 with
   | true => rw [h1, h2] at hg; cases hg; exact aNm args
   | false =>
    rw [h1, h2] at hg
    exact aRc g F hg n args) n f args
 exact key
end Go.Dd

namespace Go.Dd
open Go.Proofs
theorem aCv {m : Pos} {M : MemV} {h h' : Hp} (S : Sim true h h') (hm : mE m h = some M) : mE m h' = some M := by
 have hget : ∀ b o, h.bl.get b = some o → h'.bl.get b = some o := fun b o hb => by
  obtain ⟨o', h1, h2⟩ := S.get b o hb
  rw [h1, kM h2]
 unfold mE at hm ⊢
 split at hm <;> (try (cases hm; done))
 rename_i wb n c fin made pb hr
 split at hm <;> (try (cases hm; done))
 rename_i n' t pl h1 h2
 simp only [hget _ _ hr, hget _ _ h1, hget _ _ h2]
 exact hm
theorem fU {args : List DV} {k : Hp → MemV → List DV → aK} (hk : ∀ M r, SimP true (fun h => k h M r) (fun h => k h M r)) : SimP true (fun h => kE args h (k h)) (fun h => kE args h (k h)) := fun h h' S v g e => by
 obtain ⟨m, rest, M, rfl, hM, e⟩ := eX e
 obtain ⟨g', e1, e2⟩ := hk M rest h h' S v g e
 refine ⟨g', ?_, e2⟩
 show (match mE m h' with
  | some M => k h' M rest
  | none => none) = some (v, g')
 rw [aCv S hM]
 exact e1
theorem mI {M : MemV} {o : Int} {k k' : Nat → aK} (h : ∀ n, SimR true (k n) (k' n)) : SimR true (jJ M o k) (jJ M o k') := by
 unfold jJ
 cases Nat.blt (Nat.add (cE o M.pl) 1) M.n with
 | false => exact SimR.none _
 | true =>
  simp only [cond_true]
  cases M.t.get (cE o M.pl) with
  | negSucc a => exact SimR.none _
  | ofNat hd =>
   dsimp only
   cases Nat.blt hd 1000000000000 with
   | false => exact SimR.none _
   | true => exact h hd
theorem tK {M : MemV} {o i : Int} {b b' : Nat → aK} {k k' : Nat → Nat → aK} (hb : ∀ n, SimR true (b n) (b' n)) (h : ∀ n m, SimR true (k n m) (k' n m)) : SimR true (iG M o i b k) (iG M o i b' k') := by
 unfold iG
 cases Nat.beq (cE o M.pl) 0 with
 | true => exact hb 1
 | false =>
  simp only [cond_false]
  cases i with
  | negSucc i => exact hb 5
  | ofNat i =>
   dsimp only
   refine mI fun hd => ?_
   cases Nat.ble (Nat.div hd 4) i with
   | true => exact hb 5
   | false =>
    simp only [cond_false]
    cases Nat.blt (Nat.add (Nat.add (cE o M.pl) 3) i) M.n with
    | false => exact SimR.none _
    | true => exact h _ _
theorem kC {h h' : Hp} (S : Sim true h h') (o : Ob) (b n : Pos) : Sim true ⟨n, Tr.set o b h.bl⟩ ⟨n, Tr.set o b h'.bl⟩ := S.set (lG o) b n
theorem nX {M : MemV} {a : Nat} {w : Int} : SimP true (nT M a w) (nT M a w) := fun h h' S v g e => by
 simp only [nT, bH, bN] at e ⊢
 obtain ⟨rfl, rfl⟩ := e
 exact ⟨_, ⟨rfl, rfl⟩, by rw [S.next]; exact kC S _ _ _⟩
theorem bZc (g : FuncId) (F : List DV → Hp → aK) (hg : aCd g = some F) (args : List DV) : SimP true (F args) (F args) := by
 have hmay : SimP true (cFr args) (cFr args) := fU (k := fun h M r => match r with
  | [.i .i64 w] => some (.b (lO w M.pl), h)
  | _ => none) fun M r h h' S => by dsimp only; split <;> first | exact SimR.some S _ | exact SimR.none _
 have his : SimP true (isF args) (isF args) := fU (k := fun h M r => match r with
  | [.i .i64 w] => some (.b (!(Nat.beq (cE w M.pl) 0)), h)
  | _ => none) fun M r h h' S => by dsimp only; split <;> first | exact SimR.some S _ | exact SimR.none _
 have hsize : SimP true (kG args) (kG args) := fU (k := fun h M r => match r with
  | [] => some (.i .i64 (.ofNat M.n), h)
  | _ => none) fun M r h h' S => by dsimp only; split <;> first | exact SimR.some S _ | exact SimR.none _
 have hroom : SimP true (bJg args) (bJg args) := fU (k := fun h M r => match r with
  | [] => some (.i .i64 (.ofNat (Nat.sub M.n M.fin)), h)
  | _ => none) fun M r h h' S => by dsimp only; split <;> first | exact SimR.some S _ | exact SimR.none _
 have hclass : SimP true (kV args) (kV args) := fU (k := fun h M r => match r with
  | [.i .i64 o] => jJ M o fun _ => some (.i .i64 (M.t.get (Nat.add (cE o M.pl) 1)), h)
  | _ => none) fun M r h h' S => by dsimp only; split <;> first | exact mI (fun _ => SimR.some S _) | exact SimR.none _
 have hformat : SimP true (nY args) (nY args) := fU (k := fun h M r => match r with
  | [.i .i64 o] => jJ M o fun hd => some (.i .i64 (.ofNat (Nat.mod hd 4)), h)
  | _ => none) fun M r h h' S => by dsimp only; split <;> first | exact mI (fun _ => SimR.some S _) | exact SimR.none _
 have hfields : SimP true (jO args) (jO args) := fU (k := fun h M r => match r with
  | [.i .i64 o] => jJ M o fun hd => some (.i .i64 (.ofNat (Nat.div hd 4)), h)
  | _ => none) fun M r h h' S => by dsimp only; split <;> first | exact mI (fun _ => SimR.some S _) | exact SimR.none _
 have hget : SimP true (aPt args) (aPt args) := fU (k := fun h M r => match r with
  | [.i .i64 o, .i .i64 i] => iG M o i (fun e => err e h) fun _ a => some (.t [.i .i64 (M.t.get a), .i .i64 (.ofNat 0)], h)
  | _ => none) fun M r h h' S => by dsimp only; split <;> first | exact tK (fun _ => SimR.some S _) (fun _ _ => SimR.some S _) | exact SimR.none _
 have hput : SimP true (aCj args) (aCj args) := fU (k := fun h M r => match r with
  | [.i .i64 o, .i .i64 i, .i .i64 w] => iG M o i (fun e => some (.i .i64 (.ofNat e), h)) fun hd a =>
   match Nat.mod hd 4 with
   | 0 => bif lO w M.pl then nT M a w h else some (.i .i64 (.ofNat 6), h)
   | 2 => (match w with
    | .ofNat c => bif Nat.ble c 255 then nT M a w h else some (.i .i64 (.ofNat 6), h)
    | .negSucc _ => some (.i .i64 (.ofNat 6), h))
   | _ => nT M a w h
  | _ => none) fun M r h h' S => by
   dsimp only
   split
   ·rename_i o i w
    refine tK (fun _ => SimR.some S _) fun hd a => ?_
    split
    ·cases lO w M.pl with
     | true => exact nX h h' S
     | false => exact SimR.some S _
    ·cases w with
     | negSucc c => exact SimR.some S _
     | ofNat c =>
      dsimp only
      cases Nat.ble c 255 with
      | true => exact nX h h' S
      | false => exact SimR.some S _
    ·exact nX h h' S
   ·exact SimR.none _
 have hsetc : SimP true (lB args) (lB args) := fU (k := fun h M r => match r with
  | [.i .i64 o, .i .i64 c] => bif Nat.beq (cE o M.pl) 0 || !(rT c M.pl) then some (.i .i64 (.ofNat 1), h) else
   (bif Nat.blt (Nat.add (cE o M.pl) 1) M.n then nT M (Nat.add (cE o M.pl) 1) c h else none)
  | _ => none) fun M r h h' S => by
   dsimp only
   split
   ·rename_i o c
    cases Nat.beq (cE o M.pl) 0 || !(rT c M.pl) with
    | true => exact SimR.some S _
    | false =>
     simp only [cond_false]
     cases Nat.blt (Nat.add (cE o M.pl) 1) M.n with
     | true => exact nX h h' S
     | false => exact SimR.none _
   ·exact SimR.none _
 have hmake : SimP true (oQ args) (oQ args) := fun h h' S => by
  unfold oQ
  split
  ·rename_i m cls fmt cnt
   intro v g e
   split at e
   ·cases e
   ·rename_i M hM
    rw [aCv S hM]
    dsimp only
    revert e
    have herr : ∀ n, SimR true (err n h) (err n h') := fun n => SimR.some S _
    suffices hs : SimR true _ _ from fun e => hs v g e
    cases !(rT cls M.pl) with
    | true => exact herr 1
    | false =>
     simp only [cond_false]
     cases fmt with
     | negSucc f => exact herr 1
     | ofNat f =>
      cases cnt with
      | negSucc c => exact herr 1
      | ofNat c =>
       dsimp only
       cases Nat.ble f 2 && Nat.ble c 256 with
       | false => exact herr 1
       | true =>
        simp only [cond_true]
        cases Nat.blt (Nat.sub M.n M.fin) (Nat.add c 3) with
        | true => exact herr 4
        | false =>
         simp only [cond_false]
         cases Nat.ble 3 M.fin && Nat.ble M.fin 131072 with
         | false => exact SimR.none _
         | true =>
          simp only [cond_true]
          intro v g e
          simp only [bH, bN] at e ⊢
          obtain ⟨rfl, rfl⟩ := e
          refine ⟨_, ⟨rfl, rfl⟩, ?_⟩
          rw [S.next]
          exact kC (kC (kC S _ _ h.next) _ _ h.next) _ _ h.next
  ·exact SimR.none _
 have hnew : SimP true (aWn args) (aWn args) := fun h h' S => by
  unfold aWn
  split
  ·rename_i n
   cases Nat.blt n 16 || Nat.blt 131072 n with
   | true => exact SimR.some S _
   | false =>
    simp only [cond_false]
    intro v g e
    simp only [bH, bN] at e ⊢
    obtain ⟨rfl, rfl⟩ := e
    rw [S.next]
    exact ⟨_, ⟨rfl, rfl⟩, kC (kC (kC S _ _ h.next) _ _ h.next) _ _ _⟩
  ·exact SimR.some S _
  ·exact SimR.none _
 have hpure : ∀ F : Hp → aK, (∀ h h', Sim true h h' → SimR true (F h) (F h')) → SimP true F F := fun F hF => hF
 have hsm : SimP true (jC args) (jC args) := fun h h' S => by unfold jC; split <;> first | exact SimR.some S _ | exact SimR.none _
 have hva : SimP true (mF args) (mF args) := fun h h' S => by
  unfold mF
  split
  ·rename_i w
   cases iK w <;> exact SimR.some S _
  ·exact SimR.none _
 have hsl : SimP true (mW args) (mW args) := fun h h' S => by
  unfold mW
  split
  ·rename_i n; cases Nat.blt n 1073741824 <;> exact SimR.some S _
  ·rename_i n; cases Nat.blt n 1073741824 <;> exact SimR.some S _
  ·exact SimR.none _
 unfold aCd at hg
 cases h1 : Nat.beq g 18 with
 | true => rw [h1] at hg; cases hg; exact hmay
 | false =>
 cases h2 : Nat.beq g 46 with
 | true => rw [h1, h2] at hg; cases hg; exact his
 | false =>
 cases h3 : Nat.beq g 94 with
 | true => rw [h1, h2, h3] at hg; cases hg; exact hsize
 | false =>
 cases h4 : Nat.beq g 75 with
 | true => rw [h1, h2, h3, h4] at hg; cases hg; exact hroom
 | false =>
 cases h5 : Nat.beq g 31 with
 | true => rw [h1, h2, h3, h4, h5] at hg; cases hg; exact hmake
 | false =>
 cases h6 : Nat.beq g 30 with
 | true => rw [h1, h2, h3, h4, h5, h6] at hg; cases hg; exact hnew
 | false =>
 cases h7 : Nat.beq g 35 with
 | true => rw [h1, h2, h3, h4, h5, h6, h7] at hg; cases hg; exact hsetc
 | false =>
 cases h8 : Nat.beq g 38 with
 | true => rw [h1, h2, h3, h4, h5, h6, h7, h8] at hg; cases hg; exact hput
 | false =>
 cases h9 : Nat.beq g 104 with
 | true => rw [h1, h2, h3, h4, h5, h6, h7, h8, h9] at hg; cases hg; exact hclass
 | false =>
 cases h10 : Nat.beq g 90 with
 | true => rw [h1, h2, h3, h4, h5, h6, h7, h8, h9, h10] at hg; cases hg; exact hformat
 | false =>
 cases h11 : Nat.beq g 73 with
 | true => rw [h1, h2, h3, h4, h5, h6, h7, h8, h9, h10, h11] at hg; cases hg; exact hfields
 | false =>
 cases h12 : Nat.beq g 45 with
 | true => rw [h1, h2, h3, h4, h5, h6, h7, h8, h9, h10, h11, h12] at hg; cases hg; exact hsm
 | false =>
 cases h13 : Nat.beq g 88 with
 | true => rw [h1, h2, h3, h4, h5, h6, h7, h8, h9, h10, h11, h12, h13] at hg; cases hg; exact hsl
 | false =>
 cases h14 : Nat.beq g 122 with
 | true => rw [h1, h2, h3, h4, h5, h6, h7, h8, h9, h10, h11, h12, h13, h14] at hg; cases hg; exact hva
 | false =>
 cases h15 : Nat.beq g 52 with
 | true => rw [h1, h2, h3, h4, h5, h6, h7, h8, h9, h10, h11, h12, h13, h14, h15] at hg; cases hg; exact hget
 | false => rw [h1, h2, h3, h4, h5, h6, h7, h8, h9, h10, h11, h12, h13, h14, h15] at hg; cases hg
theorem aQl (g : FuncId) (F : List DV → Hp → aK) (hg : CF.I g = some F) (args : List DV) : SimP true (F args) (F args) := by
 change (bif Nat.beq g 229 then some mQ else bif Nat.beq g 214 then some lV else aCd g) = some F at hg
 cases h1 : Nat.beq g 229 with
 | true => rw [h1] at hg; cases hg; exact aJg args
 | false =>
  cases h2 : Nat.beq g 214 with
  | true => rw [h1, h2] at hg; cases hg; exact aNm args
  | false => rw [h1, h2] at hg; exact bZc g F hg args
theorem bMs (n : Nat) (f : FuncId) (args : List DV) : SimP true (fW n f args) (fW n f args) := by
 rw [aQg]
 exact aHb (I := itm) (q := rgB) (gg := true) (P := Tryz.prog) (I2 := CF.I) (I1 := CF.I) 0 (fun g h => h) (fun g F hg n args => by
  have : bT ⟨Tryz.prog, CF.I⟩ (gH ⟨Tryz.prog, CF.I⟩ (n + 0)) g args = F args := by
   funext h
   unfold bT
   rw [show (⟨Tryz.prog, CF.I⟩ : Cfg).I g = some F from hg]
  rw [this]
  exact aQl g F hg args) n f args
theorem bNb (n : Nat) (g : FuncId) (args : List DV) : SimP true (bT CF (fW n) g args) (bT CF (fW n) g args) := by
 unfold bT
 cases hg : CF.I g with
 | none => exact bMs n g args
 | some F => exact aQl g F hg args
end Go.Dd

namespace Go.Dd
open Go.Proofs
abbrev K4T := DV → DV → DV → DV → Hp → aK
noncomputable abbrev R9 : RT := fW 899
noncomputable def XL : Nat → K := xs x0 7 (fun env h => jI R9 899 (env 5) h)
noncomputable def krN : K := aR CF Tryz.f7
noncomputable def bXl : Code := cL (cL (cR (cL (cR (cR (cR (cR (cR (cR (cf Tryz.f7))))))))))
noncomputable def kb (kk : K4T) : K := fun env h => kk (env 5) (env 155) (env 156) (env 157) h
noncomputable def aSc (a b c d : DV) : bB := fun t => bif Nat.beq t 5 then a else bif Nat.beq t 155 then b else bif Nat.beq t 156 then c else bif Nat.beq t 157 then d else .u
theorem aPn (kk : K4T) (a b c d : DV) (h : Hp) : oL R9 899 kk a b c d h = aM CF R9 179 899 bXl XL krN (kb kk) (aSc a b c d) h :=
 (congrFun (congrFun (bVj R9 899 kk) (aSc a b c d)) h).symm
theorem aVl (e : bB) (h : Hp) : krN e h = some (.t [e 2, e 3], h) := by kernel_rfl
def eLi (r : aK) : Prop := ∃ a b c d h, r = some (.t [a, b, c, d], h)
theorem cFh (a b c d : DV) (h : Hp) : (∃ a' b' c' d' h', ∀ kk : K4T, oL R9 899 kk a b c d h = kk a' b' c' d' h') ∨ (∃ r, ¬ eLi r ∧ ∀ kk : K4T, oL R9 899 kk a b c d h = r) := by
 obtain ⟨O, hO⟩ := aSl (C := CF) (rec := R9) (nt := 179) 899 bXl
 have key : ∀ kk : K4T, oL R9 899 kk a b c d h = eNh (O (aSc a b c d) h) XL krN (kb kk) := fun kk => (aPn kk a b c d h).trans (hO _ _ _ _ _)
 cases ho : O (aSc a b c d) h with
 | none => exact .inr ⟨none, (by rintro ⟨_, _, _, _, _, e⟩; cases e), fun kk => by rw [key kk, ho]; rfl⟩
 | some o =>
  cases o with
  | n e h' => exact .inl ⟨e 5, e 155, e 156, e 157, h', fun kk => by rw [key kk, ho]; rfl⟩
  | r e h' => exact .inr ⟨some (.t [e 2, e 3], h'), (by rintro ⟨_, _, _, _, _, q⟩; cases q), fun kk => by rw [key kk, ho]; exact aVl e h'⟩
  | x i e h' =>
   refine .inr ⟨XL i e h', ?_, fun kk => by rw [key kk, ho]; rfl⟩
   rintro ⟨_, _, _, _, _, q⟩
   unfold XL xs at q
   cases hi : Nat.beq i 7 with
   | true => rw [hi] at q; cases q
   | false => rw [hi] at q; cases q
theorem zP (n : Nat) (kk : K4T) : itN (n + 1) kk = oL R9 899 (itN n kk) := rfl
theorem cHd : ∀ (n : Nat) (a b c d : DV) (h : Hp) (a' b' c' d' : DV) (h' : Hp), itN n cAv a b c d h = some (.t [a', b', c', d'], h') → ∀ kk : K4T, itN n kk a b c d h = kk a' b' c' d' h'
 | 0, a, b, c, d, h, a', b', c', d', h', e, kk => by
  have e' : (some (.t [a, b, c, d], h) : aK) = some (.t [a', b', c', d'], h') := e
  simp only [bH, bN, DV.t.injEq, List.cons.injEq, and_true] at e'
  obtain ⟨⟨rfl, rfl, rfl, rfl⟩, rfl⟩ := e'
  rfl
 | n + 1, a, b, c, d, h, a', b', c', d', h', e, kk => by
  rw [zP] at e ⊢
  rcases cFh a b c d h with ⟨a1, b1, c1, d1, h1, hs⟩ | ⟨r, hr, hs⟩
  ·rw [hs] at e ⊢
   exact cHd n a1 b1 c1 d1 h1 a' b' c' d' h' e kk
  ·rw [hs] at e
   exact absurd ⟨_, _, _, _, _, e⟩ hr
theorem cJg (kk : K4T) (hk : ∀ a b c d, SimP true (kk a b c d) (kk a b c d)) : ∀ (n : Nat) (a b c d : DV), SimP true (itN n kk a b c d) (itN n kk a b c d)
 | 0, a, b, c, d => hk a b c d
 | n + 1, a, b, c, d => by
  have ih := cJg kk hk n
  rw [zP]
  have hX : ∀ j, SimK true (XL j) (XL j) := by
   intro j env h h' S
   unfold XL xs
   cases Nat.beq j 7 with
   | true => exact SimR.some S _
   | false => exact SimR.none _
  have hR : SimK true krN krN := fun env h h' S => by rw [aVl, aVl]; exact SimR.some S _
  have hK : SimK true (kb (itN n kk)) (kb (itN n kk)) := fun env => ih _ _ _ _
  have hc := gS (gg := true) (P := Tryz.prog) (I2 := CF.I) (I1 := CF.I) (rec2 := R9) (rec1 := R9) (fun g args => bNb 899 g args) 179 899 0 bXl XL XL krN krN (kb (itN n kk)) (kb (itN n kk)) hX hR hK (aSc a b c d)
  intro h h' S
  rw [aPn, aPn]
  exact hc h h' S
theorem aCz (m : Nat) : ∀ n, oR R9 899 (m + n) = itN n (oR R9 899 m)
 | 0 => rfl
 | n + 1 => by
  rw [zP, ← aCz m n]
  rfl
theorem kD {k n nx nx' : Nat} {L L' : List (Pos × Ob)} (hc : mK (oG k n (jD nx L)) (lF (k + n)) nx' L' = true) (m : Nat) {h : Hp} (S : Sim true (jD nx L) h) :
  ∃ h', Sim true (jD nx' L') h' ∧ oR R9 899 (m + n) (.p (bD 7) 0) (.l (bD 431) 0 75 75) (.i .i64 (.ofNat 75)) (.i .i64 (.ofNat k)) h =
   oR R9 899 m (.p (bD 7) 0) (.l (bD 431) 0 75 75) (.i .i64 (.ofNat 75)) (.i .i64 (.ofNat (k + n))) h' := by
 obtain ⟨g, e1, e2⟩ := bHk hc
 obtain ⟨g', f1, f2⟩ := cJg cAv (fun a b c d h h' S => SimR.some S _) n _ _ _ _ (jD nx L) h S _ _ e1
 refine ⟨g', e2.trans f2, ?_⟩
 rw [aCz]
 exact cHd n _ _ _ _ _ _ _ _ _ _ f1 _
theorem bMp (k : K) : aM CF R9 179 899 (cf Tryz.f7) x0 krN k = aM CF R9 179 899 cWi x0 krN (aM CF R9 179 899 bUw x0 krN (aM CF R9 179 899 eGr x0 krN k)) := by kernel_rfl
theorem dPp : aM CF R9 179 899 eGr x0 krN krN = fun env h => jI R9 899 (env 5) h := dJd R9 899
theorem dCh : aM CF R9 179 899 bUw x0 krN (fun env h => jI R9 899 (env 5) h) = fun env h => cVg R9 899 (env 5) (env 155) (env 156) (env 157) h :=
 (by kernel_rfl : aM CF R9 179 899 bUw x0 krN (fun env h => jI R9 899 (env 5) h) = D7 R9 899 (cL (cR (cL (cR (cR (cR (cR (cR (cR (cf Tryz.f7)))))))))) (xs x0 7 (fun (env : bB) (h : Hp) => jI R9 899 (env 5) h)) (fun (env : bB) (h : Hp) => jI R9 899 (env 5) h)).trans (dHy R9 899)
theorem dPx (x : DV) (h : Hp) : aE CF R9 899 7 [x] h = aM CF R9 179 899 (cf Tryz.f7) x0 krN krN (aI [x]) h := by kernel_rfl
theorem dAy : ∃ e h', Sim true (jD 432 (nW 20000 553 84 18 [1076, 1096, 6, 24, 42, 60, 78, 96, 114, 132, 150, 168, 186, 204, 222, 240, 258, 276] [(10, 0), (19, 0), (46, 0), (55, 0), (64, 0), (91, 0), (100, 0), (109, 0), (118, 0), (127, 0), (145, 0)] 0)) h' ∧ e 5 = .p (bD 7) 0 ∧ e 155 = .l (bD 431) 0 75 75 ∧ e 156 = .i .i64 (.ofNat 75) ∧ e 157 = .i .i64 (.ofNat 0) ∧
  ∀ X kr k, aM CF R9 179 899 cWi X kr k (aI [.i .i64 (.ofNat 20000)]) hS = k e h' := by
 obtain ⟨O, hO⟩ := aSl (C := CF) (rec := R9) (nt := 179) 899 cWi
 obtain ⟨g, e1, e2⟩ := bHk he0
 have e1' : eNh (O (aI [.i .i64 (.ofNat 20000)]) hS) (fun _ _ _ => none) (fun _ _ => none) dYj = some (.t (lF 0), g) := (hO _ _ _ _ _).symm.trans e1
 cases ho : O (aI [.i .i64 (.ofNat 20000)]) hS with
 | none => rw [ho] at e1'; cases e1'
 | some o =>
  rw [ho] at e1'
  cases o with
  | x i e h' => cases e1'
  | r e h' => cases e1'
  | n e h' =>
   have q : (some (.t [e 5, e 155, e 156, e 157], h') : aK) = some (.t (lF 0), g) := e1'
   simp only [lF, bH, bN, DV.t.injEq, List.cons.injEq, and_true] at q
   obtain ⟨⟨q1, q2, q3, q4⟩, q5⟩ := q
   exact ⟨e, h', by rw [q5]; exact e2, q1, q2, q3, q4, fun X kr k => by rw [hO, ho]; rfl⟩
theorem dKs : ∃ g, fW 900 7 [.i .i64 (.ofNat 20000)] hS = some (.t [.p (bD 7) 0, .i .i64 (.ofNat 0)], g) ∧ Sim true (jD 26855 (nW 20000 4321 583 80 [8370, 1096, 6, 24, 42, 60, 78, 96, 114, 132, 150, 168, 186, 204, 222, 240, 258, 276] [] 75)) g := by
 obtain ⟨e, h0, S0, p1, p2, p3, p4, hpre⟩ := dAy
 obtain ⟨h1, S1, c1⟩ := kD hc0 894 S0
 obtain ⟨h2, S2, c2⟩ := kD hc5 889 S1
 obtain ⟨h3, S3, c3⟩ := kD eJe 884 S2
 obtain ⟨h4, S4, c4⟩ := kD eJn 879 S3
 obtain ⟨h5, S5, c5⟩ := kD eJs 874 S4
 obtain ⟨h6, S6, c6⟩ := kD eMg 869 S5
 obtain ⟨h7, S7, c7⟩ := kD eJt 864 S6
 obtain ⟨h8, S8, c8⟩ := kD eJx 859 S7
 obtain ⟨h9, S9, c9⟩ := kD eLz 854 S8
 obtain ⟨h10, S10, c10⟩ := kD eHl 849 S9
 obtain ⟨h11, S11, c11⟩ := kD eJc 844 S10
 obtain ⟨h12, S12, c12⟩ := kD eLd 839 S11
 obtain ⟨h13, S13, c13⟩ := kD eKx 834 S12
 obtain ⟨h14, S14, c14⟩ := kD eKl 829 S13
 obtain ⟨h15, S15, c15⟩ := kD eLu 824 S14
 refine ⟨h15, ?_, S15⟩
 have e0 : fW 900 7 [.i .i64 (.ofNat 20000)] hS = aE CF R9 899 7 [.i .i64 (.ofNat 20000)] hS := aSa 7 rfl 899 _ _
 rw [e0, dPx, bMp, dPp, dCh, hpre]
 show cVg R9 899 (e 5) (e 155) (e 156) (e 157) h0 = _
 rw [p1, p2, p3, p4]
 show oR R9 899 899 _ _ _ _ h0 = _
 refine c1.trans ?_
 refine c2.trans ?_
 refine c3.trans ?_
 refine c4.trans ?_
 refine c5.trans ?_
 refine c6.trans ?_
 refine c7.trans ?_
 refine c8.trans ?_
 refine c9.trans ?_
 refine c10.trans ?_
 refine c11.trans ?_
 refine c12.trans ?_
 refine c13.trans ?_
 refine c14.trans ?_
 refine c15.trans ?_
 rw [show (824 : Nat) = 823 + 1 from rfl]
 show oL R9 899 (oR R9 899 823) _ _ _ _ h15 = _
 unfold oL
 have hl : decide (Int.ofNat 75 < Int.ofNat 75) = false := rfl
 simp only [fV, bC, hl, cU]
 rfl
end Go.Dd

namespace Go.Dd
open Go.Proofs
noncomputable def HLN : List (Pos × Ob) := nW 20000 4321 583 80 [8370, 1096, 6, 24, 42, 60, 78, 96, 114, 132, 150, 168, 186, 204, 222, 240, 258, 276] [] 75
noncomputable def hN : Hp := jD 26855 HLN
noncomputable def iE (l : List (Pos × Ob)) (t : Tr Ob) : Tr Ob := List.rec (motive := fun _ => Tr Ob) t (fun x _ ih => Tr.set x.2 x.1 ih) l
noncomputable def aZy (p : List DV → Bool) (v0 : DV) (nx0 : Nat) (HL : List (Pos × Ob)) (args : List DV) (h : Hp) : aK :=
 bif p args && nC h.next (bD 1) then some (v0, ⟨bD nx0, iE HL h.bl⟩) else none
noncomputable def bHz (args : List DV) : Bool := match args with
 | [.i .i64 (.ofNat m)] => Nat.beq m 20000
 | _ => false
noncomputable def newK : List DV → Hp → aK := aZy bHz (.t [.p (bD 7) 0, .i .i64 (.ofNat 0)]) 26855 HLN
noncomputable def aCg (n : Nat) : RT := fun g args h => bif Nat.beq g 7 then newK args h else fW n g args h
noncomputable def okB (r : aK) : Bool := match r with
 | some (.b x, _) => x
 | _ => false
theorem dTo : okB (s9 (aCg 900) 900 hS) = true := by kernel_rfl
end Go.Dd

namespace Go.Dd
open Go.Proofs
abbrev iD (n : Int) : DV := .i .i64 n
structure Wd (h : Hp) (M : MemV) (R : List Int) (es : List (DV × DV)) : Prop where
 w : h.bl.get (bD 7) = some (.row .ex [.p (bD 3) 0, .l (bD 4) 0 18 18, .m (bD 5), .m (bD 6)])
 r : h.bl.get (bD 4) = some (.row .ex (R.map iD))
 rl : R.length = 18
 sy : h.bl.get (bD 5) = some (.mp es)
 mem : mE (bD 3) h = some M
 nx : 1031 ≤ h.next.toNat
 wb : M.wb = bD 1
 pb : M.pb = bD 2
structure Good (M : MemV) : Prop where
 n : M.n < 1000000
 le : M.fin ≤ M.n
 lo : 3 ≤ M.fin
 hi : M.n ≤ 131072
 md : M.made < 900000
 ob : ∀ a, M.pl.get a ≠ 0 → 3 ≤ a ∧ ∃ hd : Nat, M.t.get a = .ofNat hd ∧ hd < 1000000000000 ∧ a + 3 + hd / 4 ≤ M.fin ∧ cE (M.t.get (a + 1)) M.pl ≠ 0
theorem shS (f : FuncId) (hf : rgB f = false) (n : Nat) (args : List DV) (h : Hp) : fW (n + 1) f args h = aE CF (fW n) n f args h := aSa f hf n args h
theorem gM (b : Pos) (o : Nat) (h : Hp) : aQ (.p b o) h = some (.p b o, h) := Eq.trans rfl rfl
theorem xJ (b : Pos) (o k : Nat) (h : Hp) : aB k (.p b o) h = some (.p b (o + k), h) := Eq.trans rfl rfl
section
theorem Wd.l0 {h : Hp} {M : MemV} {R : List Int} {es : List (DV × DV)} (W : Wd h M R es) : aA (.p (bD 7) 0) h = some (.p (bD 3) 0, h) := by
 simp only [aA, cellD, rowOf, W.w, List.getElem?_cons_zero, DV.one, if_true]
theorem Wd.l00 {h : Hp} {M : MemV} {R : List Int} {es : List (DV × DV)} (W : Wd h M R es) : aA (.p (bD 7) (0 + 0)) h = some (.p (bD 3) 0, h) := W.l0
theorem Wd.l1 {h : Hp} {M : MemV} {R : List Int} {es : List (DV × DV)} (W : Wd h M R es) : aA (.p (bD 7) (0 + 1)) h = some (.l (bD 4) 0 18 18, h) := by
 simp only [aA, cellD, rowOf, W.w, Nat.zero_add, List.getElem?_cons_succ, List.getElem?_cons_zero, DV.one, if_true]
theorem Wd.l2 {h : Hp} {M : MemV} {R : List Int} {es : List (DV × DV)} (W : Wd h M R es) : aA (.p (bD 7) (0 + 2)) h = some (.m (bD 5), h) := by
 simp only [aA, cellD, rowOf, W.w, Nat.zero_add, List.getElem?_cons_succ, List.getElem?_cons_zero, DV.one, if_true]
theorem Wd.root {h : Hp} {M : MemV} {R : List Int} {es : List (DV × DV)} (W : Wd h M R es) {i : Nat} (hi : i < 18) : aA (.p (bD 4) i) h = some (iD (R.getD i 0), h) := by
 have e : (R.map iD)[i]? = some (iD (R.getD i 0)) := by
  have : i < R.length := by rw [W.rl]; exact hi
  simp [List.getElem?_map, List.getElem?_eq_getElem this, List.getD]
 simp only [aA, cellD, rowOf, W.r, e, DV.one, if_true]
theorem Wd.known {h : Hp} {M : MemV} {R : List Int} {es : List (DV × DV)} (W : Wd h M R es) {i : Nat} (hi : i < 16) (n : Nat) : fW (n + 1) 34 [.p (bD 7) 0, .i .i64 (Int.ofNat i)] h = some (iD (R.getD (2 + i) 0), h) := by
 rw [shS 34 rfl, dHt]
 unfold s34
 have h1 : decide (Int.ofNat i < Int.ofNat 0) = false := by simp
 have h2 : decide (Int.ofNat i ≥ Int.ofNat 16) = false := by simp; omega
 have h3 : aJ 1 (.l (bD 4) 0 18 18) (.i .i64 (Int.ofNat 2 + Int.ofNat i)) h = some (.p (bD 4) (2 + i), h) := by
  show (if (0 : Int) ≤ Int.ofNat 2 + Int.ofNat i ∧ Int.ofNat 2 + Int.ofNat i < ((18 : Nat) : Int) then some (DV.p (bD 4) (0 + (Int.ofNat 2 + Int.ofNat i).toNat * 1), h) else none) = _
  rw [if_pos (by simp; omega), show (Int.ofNat 2 + Int.ofNat i).toNat = 2 + i by simp; omega]
  simp
 simp only [g0, g1, fV, aAr, bC, jU, cM, cU, h1, h2, gM, xJ, W.l1, iT _ _ _ (show -9223372036854775808 ≤ Int.ofNat 2 + Int.ofNat i ∧ Int.ofNat 2 + Int.ofNat i ≤ 9223372036854775807 by simp; omega), h3, W.root (show 2 + i < 18 by omega)]
theorem Wd.is {h : Hp} {M : MemV} {R : List Int} {es : List (DV × DV)} (W : Wd h M R es) (w : Int) : isF [.p (bD 3) 0, .i .i64 w] h = some (.b (!(Nat.beq (cE w M.pl) 0)), h) := by
 simp only [isF, kE, W.mem]
end
end Go.Dd

namespace Go.Dd
open Go.Proofs
theorem pn1 : (bD 1).toNat = 1024 := by kernel_rfl
theorem pn2 : (bD 2).toNat = 1025 := by kernel_rfl
theorem pn3 : (bD 3).toNat = 1026 := by kernel_rfl
theorem pn4 : (bD 4).toNat = 1027 := by kernel_rfl
theorem pn5 : (bD 5).toNat = 1028 := by kernel_rfl
theorem pn6 : (bD 6).toNat = 1029 := by kernel_rfl
theorem pn7 : (bD 7).toNat = 1030 := by kernel_rfl
theorem pne {a b : Nat} {p q : Pos} (hp : p.toNat = a) (hq : q.toNat = b) (h : a ≠ b) : p ≠ q := fun e => h (by rw [← hp, ← hq, e])
theorem pnl {a : Nat} {p q : Pos} (hp : p.toNat = a) (hq : q.toNat < 1024 ∨ 1029 ≤ q.toNat) (h : 1024 ≤ a ∧ a < 1029) : q ≠ p := fun e => by rw [e, hp] at hq; omega
theorem lK {m : Pos} {h : Hp} {M : MemV} (e : mE m h = some M) : h.bl.get m = some (.row .ex [.l M.wb 0 M.n M.n, .i .i64 (.ofNat M.fin), .i .i64 (.ofNat M.made), .m M.pb]) ∧ h.bl.get M.wb = some (.big M.n M.t) ∧
  h.bl.get M.pb = some (.mi M.pl) ∧ M.n < 1000000 ∧ M.fin ≤ M.n ∧ M.made < 1000000 := by
 unfold mE at e
 split at e <;> (try (cases e; done))
 rename_i wb n c fin made pb hr
 split at e <;> (try (cases e; done))
 rename_i n' t pl h1 h2
 cases hc : (Nat.beq n n' && Nat.beq n c) with
 | false => rw [hc] at e; cases e
 | true =>
  rw [hc, cond_true] at e
  simp only [Bool.and_eq_true] at hc
  have q1 := Nat.eq_of_beq_eq_true hc.1
  have q2 := Nat.eq_of_beq_eq_true hc.2
  subst q1; subst q2
  cases hd : (Nat.blt n 1000000 && (Nat.ble fin n && Nat.blt made 1000000)) with
  | false => rw [hd] at e; cases e
  | true =>
   rw [hd, cond_true] at e
   cases e
   simp only [Bool.and_eq_true, jF, jY, decide_eq_true_eq] at hd
   exact ⟨hr, h1, h2, hd.1, hd.2.1, hd.2.2⟩
theorem nV {m : Pos} {h : Hp} {M : MemV} (h1 : h.bl.get m = some (.row .ex [.l M.wb 0 M.n M.n, .i .i64 (.ofNat M.fin), .i .i64 (.ofNat M.made), .m M.pb])) (h2 : h.bl.get M.wb = some (.big M.n M.t))
  (h3 : h.bl.get M.pb = some (.mi M.pl)) (h4 : M.n < 1000000) (h5 : M.fin ≤ M.n) (h6 : M.made < 1000000) : mE m h = some M := by
 unfold mE
 simp only [h1, h2, h3]
 have q1 : (Nat.beq M.n M.n && Nat.beq M.n M.n) = true := by simp
 have q2 : (Nat.blt M.n 1000000 && (Nat.ble M.fin M.n && Nat.blt M.made 1000000)) = true := by simp [jF, jY, h4, h5, h6]
 rw [q1, cond_true, q2, cond_true]
structure Up (h h' : Hp) : Prop where
 next : h.next.toNat ≤ h'.next.toNat
 get : ∀ b : Pos, (b.toNat < 1024 ∨ 1029 ≤ b.toNat) → b.toNat < h.next.toNat → h'.bl.get b = h.bl.get b
theorem Up.refl (h : Hp) : Up h h := ⟨Nat.le_refl _, fun _ _ _ => rfl⟩
theorem Up.trans {a b c : Hp} (u : Up a b) (v : Up b c) : Up a c := ⟨Nat.le_trans u.next v.next, fun p h1 h2 => (v.get p h1 (Nat.lt_of_lt_of_le h2 u.next)).trans (u.get p h1 h2)⟩
def SlI (x : DV) (l : List Int) (h : Hp) : Prop := (x = .l0 ∧ l = []) ∨ ∃ b cap k, x = .l b 0 l.length cap ∧ h.bl.get b = some (.row k (l.map iD)) ∧ (b.toNat < 1024 ∨ 1029 ≤ b.toNat) ∧ b.toNat < h.next.toNat
theorem SlI.up {x : DV} {l : List Int} {h h' : Hp} (s : SlI x l h) (u : Up h h') : SlI x l h' := by
 rcases s with ⟨rfl, rfl⟩ | ⟨b, cap, k, e, g, h1, h2⟩
 ·exact .inl ⟨rfl, rfl⟩
 ·exact .inr ⟨b, cap, k, e, by rw [u.get b h1 h2]; exact g, h1, Nat.lt_of_lt_of_le h2 u.next⟩
theorem SlI.len {x : DV} {l : List Int} {h h' : Hp} (s : SlI x l h) : bO x h' = some (iD l.length, h') := by
 rcases s with ⟨rfl, rfl⟩ | ⟨b, cap, k, e, g, h1, h2⟩
 ·rfl
 ·rw [e]; rfl
theorem SlI.at {x : DV} {l : List Int} {h : Hp} (s : SlI x l h) {i : Nat} {v : Int} (hi : l[i]? = some v) : ∃ a, aJ 1 x (.i .i64 (Int.ofNat i)) h = some (a, h) ∧ aA a h = some (iD v, h) := by
 have hl : i < l.length := by
  rcases Nat.lt_or_ge i l.length with q | q
  ·exact q
  ·rw [List.getElem?_eq_none q] at hi; cases hi
 rcases s with ⟨rfl, rfl⟩ | ⟨b, cap, k, e, g, h1, h2⟩
 ·simp at hi
 ·refine ⟨.p b i, ?_, ?_⟩
  ·rw [e]
   show (if (0 : Int) ≤ Int.ofNat i ∧ Int.ofNat i < ((l.length : Nat) : Int) then some (DV.p b (0 + (Int.ofNat i).toNat * 1), h) else none) = _
   rw [if_pos ⟨by simp, by simpa using hl⟩]
   simp
  ·have e : (l.map iD)[i]? = some (iD v) := by rw [List.getElem?_map, hi]; rfl
   simp only [aA, cellD, rowOf, g, e, DV.one, if_true]
section
theorem Wd.up {h : Hp} {M : MemV} {R : List Int} {es : List (DV × DV)} (W : Wd h M R es) {h' : Hp} (u : Up h h') (e : ∀ b : Pos, b.toNat < 1031 → h'.bl.get b = h.bl.get b) : Wd h' M R es := by
 obtain ⟨m1, m2, m3, m4, m5, m6⟩ := lK W.mem
 refine ⟨by rw [e _ (by rw [pn7]; omega)]; exact W.w, by rw [e _ (by rw [pn4]; omega)]; exact W.r, W.rl, by rw [e _ (by rw [pn5]; omega)]; exact W.sy, ?_, Nat.le_trans W.nx u.next, W.wb, W.pb⟩
 exact nV (by rw [e _ (by rw [pn3]; omega)]; exact m1) (by rw [e _ (by rw [W.wb, pn1]; omega)]; exact m2) (by rw [e _ (by rw [W.pb, pn2]; omega)]; exact m3) m4 m5 m6
theorem Wd.new {h : Hp} {M : MemV} {R : List Int} {es : List (DV × DV)} (W : Wd h M R es) (o : Ob) : Up h ⟨h.next.succ, Tr.set o h.next h.bl⟩ ∧ Wd ⟨h.next.succ, Tr.set o h.next h.bl⟩ M R es := by
 have u : Up h ⟨h.next.succ, Tr.set o h.next h.bl⟩ := ⟨by show _ ≤ (h.next.succ).toNat; rw [eMj]; omega, fun b h1 h2 => by
  show (Tr.set o h.next h.bl).get b = _
  rw [eMh]
  intro e; subst e; omega⟩
 refine ⟨u, W.up u fun b hb => ?_⟩
 show (Tr.set o h.next h.bl).get b = _
 rw [eMh]
 intro e; subst e
 have := W.nx
 omega
theorem Wd.setT {h : Hp} {M : MemV} {R : List Int} {es : List (DV × DV)} (W : Wd h M R es) (t' : WT) : Wd ⟨h.next, Tr.set (.big M.n t') M.wb h.bl⟩ { M with t := t' } R es ∧ Up h ⟨h.next, Tr.set (.big M.n t') M.wb h.bl⟩ := by
 obtain ⟨m1, m2, m3, m4, m5, m6⟩ := lK W.mem
 have ne : ∀ b : Pos, b.toNat ≠ 1024 → (Tr.set (.big M.n t') M.wb h.bl).get b = h.bl.get b := fun b hb => by
  rw [eMh]
  intro e; rw [e, W.wb, pn1] at hb; exact hb rfl
 refine ⟨⟨by rw [ne _ (by rw [pn7]; omega)]; exact W.w, by rw [ne _ (by rw [pn4]; omega)]; exact W.r, W.rl, by rw [ne _ (by rw [pn5]; omega)]; exact W.sy, ?_, W.nx, W.wb, W.pb⟩, ⟨Nat.le_refl _, fun b h1 h2 => ne b (by omega)⟩⟩
 exact nV (by show (Tr.set (.big M.n t') M.wb h.bl).get _ = _; rw [ne _ (by rw [pn3]; omega)]; exact m1) (by show (Tr.set (.big M.n t') M.wb h.bl).get M.wb = _; rw [eMi])
  (by show (Tr.set (.big M.n t') M.wb h.bl).get M.pb = _; rw [ne _ (by rw [W.pb, pn2]; omega)]; exact m3) m4 m5 m6
end
end Go.Dd

namespace Go.Dd
open Go.Proofs
noncomputable def MemV.mk1 (M : MemV) (f c : Nat) (cls : Int) : MemV := ⟨M.wb, M.n, M.fin + (c + 3), M.made + 1, M.pb,
 mM (((M.t.set M.fin (.ofNat (c * 4 + f))).set (M.fin + 1) cls).set (M.fin + 2) (.ofNat (M.made + 1))) c (M.fin + 3), M.pl.set M.fin (.ofNat 1)⟩
def okV (f : Nat) (pl : WT) (v : Int) : Prop := match f with
 | 0 => lO v pl = true
 | 2 => 0 ≤ v ∧ v ≤ 255
 | _ => True
theorem cVj {c : Int} {pl : WT} (h : cE c pl ≠ 0) : rT c pl = true := by
 unfold rT
 split
 ·rfl
 ·have : Nat.beq (cE c pl) 0 = false := by
   cases hb : Nat.beq (cE c pl) 0 with
   | true => exact absurd (Nat.eq_of_beq_eq_true hb) h
   | false => rfl
  rw [this]; rfl
section
theorem Wd.make {h : Hp} {M : MemV} {R : List Int} {es : List (DV × DV)} (W : Wd h M R es) (G : Good M) {cls : Int} (hc : cE cls M.pl ≠ 0) {f c : Nat} (hf : f ≤ 2) (h256 : c ≤ 256) (room : M.fin + c + 3 ≤ M.n) :
  ∃ h1, oQ [.p (bD 3) 0, .i .i64 cls, .i .i64 (.ofNat f), .i .i64 (.ofNat c)] h = some (.t [.i .i64 (.ofNat (M.fin * 2)), .i .i64 (.ofNat 0)], h1) ∧ Wd h1 (M.mk1 f c cls) R es ∧ Up h h1 ∧ h1.next = h.next := by
 obtain ⟨m1, m2, m3, m4, m5, m6⟩ := lK W.mem
 have q1 : (!(rT cls M.pl)) = false := by rw [cVj hc]; rfl
 have q2 : (Nat.ble f 2 && Nat.ble c 256) = true := by simp [jY, hf, h256]
 have q3 : Nat.blt (Nat.sub M.n M.fin) (Nat.add c 3) = false := by
  rw [jF]; exact decide_eq_false (by show ¬ M.n - M.fin < c + 3; omega)
 have hlo := G.lo
 have hhi := G.hi
 have hmd := G.md
 have q4 : (Nat.ble 3 M.fin && Nat.ble M.fin 131072) = true := by simp [jY]; omega
 refine ⟨⟨h.next, Tr.set (.row .ex [.l M.wb 0 M.n M.n, .i .i64 (.ofNat (M.fin + (c + 3))), .i .i64 (.ofNat (M.made + 1)), .m M.pb]) (bD 3) (Tr.set (.mi (M.pl.set M.fin (.ofNat 1))) M.pb (Tr.set (.big M.n (M.mk1 f c cls).t) M.wb h.bl))⟩, ?_, ?_, ?_, ?_⟩
 ·simp only [oQ, W.mem, q1, q2, q3, q4, cond_false, cond_true]
  rfl
 ·have ne : ∀ (b : Pos) (o1 o2 o3 : Ob), b.toNat ≠ 1024 → b.toNat ≠ 1025 → b.toNat ≠ 1026 → (Tr.set o1 (bD 3) (Tr.set o2 M.pb (Tr.set o3 M.wb h.bl))).get b = h.bl.get b := fun b o1 o2 o3 h1 h2 h3 => by
   rw [eMh _ _ _ _ (fun e => h3 (by rw [e, pn3])), eMh _ _ _ _ (fun e => h2 (by rw [e, W.pb, pn2])), eMh _ _ _ _ (fun e => h1 (by rw [e, W.wb, pn1]))]
  refine ⟨(ne _ _ _ _ (by rw [pn7]; omega) (by rw [pn7]; omega) (by rw [pn7]; omega)).trans W.w, (ne _ _ _ _ (by rw [pn4]; omega) (by rw [pn4]; omega) (by rw [pn4]; omega)).trans W.r, W.rl,
   (ne _ _ _ _ (by rw [pn5]; omega) (by rw [pn5]; omega) (by rw [pn5]; omega)).trans W.sy, ?_, W.nx, W.wb, W.pb⟩
  refine nV (by show (Tr.set _ (bD 3) _).get (bD 3) = _; rw [eMi]; rfl) ?_ ?_ m4 (show M.fin + (c + 3) ≤ M.n by omega) (show M.made + 1 < 1000000 by omega)
  ·show (Tr.set _ (bD 3) (Tr.set _ M.pb (Tr.set _ M.wb h.bl))).get M.wb = _
   rw [eMh _ _ _ _ (by rw [W.wb]; exact pne pn1 pn3 (by omega)), eMh _ _ _ _ (by rw [W.wb, W.pb]; exact pne pn1 pn2 (by omega))]
   exact eMi _ _ _
  ·show (Tr.set _ (bD 3) (Tr.set _ M.pb (Tr.set _ M.wb h.bl))).get M.pb = _
   rw [eMh _ _ _ _ (by rw [W.pb]; exact pne pn2 pn3 (by omega))]
   exact eMi _ _ _
 ·refine ⟨Nat.le_refl _, fun b h1 h2 => ?_⟩
  show (Tr.set _ (bD 3) (Tr.set _ M.pb (Tr.set _ M.wb h.bl))).get b = _
  rw [eMh _ _ _ _ (pnl pn3 h1 (by omega)), eMh _ _ _ _ (by rw [W.pb]; exact pnl pn2 h1 (by omega)), eMh _ _ _ _ (by rw [W.wb]; exact pnl pn1 h1 (by omega))]
 ·rfl
theorem Wd.put {h : Hp} {M : MemV} {R : List Int} {es : List (DV × DV)} (W : Wd h M R es) {o v : Int} {i hd : Nat} (ho : cE o M.pl ≠ 0) (hh : M.t.get (cE o M.pl) = .ofNat hd) (hb : hd < 1000000000000) (hi : i < hd / 4) (hn : cE o M.pl + 3 + hd / 4 ≤ M.n) (hv : okV (hd % 4) M.pl v) :
  aCj [.p (bD 3) 0, .i .i64 o, .i .i64 (.ofNat i), .i .i64 v] h = some (.i .i64 (.ofNat 0), ⟨h.next, Tr.set (.big M.n (M.t.set (cE o M.pl + 3 + i) v)) M.wb h.bl⟩) := by
 have b0 : Nat.beq (cE o M.pl) 0 = false := by
  cases hb : Nat.beq (cE o M.pl) 0 with
  | true => exact absurd (Nat.eq_of_beq_eq_true hb) ho
  | false => rfl
 have b1 : Nat.blt (Nat.add (cE o M.pl) 1) M.n = true := by
  rw [jF]; exact decide_eq_true (show cE o M.pl + 1 < M.n by omega)
 have b2 : Nat.blt hd 1000000000000 = true := by rw [jF]; exact decide_eq_true hb
 have b3 : Nat.ble (Nat.div hd 4) i = false := by rw [jY]; exact decide_eq_false (show ¬ hd / 4 ≤ i by omega)
 have b4 : Nat.blt (Nat.add (Nat.add (cE o M.pl) 3) i) M.n = true := by rw [jF]; exact decide_eq_true (show cE o M.pl + 3 + i < M.n by omega)
 simp only [aCj, kE, W.mem, iG, b0, cond_false, jJ, b1, cond_true, hh, b2, b3, b4]
 show (match hd % 4 with
  | 0 => bif lO v M.pl then nT M (cE o M.pl + 3 + i) v h else some (.i .i64 (.ofNat 6), h)
  | 2 => (match (generalizing := false) v with
   | .ofNat c => bif Nat.ble c 255 then nT M (cE o M.pl + 3 + i) v h else some (.i .i64 (.ofNat 6), h)
   | .negSucc _ => some (.i .i64 (.ofNat 6), h))
  | _ => nT M (cE o M.pl + 3 + i) v h) = _
 have hm : hd % 4 < 4 := Nat.mod_lt _ (by omega)
 generalize hd % 4 = f at hv hm
 match f, hv with
 | 0, hv =>
  change lO v M.pl = true at hv
  simp only [hv, cond_true]
  rfl
 | 1, hv => rfl
 | 2, hv =>
  change 0 ≤ v ∧ v ≤ 255 at hv
  cases v with
  | negSucc c => omega
  | ofNat c =>
   have : Nat.ble c 255 = true := by rw [jY]; exact decide_eq_true (by have := hv.2; simp at this; omega)
   simp only [this, cond_true]
   rfl
 | 3, hv => rfl
 | n + 4, hv => omega
end
theorem fill {R : List Int} {es : List (DV × DV)} {o : Int} {x : DV} {a hd n : Nat} {pl : WT} {rec : FuncId → List DV → Hp → aK} (ha : cE o pl = a) (h0 : a ≠ 0) (hb : hd < 1000000000000) : ∀ (l2 done : List Int) (m : Nat) (M : MemV) (h : Hp), Wd h M R es → SlI x (done ++ l2) h →
  M.pl = pl → M.t.get a = .ofNat hd → hd / 4 = (done ++ l2).length → a + 3 + hd / 4 ≤ M.n → M.n ≤ 131072 → (∀ v ∈ l2, okV (hd % 4) pl v) → l2.length < m →
  ∃ h' t', pG rec n m (.p (bD 7) 0) (.i .i64 o) x (iD (done ++ l2).length) (.i .i64 (.ofNat done.length)) h = some (.t [.i .i64 o, .i .i64 (.ofNat 0)], h') ∧ Wd h' { M with t := t' } R es ∧ Up h h' ∧ h'.next = h.next ∧
   ∀ j, t'.get j = if a + 3 + done.length ≤ j ∧ j < a + 3 + (done ++ l2).length then l2.getD (j - (a + 3 + done.length)) 0 else M.t.get j
 | [], done, m + 1, M, h, W, S, e1, e2, e3, e4, e5, e6, e7 => by
  refine ⟨h, M.t, ?_, W, Up.refl h, rfl, fun j => by rw [if_neg (by simp)]⟩
  show rV rec n (pG rec n m) _ _ _ _ _ h = _
  unfold rV
  have hl : decide (Int.ofNat done.length < ((done ++ []).length : Int)) = false := by simp
  simp only [fV, bC, hl, cU]
  rfl
 | v :: l2, done, m + 1, M, h, W, S, e1, e2, e3, e4, e5, e6, e7 => by
  subst e1
  obtain ⟨ad, q1, q2⟩ := S.at (i := done.length) (v := v) (by simp)
  have hp := W.put (o := o) (v := v) (i := done.length) (hd := hd) (by rw [ha]; exact h0) (by rw [ha]; exact e2) hb (by rw [e3]; simp) (by rw [ha]; exact e4) (e6 v (by simp))
  rw [ha] at hp
  obtain ⟨W1, U1⟩ := W.setT (M.t.set (a + 3 + done.length) v)
  have hlen : (done ++ v :: l2).length = done.length + 1 + l2.length := by simp; omega
  have hset : ∀ j, (M.t.set (a + 3 + done.length) v).get j = if j = a + 3 + done.length then v else M.t.get j := fun j => WT.get_set _ _ _ _ (by omega)
  obtain ⟨h', t', r1, r2, r3, r4, r5⟩ := fill ha h0 hb l2 (done ++ [v]) m { M with t := M.t.set (a + 3 + done.length) v } _ W1 (by rw [List.append_assoc]; exact S.up U1) rfl (by
   show (M.t.set (a + 3 + done.length) v).get a = _
   rw [hset, if_neg (by omega)]; exact e2) (by rw [e3]; simp) e4 e5 (fun u hu => e6 u (by simp [hu])) (by simp at e7; omega)
  refine ⟨h', t', ?_, r2, U1.trans r3, r4, fun j => ?_⟩
  ·show rV rec n (pG rec n m) _ _ _ _ _ h = _
   unfold rV
   have hl : decide (Int.ofNat done.length < ((done ++ v :: l2).length : Int)) = true := by simp; omega
   simp only [fV, bC, hl, dD, q1, q2, gM, xJ, W.l00, hp]
   rw [iT _ _ _ (by simp; omega), bC]
   have el : (Int.ofNat done.length + Int.ofNat 1) = Int.ofNat (done ++ [v]).length := by simp
   rw [el]
   have el2 : (done ++ v :: l2) = done ++ [v] ++ l2 := by simp
   rw [el2]
   exact r1
  ·rw [r5 j]
   simp only [hset, laE, lcE, lnE]
   by_cases c1 : a + 3 + done.length + 1 ≤ j ∧ j < a + 3 + (done.length + 1 + l2.length)
   ·rw [if_pos (by omega), if_pos (by omega)]
    have : j - (a + 3 + done.length) = (j - (a + 3 + (done.length + (0 + 1)))) + 1 := by omega
    rw [this]
    simp
   ·rw [if_neg (by omega)]
    by_cases c2 : j = a + 3 + done.length
    ·rw [if_pos c2, if_pos (by omega)]
     subst c2
     simp
    ·rw [if_neg c2, if_neg (by omega)]
end Go.Dd

namespace Go.Dd
open Go.Proofs
structure Grown (M M' : MemV) (f : Nat) (cls : Int) (l : List Int) : Prop where
 n : M'.n = M.n
 fin : M'.fin = M.fin + (l.length + 3)
 made : M'.made = M.made + 1
 pl : M'.pl = M.pl.set M.fin (.ofNat 1)
 hd : M'.t.get M.fin = .ofNat (l.length * 4 + f)
 cl : M'.t.get (M.fin + 1) = cls
 old : ∀ j, j < M.fin → M'.t.get j = M.t.get j
 new : ∀ i v, l[i]? = some v → M'.t.get (M.fin + 3 + i) = v
theorem cZo {a : Nat} (h3 : 3 ≤ a) (hi : a ≤ 131072) : jA (.ofNat (a * 2)) = a := by
 obtain ⟨h1, h2, _⟩ := nO (.ofNat (a * 2))
 have h0 : jA (.ofNat (a * 2)) ≠ 0 := h1.2 (by simp; omega)
 have h4 := h2 h0
 have h5 : (Int.ofNat (a * 2)) / 2 = (a : Int) := by rw [Int.ofNat_eq_natCast]; omega
 rw [h5] at h4
 exact Int.ofNat.inj h4
theorem sT (pl : WT) {k : Nat} (hk : k < 16000000) (j : Nat) : (pl.set k (.ofNat 1)).get j = if j = k then 1 else pl.get j := WT.get_set _ _ _ _ hk
theorem sA {w : Int} {pl : WT} {k : Nat} (hk : k < 16000000) (h : cE w pl ≠ 0) : cE w (pl.set k (.ofNat 1)) = cE w pl := by
 have h1 := atN_pos.1 h
 have h2 : cE w (pl.set k (.ofNat 1)) ≠ 0 := atN_pos.2 ⟨h1.1, by rw [sT _ hk]; split <;> simp [h1.2]⟩
 rcases mG w pl with e | ⟨e, _⟩
 ·exact absurd e h
 ·rcases mG w (pl.set k (.ofNat 1)) with e' | ⟨e', _⟩
  ·exact absurd e' h2
  ·rw [e, e']
theorem aVc {pl : WT} {a : Nat} (h3 : 3 ≤ a) (hi : a ≤ 131072) : cE (.ofNat (a * 2)) (pl.set a (.ofNat 1)) = a := by
 have hp := cZo h3 hi
 have h2 : cE (.ofNat (a * 2)) (pl.set a (.ofNat 1)) ≠ 0 := atN_pos.2 ⟨by rw [hp]; omega, by rw [hp, sT _ (by omega), if_pos rfl]; decide⟩
 rcases mG (.ofNat (a * 2)) (pl.set a (.ofNat 1)) with e' | ⟨e', _⟩
 ·exact absurd e' h2
 ·rw [e', hp]
theorem Grown.good {M M' : MemV} {f : Nat} {cls : Int} {l : List Int} (g : Grown M M' f cls l) (G : Good M) (hc : cE cls M.pl ≠ 0) (hf : f ≤ 2) (h256 : l.length ≤ 256) (room : M.fin + l.length + 3 ≤ M.n) (hm : M.made < 899999) : Good M' := by
 have h1 := G.le
 have h2 := G.lo
 have h3 := G.hi
 refine ⟨by rw [g.n]; exact G.n, by rw [g.n, g.fin]; omega, by rw [g.fin]; omega, by rw [g.n]; exact G.hi, by rw [g.made]; omega, fun a ha => ?_⟩
 rw [g.pl, sT _ (by omega)] at ha
 by_cases e : a = M.fin
 ·subst e
  refine ⟨h2, l.length * 4 + f, g.hd, by omega, by rw [g.fin]; omega, ?_⟩
  rw [g.cl, g.pl, sA (by omega) hc]
  exact hc
 ·rw [if_neg e] at ha
  obtain ⟨p1, hd, p2, p3, p4, p5⟩ := G.ob a ha
  refine ⟨p1, hd, by rw [g.old _ (by omega)]; exact p2, p3, by rw [g.fin]; omega, ?_⟩
  rw [g.old _ (by omega), g.pl, sA (by omega) p5]
  exact p5
section
theorem Wd.make61 {h : Hp} {M : MemV} {R : List Int} {es : List (DV × DV)} (W : Wd h M R es) (G : Good M) {cls : Int} (hc : cE cls M.pl ≠ 0) {f : Nat} (hf : f ≤ 2) {x : DV} {l : List Int} (S : SlI x l h) (h256 : l.length ≤ 256) (room : M.fin + l.length + 3 ≤ M.n)
  (hv : ∀ v ∈ l, okV f (M.pl.set M.fin (.ofNat 1)) v) {n : Nat} (hn : 256 < n) :
  ∃ h' M', fW (n + 1) 87 [.p (bD 7) 0, .i .i64 cls, .i .i64 (.ofNat f), x] h = some (.t [.i .i64 (.ofNat (M.fin * 2)), .i .i64 (.ofNat 0)], h') ∧ Wd h' M' R es ∧ Up h h' ∧ h'.next = h.next ∧ Grown M M' f cls l := by
 have h1 := G.le
 have h2 := G.lo
 have h3 := G.hi
 obtain ⟨gg, e1, W1, U1, N1⟩ := W.make G hc hf h256 room
 have t1 : ∀ j, (M.mk1 f l.length cls).t.get j = if M.fin + 3 ≤ j ∧ j < M.fin + 3 + l.length then 0 else if j = M.fin + 2 then .ofNat (M.made + 1) else if j = M.fin + 1 then cls else if j = M.fin then .ofNat (l.length * 4 + f) else M.t.get j := fun j => by
  show (mM _ l.length (M.fin + 3)).get j = _
  rw [tE _ _ _ _ (by omega), WT.get_set _ _ _ _ (by omega), WT.get_set _ _ _ _ (by omega), WT.get_set _ _ _ _ (by omega)]
 have ha : cE (.ofNat (M.fin * 2)) (M.mk1 f l.length cls).pl = M.fin := aVc h2 (by omega)
 have hq : (l.length * 4 + f) / 4 = l.length := by omega
 have hr : (l.length * 4 + f) % 4 = f := by omega
 obtain ⟨h', t', e2, W2, U2, N2, q⟩ := fill (n := n) (rec := fW n) (o := .ofNat (M.fin * 2)) (x := x) (a := M.fin) (hd := l.length * 4 + f) (pl := (M.mk1 f l.length cls).pl) ha (by omega) (by omega) l [] n (M.mk1 f l.length cls) gg W1
  (S.up U1) rfl (by rw [t1, if_neg (by omega), if_neg (by omega), if_neg (by omega), if_pos rfl]) (by rw [hq]; rfl) (by rw [hq]; show M.fin + 3 + l.length ≤ M.n; omega) h3 (by rw [hr]; exact hv) (by omega)
 refine ⟨h', _, ?_, W2, U1.trans U2, N2.trans N1, ?_⟩
 ·rw [shS 87 rfl, dIy]
  unfold s87 bFj bHl bIl bFv bWm
  have px0 : ∀ (a b : DV) (h : Hp), aH 0 (.t [a, b]) h = some (a, h) := fun a b h => rfl
  have px1 : ∀ (a b : DV) (h : Hp), aH 1 (.t [a, b]) h = some (b, h) := fun a b h => rfl
  have hne : (Int.ofNat 0 != Int.ofNat 0) = false := rfl
  have el : iD (l.length : Int) = .i .i64 (.ofNat l.length) := rfl
  simp only [g0, g1, g2, g3, gM, xJ, bC, W.l00, S.len (h' := h), el, e1, px0, px1, gZ, hne, cU, S.len (h' := gg)]
  exact e2
 ·have q' : ∀ j, t'.get j = if M.fin + 3 ≤ j ∧ j < M.fin + 3 + l.length then l.getD (j - (M.fin + 3)) 0 else (M.mk1 f l.length cls).t.get j := q
  refine ⟨rfl, rfl, rfl, rfl, ?_, ?_, fun j hj => ?_, fun i v hi => ?_⟩
  ·show t'.get M.fin = _
   rw [q', if_neg (by omega), t1, if_neg (by omega), if_neg (by omega), if_neg (by omega), if_pos rfl]
  ·show t'.get (M.fin + 1) = _
   rw [q', if_neg (by omega), t1, if_neg (by omega), if_neg (by omega), if_pos rfl]
  ·show t'.get j = _
   rw [q', if_neg (by omega), t1, if_neg (by omega), if_neg (by omega), if_neg (by omega), if_neg (by omega)]
  ·show t'.get (M.fin + 3 + i) = _
   have hl : i < l.length := by
    rcases Nat.lt_or_ge i l.length with q | q
    ·exact q
    ·rw [List.getElem?_eq_none q] at hi; cases hi
   rw [q', if_pos (by omega), show M.fin + 3 + i - (M.fin + 3) = i by omega]
   simp [List.getD, hi]
end
end Go.Dd

namespace Go.Dd
open Go.Proofs
theorem vN : ∀ (l : List Nat) (t : WT) (a : Nat), (∀ x ∈ l, x < 16000000) → (mkP l t).get a ≠ 0 → a ∈ l ∨ t.get a ≠ 0
 | [], t, a, _, h => .inr h
 | x :: l, t, a, hx, h => by
  rcases vN l (t.set x (.ofNat 1)) a (fun y hy => hx y (by simp [hy])) h with h1 | h1
  ·exact .inl (by simp [h1])
  ·rw [WT.get_set _ _ _ _ (hx x (by simp))] at h1
   by_cases e : a = x
   ·exact .inl (by simp [e])
   ·rw [if_neg e] at h1
    exact .inr h1
noncomputable def dHn (M : MemV) (a : Nat) : Bool := Nat.ble 3 a && (Nat.ble a 131072 && (match M.t.get a with
 | .ofNat hd => Nat.blt hd 1000000000000 && (Nat.ble (Nat.add (Nat.add a 3) (Nat.div hd 4)) M.fin && !(Nat.beq (cE (M.t.get (Nat.add a 1)) M.pl) 0))
 | .negSucc _ => false))
noncomputable def aSb (p : Nat → Bool) (l : List Nat) : Bool := List.rec (motive := fun _ => Bool) true (fun x _ ih => p x && ih) l
theorem jV {p : Nat → Bool} : ∀ {l : List Nat}, aSb p l = true → ∀ a ∈ l, p a = true
 | [], _, a, h => by cases h
 | x :: l, hl, a, h => by
  change (p x && aSb p l) = true at hl
  simp only [Bool.and_eq_true] at hl
  simp only [List.mem_cons] at h
  rcases h with rfl | h
  ·exact hl.1
  ·exact jV hl.2 a h
theorem cPm {M : MemV} {l : List Nat} (hp : M.pl = mkP l .e) (hc : aSb (dHn M) l = true) (hn : M.n ≤ 131072) (hf : M.fin ≤ M.n) (h3 : 3 ≤ M.fin) (hm : M.made < 900000) : Good M := by
 have ha : ∀ a ∈ l, dHn M a = true := jV hc
 refine ⟨by omega, hf, h3, hn, hm, fun a h => ?_⟩
 have hl : ∀ x ∈ l, x < 16000000 := fun x hx => by
  have := ha x hx
  simp only [dHn, Bool.and_eq_true, jY, decide_eq_true_eq] at this
  omega
 have hm : a ∈ l := by
  rw [hp] at h
  rcases vN l .e a hl h with h1 | h1
  ·exact h1
  ·exact absurd rfl h1
 have := ha a hm
 simp only [dHn, Bool.and_eq_true, jY, decide_eq_true_eq] at this
 obtain ⟨p1, p2, p3⟩ := this
 refine ⟨p1, ?_⟩
 cases ht : M.t.get a with
 | negSucc x => rw [ht] at p3; cases p3
 | ofNat hd =>
  rw [ht] at p3
  simp only [Bool.and_eq_true, jF, jY, decide_eq_true_eq] at p3
  obtain ⟨q1, q2, q3⟩ := p3
  refine ⟨hd, rfl, q1, q2, fun e => ?_⟩
  change (!(Nat.beq (cE (M.t.get (a + 1)) M.pl) 0)) = true at q3
  rw [e] at q3
  cases q3
noncomputable def MN : MemV := ⟨bD 1, 20000, 4321, 583, bD 2, cHn [] (mkW (zO wsF 4321) 0 .e), mkP (zO plF 583) .e⟩
def RN : List Int := [8370, 1096, 6, 24, 42, 60, 78, 96, 114, 132, 150, 168, 186, 204, 222, 240, 258, 276]
noncomputable def esN : List (DV × DV) := bLp (bJl syF 80)
theorem WN : Wd hN MN RN esN where
 w := by kernel_rfl
 r := by kernel_rfl
 rl := by kernel_rfl
 sy := by kernel_rfl
 mem := by kernel_rfl
 nx := by
  have : hN.next.toNat = 27878 := by kernel_rfl
  omega
 wb := rfl
 pb := rfl
theorem GN : Good MN := cPm (l := zO plF 583) rfl (by kernel_rfl) (by show 20000 ≤ 131072; omega) (by show 4321 ≤ 20000; omega) (by show 3 ≤ 4321; omega) (by show 583 < 900000; omega)
theorem RNb : aSb (fun i => !(Nat.beq (cE (RN.getD (2 + i) 0) MN.pl) 0)) [0, 1, 2, 3, 4, 5, 6, 7, 8, 9, 10, 11, 12, 13, 14, 15] = true := by kernel_rfl
theorem eDx (i : Nat) (hi : i < 16) : cE (RN.getD (2 + i) 0) MN.pl ≠ 0 := fun e => by
 have := jV RNb i (by simp only [List.mem_cons, List.not_mem_nil, or_false]; omega)
 rw [e] at this
 cases this
end Go.Dd

namespace Go.Dd
open Go.Proofs
theorem rg0 (rec : FuncId → List DV → Hp → aK) (k : K) (env : bB) (h : Hp) : gU CF0 rec 49 (fZ (cL (cf Tryz.f214))) (fZ (cL (cf Tryz.f214))).toList k env h = (
 bnd (bJ (env 1) h) fun v1 h1 =>
 k (bM (bM env (some 3) v1) (some 4) (.i .i64 (Int.ofNat 0))) h1) := by kernel_rfl
theorem rg1 (rec : FuncId → List DV → Hp → aK) (k : K) (env : bB) (h : Hp) : gU CF0 rec 49 (fZ (cL (cR (cf Tryz.f214)))) (fZ (cL (cR (cf Tryz.f214)))).toList k env h = (
 bnd (aQ (env 0) h) fun v1 h1 =>
 bnd (aB 0 v1 h1) fun v2 h2 =>
 bnd (aB 4 v2 h2) fun v3 h3 =>
 bnd (aA v3 h3) fun v4 h4 =>
 bnd (rec 163 [v4, (.f 240 [] [(env 3)])] h4) fun v5 h5 =>
 k (bM (bM (bM (bM (bM (bM (bM (bM env (some 6) (env 0)) (some 7) v1) (some 8) v2) (some 9) v3) (some 10) v4) (some 11) (.f 240 [] [(env 3)])) (some 12) v5) (some 5) v5) h5) := by kernel_rfl
theorem rg2 (rec : FuncId → List DV → Hp → aK) (k : K) (env : bB) (h : Hp) : gU CF0 rec 49 (fZ (cL (cL (cR (cR (cf Tryz.f214)))))) (fZ (cL (cL (cR (cR (cf Tryz.f214)))))).toList k env h = (
 bnd (aF .lss (env 5) (.i .i64 (Int.ofNat 0)) h) fun v1 h1 =>
 k (bM (bM env (some 13) (env 5)) (some 14) v1) h1) := by kernel_rfl
theorem rg3 (rec : FuncId → List DV → Hp → aK) (k : K) (env : bB) (h : Hp) : gU CF0 rec 49 (fZ (cL (cL (cR (cL (cR (cR (cf Tryz.f214)))))))) (fZ (cL (cL (cR (cL (cR (cR (cf Tryz.f214)))))))).toList k env h = (
 bnd (aQ (env 0) h) fun v1 h1 =>
 bnd (aB 0 v1 h1) fun v2 h2 =>
 bnd (aB 4 v2 h2) fun v3 h3 =>
 bnd (aA v3 h3) fun v4 h4 =>
 bnd (bO v4 h4) fun v5 h5 =>
 k (bM (bM (bM (bM (bM (bM (bM env (some 15) (env 0)) (some 16) v1) (some 17) v2) (some 18) v3) (some 19) v4) (some 20) v5) (some 5) v5) h5) := by kernel_rfl
theorem rg5 (rec : FuncId → List DV → Hp → aK) (k : K) (env : bB) (h : Hp) : gU CF0 rec 49 (fZ (cL (cL (cR (cR (cL (cR (cL (cR (cR (cf Tryz.f214))))))))))) (fZ (cL (cL (cR (cR (cL (cR (cL (cR (cR (cf Tryz.f214))))))))))).toList k env h = (
 bnd (aQ (env 0) h) fun v1 h1 =>
 bnd (aB 0 v1 h1) fun v2 h2 =>
 bnd (aB 4 v2 h2) fun v3 h3 =>
 bnd (aA v3 h3) fun v4 h4 =>
 bnd (bO v4 h4) fun v5 h5 =>
 bnd (aN [(.i .i64 (Int.ofNat 0)), (.s []), (.i .i64 (Int.ofNat 0)), .l0] 1 [(0, 4, (.a [(.i .i64 (Int.ofNat 0)), (.s []), (.i .i64 (Int.ofNat 0)), .l0]))] h5) fun v6 h6 =>
 bnd (aY 4 56 v4 v6 h6) fun v7 h7 =>
 bnd (aQ (env 0) h7) fun v8 h8 =>
 bnd (aB 0 v8 h8) fun v9 h9 =>
 bnd (aB 4 v9 h9) fun v10 h10 =>
 bnd (aC 1 v10 v7 h10) fun _ h11 =>
 k (bM (bM (bM (bM (bM (bM (bM (bM (bM (bM (bM env (some 23) (env 0)) (some 24) v1) (some 25) v2) (some 26) v3) (some 27) v4) (some 28) v5) (some 29) v6) (some 30) v7) (some 31) v8) (some 32) v9) (some 33) v10) h11) := by kernel_rfl
theorem rg6 (rec : FuncId → List DV → Hp → aK) (k : K) (env : bB) (h : Hp) : gU CF0 rec 49 (fZ (cR (cL (cR (cR (cL (cR (cL (cR (cR (cf Tryz.f214))))))))))) (fZ (cR (cL (cR (cR (cL (cR (cL (cR (cR (cf Tryz.f214))))))))))).toList k env h = (
 bnd (aG 4 (env 3) h) fun v1 h1 =>
 bnd (aJ 4 (env 30) (env 28) h1) fun v2 h2 =>
 bnd (aC 4 v2 v1 h2) fun _ h3 =>
 k (bM (bM env (some 34) v1) (some 35) v2) h3) := by kernel_rfl
theorem rg7 (rec : FuncId → List DV → Hp → aK) (k : K) (env : bB) (h : Hp) : iO CF0 rec 49 (fZ (cR (cR (cR (cL (cR (cL (cR (cR (cf Tryz.f214)))))))))) k env h = (
 bnd (aQ (env 0) (resv 1 h)) fun v1 h1 =>
 bnd (aB 0 v1 h1) fun v2 h2 =>
 bnd (aB 4 v2 h2) fun v3 h3 =>
 bnd (aA v3 h3) fun v4 h4 =>
 bnd (aG 4 (env 3) h4) fun v5 h5 =>
 bnd (aV (bF 0 h.next) [(.i .i64 (Int.ofNat 0)), (.s []), (.i .i64 (Int.ofNat 0)), .l0] 1 [(0, 4, v5)] h5) fun v6 h6 =>
 bnd (aY 4 56 v4 v6 h6) fun v7 h7 =>
 bnd (aQ (env 0) h7) fun v8 h8 =>
 bnd (aB 0 v8 h8) fun v9 h9 =>
 bnd (aB 4 v9 h9) fun v10 h10 =>
 bnd (aC 1 v10 v7 h10) fun v11 h11 =>
 k (bM (bM (bM (bM (bM (bM (bM (bM (bM (bM (bM (bM env (some 36) (env 0)) (some 37) (env 0)) (some 38) v1) (some 39) v2) (some 40) v3) (some 41) v4) (some 42) v5) (some 43) v6) (some 44) v7) (some 45) v8) (some 46) v9) (some 47) v10) h11) := by kernel_rfl
theorem rg8 (rec : FuncId → List DV → Hp → aK) (k : K) (env : bB) (h : Hp) : gU CF0 rec 49 (fZ (cL (cR (cR (cR (cf Tryz.f214)))))) (fZ (cL (cR (cR (cR (cf Tryz.f214)))))).toList k env h = (
 k (bM (bM env (some 48) (env 5)) (some 4) (env 5)) h) := by kernel_rfl
end Go.Dd

namespace Go.Dd
open Go.Proofs
theorem HR.sub {G : Gd} {ρ : cK} {h h' : Hp} {w : World} (S : Sim true h h') (H : HR G ρ h' w) : HR G ρ h w := by
 have hg : ∀ b o, h.bl.get b = some o → h'.bl.get b = some o := fun b o hb => by
  obtain ⟨o', h1, h2⟩ := S.get b o hb
  rw [h1, kM h2]
 have hc : ∀ b a, Claims ρ h b a → Claims ρ h' b a := fun b a ⟨k, l, L, h1, h2, h3⟩ => ⟨k, l, L, hg _ _ h1, h2, h3⟩
 have hro : ∀ b a, Claims ρ h b a → ¬ isRo h b → ¬ isRo h' b := fun b a ⟨k, l, L, h1, h2, h3⟩ hn ⟨l', hl⟩ => by
  rw [hg _ _ h1] at hl
  simp only [bH, Ob.row.injEq] at hl
  exact hn ⟨l, by rw [h1, hl.1]⟩
 exact ⟨H.gl, H.sz, by rw [← S.next]; exact H.nx, fun b a h1 ⟨l, h2⟩ => H.ro b a (hc b a h1) ⟨l, hg _ _ h2⟩, fun b o hb => H.dom b o (hg b o hb), fun b L hb => by rw [← S.next]; exact H.lt b L hb,
  fun b k l L i v h1 => H.cell b k l L i v (hg _ _ h1), fun b l L es j h1 => H.spare b l L es j (hg _ _ h1), fun b a h1 h2 => H.free b a (hc b a h1) (hro b a h1 h2),
  fun b b' a h1 h2 h3 => H.inj b b' a (hc b a h1) (hc b' a h2) (hro b a h1 h3),
  fun b l L h1 => H.ex b l L (h1.elim (fun q => .inl (hg _ _ q)) (fun q => .inr (hg _ _ q))), fun b es l i v h1 => H.grone b es l i v (hg _ _ h1),
  fun b o L h1 h2 => H.itr b o L h1 (hg _ _ h2), fun b o b' o' L L' h1 h2 h3 h4 => H.itj b o b' o' L L' h1 h2 (hg _ _ h3) (hg _ _ h4)⟩
theorem sX : ∀ p : Pos, nC p p = true
 | .h => rfl
 | .o p => sX p
 | .i p => sX p
theorem bHv {p q : Pos} (h : nC p q = false) : p ≠ q := fun e => by subst e; rw [sX] at h; cases h
open Classical in
noncomputable def kk (N : bB → Hp → Prop) : K := fun env h => if N env h then some (aT, h) else none
theorem tI {N : bB → Hp → Prop} {env : bB} {h : Hp} (hn : N env h) : ∃ r, kk N env h = some r := ⟨_, if_pos hn⟩
theorem dJe {N : bB → Hp → Prop} {env : bB} {h : Hp} {r} (hn : kk N env h = some r) : N env h := by
 unfold kk at hn
 split at hn
 ·assumption
 ·cases hn
section
variable {C : Cfg} {rec : FuncId → List DV → Hp → aK} {nt : Nat} {X : Nat → bB → Hp → Prop} {R N : bB → Hp → Prop} {env : bB} {h : Hp}
theorem wpS {a b : Code} (H : rP C rec nt a X R (rP C rec nt b X R N) env h) : rP C rec nt (.seq a b) X R N env h := H
theorem bAo {id : Nat} {ops : Array Oper} (H : ∃ r, gU C rec nt ops ops.toList (kk fun e h => oM h → N e h) env h = some r) : rP C rec nt (.region id ops false) X R N env h := by
 obtain ⟨r, hr⟩ := H
 obtain ⟨env', h', h1, h2⟩ := nA _ _ _ _ _ hr
 simp only [rP, Bool.false_eq_true, if_false]
 exact ⟨env', h', h1, dJe h2⟩
theorem eLg {id : Nat} {ops : Array Oper} (hd : eW C.P ops = true) (H : ∃ r, iO C rec nt ops (kk fun e h => oM h → N e h) env h = some r) : rP C rec nt (.region id ops true) X R N env h := by
 obtain ⟨r, hr⟩ := H
 simp only [rP, if_true]
 exact .inr ⟨hd, _, r, hr, fun env' h' h1 h2 => dJe h1 h2⟩
theorem eHj {id : Nat} {ops : Array Oper} (H : aQr C rec nt ops (fun e h => oM h → N e h) ops.size (Array.replicate ops.size false) env h) : rP C rec nt (.region id ops true) X R N env h := by
 simp only [rP, if_true]
 exact .inl H
theorem wpC {c : Operand} {a b : Code} {t : Bool} (hc : opr env c = .b t) (H : (t = true → rP C rec nt a X R N env h) ∧ (t = false → rP C rec nt b X R N env h)) : rP C rec nt (.cond c a b) X R N env h := by
 cases t with
 | true => exact .inl ⟨hc, H.1 rfl⟩
 | false => exact .inr ⟨hc, H.2 rfl⟩
end
noncomputable def eKq : Code := cL (cR (cL (cR (cL (cR (cR (cf Tryz.f214)))))))
noncomputable def R4 : Array Oper := fZ eKq
theorem eFn : cf Tryz.f214 = .seq (.region 0 (fZ (cL (cf Tryz.f214))) false) (.seq (.region 1 (fZ (cL (cR (cf Tryz.f214)))) false) (.seq (.seq (.region 2 (fZ (cL (cL (cR (cR (cf Tryz.f214)))))) false)
 (.cond (.tmp 14) (.seq (.region 3 (fZ (cL (cL (cR (cL (cR (cR (cf Tryz.f214)))))))) false) (.seq (.region 4 R4 true) (.cond (.tmp 22)
  (.seq (.region 5 (fZ (cL (cL (cR (cR (cL (cR (cL (cR (cR (cf Tryz.f214))))))))))) false) (.region 6 (fZ (cR (cL (cR (cR (cL (cR (cL (cR (cR (cf Tryz.f214))))))))))) false))
  (.region 7 (fZ (cR (cR (cR (cL (cR (cL (cR (cR (cf Tryz.f214)))))))))) true)))) .skip)) (.seq (.region 8 (fZ (cL (cR (cR (cR (cf Tryz.f214)))))) false) .ret))) := by kernel_rfl
noncomputable def o4 (i : Nat) : Oper := (R4.toList[i]?).getD (Oper.mk none (.move (.tmp 0)) 0 "" #[] none)
theorem eHn : R4[0]? = some (o4 0) := by kernel_rfl
theorem eBg : R4[1]? = some (o4 1) := by kernel_rfl
theorem eGy : R4[2]? = some (o4 2) := by kernel_rfl
theorem eKp : R4[3]? = some (o4 3) := by kernel_rfl
theorem eJh (rec : FuncId → List DV → Hp → aK) (env : bB) (h : Hp) : bK CF0 rec R4 (o4 0) env h = aZ [.b false] h := by kernel_rfl
theorem eBf (rec : FuncId → List DV → Hp → aK) (env : bB) (h : Hp) : bK CF0 rec R4 (o4 1) env h = aC 1 (env 21) (.b true) h := by kernel_rfl
theorem eEt (rec : FuncId → List DV → Hp → aK) (env : bB) (h : Hp) : bK CF0 rec R4 (o4 2) env h = aC 1 (env 21) (.b false) h := by kernel_rfl
theorem eHp (rec : FuncId → List DV → Hp → aK) (env : bB) (h : Hp) : bK CF0 rec R4 (o4 3) env h = aA (env 21) h := by kernel_rfl
theorem dZh : (o4 0).dst = some 21 := by kernel_rfl
theorem cPz : (o4 1).dst = none := by kernel_rfl
theorem cXu : (o4 2).dst = none := by kernel_rfl
theorem eCv : (o4 3).dst = some 22 := by kernel_rfl
theorem z4 : Array.replicate R4.size false = #[false, false, false, false] := by kernel_rfl
theorem y4 : R4.size = 4 := by kernel_rfl
theorem eIm : Region.ready .any R4 #[false, false, false, false] = [0] := by kernel_rfl
theorem dZg : Region.ready .any R4 #[true, false, false, false] = [1, 2] := by kernel_rfl
theorem eJk : Region.ready .any R4 #[true, true, false, false] = [2] := by kernel_rfl
theorem eKc : Region.ready .any R4 #[true, false, true, false] = [1] := by kernel_rfl
theorem eKu : Region.ready .any R4 #[true, true, true, false] = [3] := by kernel_rfl
theorem eJd : Region.ready .any R4 #[true, true, true, true] = [] := by kernel_rfl
theorem eJi : (#[false, false, false, false] : Array Bool).setIfInBounds 0 true = #[true, false, false, false] := by kernel_rfl
theorem eJb : (#[true, false, false, false] : Array Bool).setIfInBounds 1 true = #[true, true, false, false] := by kernel_rfl
theorem eIt : (#[true, false, false, false] : Array Bool).setIfInBounds 2 true = #[true, false, true, false] := by kernel_rfl
theorem eLy : (#[true, true, false, false] : Array Bool).setIfInBounds 2 true = #[true, true, true, false] := by kernel_rfl
theorem eIj : (#[true, false, true, false] : Array Bool).setIfInBounds 1 true = #[true, true, true, false] := by kernel_rfl
theorem eHr : (#[true, true, true, false] : Array Bool).setIfInBounds 3 true = #[true, true, true, true] := by kernel_rfl
theorem cWm {C : Cfg} {rec : FuncId → List DV → Hp → aK} {nt f i : Nat} {ops : Array Oper} {kY : bB → Hp → Prop} {listed l' : Array Bool} {env : bB} {h h' : Hp} {o : Oper} {v : DV} (hr : Region.ready .any ops listed = [i])
  (ho : ops[i]? = some o) (hf : dH nt o.dst = true) (hs : bK C rec ops o env h = some (v, h')) (hl : listed.setIfInBounds i true = l') (hn : aQr C rec nt ops kY f l' (bM env o.dst v) h') : aQr C rec nt ops kY (f + 1) listed env h := by
 refine ⟨fun e => ?_, fun j hj => ?_⟩
 ·rw [hr] at e; cases e
 ·rw [hr] at hj
  simp only [List.mem_singleton] at hj
  subst hj
  exact ⟨o, v, h', ho, hf, hs, by rw [hl]; exact hn⟩
structure After (h h' : Hp) : Prop where
 next : h'.next = h.next.succ
 get : ∀ b, b ≠ h.next → h'.bl.get b = h.bl.get b
theorem eIg {rec : FuncId → List DV → Hp → aK} {kY : bB → Hp → Prop} {env : bB} {h : Hp} (H : ∀ x h', After h h' → kY (bM (bM env (some 21) (.p h.next 0)) (some 22) (.b x)) h') :
  aQr CF0 rec 49 R4 kY R4.size (Array.replicate R4.size false) env h := by
 rw [z4, y4]
 have st : ∀ (n : Pos) (bl : Tr Ob) (x y : Bool), bl.get h.next = some (.row .ex [.b y]) → aC 1 (.p h.next 0) (.b x) ⟨n, bl⟩ = some (aT, ⟨n, Tr.set (.row .ex [.b x]) h.next bl⟩) := fun n bl x y e => by
  simp only [aC, dE, cQ, e, Kind.writable, List.length_singleton, if_true, gL, lP, DV.one, Bool.and_self, Option.map_some]
 have ld : ∀ (n : Pos) (bl : Tr Ob) (x : Bool), bl.get h.next = some (.row .ex [.b x]) → aA (.p h.next 0) ⟨n, bl⟩ = some (.b x, ⟨n, bl⟩) := fun n bl x e => by
  simp only [aA, cellD, rowOf, e, List.getElem?_cons_zero, DV.one, if_true]
 have g0 : ∀ (t : Tr Ob) (x : Bool), (Tr.set (.row .ex [.b x]) h.next t).get h.next = some (.row .ex [.b x]) := fun t x => eMi _ _ _
 have go : ∀ (t : Tr Ob) (x : Bool) (b : Pos), b ≠ h.next → (Tr.set (.row .ex [.b x]) h.next t).get b = t.get b := fun t x b e => eMh _ _ _ _ e
 have fin : ∀ (t : Tr Ob) (x : Bool), (∀ b, b ≠ h.next → t.get b = h.bl.get b) → t.get h.next = some (.row .ex [.b x]) →
   aQr CF0 rec 49 R4 kY 1 #[true, true, true, false] (bM env (some 21) (.p h.next 0)) ⟨h.next.succ, t⟩ := fun t x e1 e2 => by
  refine cWm eKu eKp (by rw [eCv]; rfl) ((eHp _ _ _).trans (ld _ _ x e2)) eHr ?_
  rw [eCv]
  exact ⟨eJd, H x _ ⟨rfl, e1⟩⟩
 refine cWm eIm eHn (by rw [dZh]; rfl) (eJh _ _ _) eJi ?_
 rw [dZh]
 refine ⟨fun e => (by rw [dZg] at e; cases e), fun j hj => ?_⟩
 rw [dZg] at hj
 simp only [List.mem_cons, List.not_mem_nil, or_false] at hj
 rcases hj with rfl | rfl
 ·refine ⟨_, _, _, eBg, by rw [cPz]; rfl, (eBf _ _ _).trans (st _ _ true false (g0 _ _)), ?_⟩
  rw [eJb, cPz]
  refine cWm eJk eGy (by rw [cXu]; rfl) ((eEt _ _ _).trans (st _ _ false true (g0 _ _))) eLy ?_
  rw [cXu]
  exact fin _ false (fun b e => by rw [go _ _ _ e, go _ _ _ e, go _ _ _ e]) (g0 _ _)
 ·refine ⟨_, _, _, eGy, by rw [cXu]; rfl, (eEt _ _ _).trans (st _ _ false false (g0 _ _)), ?_⟩
  rw [eIt, cXu]
  refine cWm eKc eBg (by rw [cPz]; rfl) ((eBf _ _ _).trans (st _ _ true false (g0 _ _))) eIj ?_
  rw [cPz]
  exact fin _ true (fun b e => by rw [go _ _ _ e, go _ _ _ e, go _ _ _ e]) (g0 _ _)
end Go.Dd

namespace Go.Dd
open Go.Proofs
theorem cEf {h h' g : Hp} {x v : DV} (hg : ∀ b o, h.bl.get b = some o → h'.bl.get b = some o) (e : aA x h = some (v, g)) : aA x h' = some (v, h') := by
 have S : Sim true ⟨h'.next, h.bl⟩ h' := ⟨rfl, fun b o hb => ⟨o, hg b o hb, lG o⟩⟩
 have e' : aA x ⟨h'.next, h.bl⟩ = some (v, ⟨h'.next, h.bl⟩) := by
  unfold aA at e ⊢
  split at e <;> (try (cases e; done))
  rename_i b o
  change (match cellD b o ⟨h'.next, h.bl⟩ with
   | some v => some (v, (⟨h'.next, h.bl⟩ : Hp))
   | none => none) = _
  change (match cellD b o ⟨h'.next, h.bl⟩ with
   | some v => some (v, h)
   | none => none) = _ at e
  split at e <;> (try (cases e; done))
  rename_i u hu
  simp only [bH, bN] at e
  rw [e.1]
 obtain ⟨k, e1, e2⟩ := lL x _ _ S v _ e'
 obtain ⟨rfl, _⟩ := (show k = h' ∧ True by
  unfold aA at e1
  split at e1 <;> (try (cases e1; done))
  split at e1 <;> (try (cases e1; done))
  simp only [bH, bN] at e1
  exact ⟨e1.2.symm, trivial⟩)
 exact e1
theorem bXj {h h' g : Hp} {n : Nat} {x v : DV} (hg : ∀ b o, h.bl.get b = some o → h'.bl.get b = some o) (e : aG n x h = some (v, g)) : aG n x h' = some (v, h') := by
 have S : Sim true ⟨h'.next, h.bl⟩ h' := ⟨rfl, fun b o hb => ⟨o, hg b o hb, lG o⟩⟩
 have e' : aG n x ⟨h'.next, h.bl⟩ = some (v, ⟨h'.next, h.bl⟩) := by
  unfold aG at e ⊢
  split at e <;> (try (cases e; done))
  rename_i b o
  change (match cellsAt b o n ⟨h'.next, h.bl⟩ with
   | some v => some (DV.a v, (⟨h'.next, h.bl⟩ : Hp))
   | none => none) = _
  change (match cellsAt b o n ⟨h'.next, h.bl⟩ with
   | some v => some (DV.a v, h)
   | none => none) = _ at e
  split at e <;> (try (cases e; done))
  rename_i u hu
  simp only [bH, bN] at e
  rw [← e.1]
 obtain ⟨k, e1, e2⟩ := lI n x _ _ S v _ e'
 obtain ⟨rfl, _⟩ := (show k = h' ∧ True by
  unfold aG at e1
  split at e1 <;> (try (cases e1; done))
  split at e1 <;> (try (cases e1; done))
  simp only [bH, bN] at e1
  exact ⟨e1.2.symm, trivial⟩)
 exact e1
theorem bRc {q : Pos} {l1 v : DV} {cs : List DV} {h k : Hp} (e : jT q l1 cs h = some (v, k)) : ∃ (n : Nat) (old : List DV) (t : Tr Ob), v = .l h.next 0 (n + 1) (n + 1) ∧ (∀ g, bO l1 g = some (.i .i64 (n : Int), g)) ∧
  old.length = n * 4 ∧ (∀ v ∈ old, v.one = true) ∧ k = ⟨h.next.succ, Tr.set (.row (.gr 4) (old ++ cs)) h.next t⟩ ∧ t.get q = h.bl.get q ∧ (∀ b, t.get b ≠ none → h.bl.get b ≠ none) ∧
  ∀ zs, jT q l1 zs h = some (v, ⟨h.next.succ, Tr.set (.row (.gr 4) (old ++ zs)) h.next t⟩) := by
 unfold jT at e
 split at e <;> (try (cases e; done))
 ·simp only [bH, bN] at e
  obtain ⟨rfl, rfl⟩ := e
  exact ⟨0, [], h.bl, rfl, fun g => rfl, rfl, by simp, rfl, rfl, fun b hb => hb, fun zs => rfl⟩
 ·rename_i b o len cap
  cases hc : (Nat.ble cap len && !(nC b q)) with
  | false => rw [hc] at e; cases e
  | true =>
   rw [hc] at e
   simp only [cnd] at e
   split at e <;> (try (cases e; done))
   rename_i es l old hb hold
   split at e <;> (try (cases e; done))
   rename_i hr
   simp only [bH, bN] at e
   obtain ⟨rfl, rfl⟩ := e
   have hq : q ≠ b := by
    simp only [Bool.and_eq_true, Bool.not_eq_true'] at hc
    exact Ne.symm (bHv hc.2)
   have hl : old.length = len * 4 ∧ ∀ v ∈ old, v.one = true := by
    unfold cellsAt at hold
    split at hold <;> (try (cases hold; done))
    obtain ⟨h1, _, _, h4⟩ := lZ _ _ _ hold
    exact ⟨h1, h4⟩
   refine ⟨len, old, Tr.set (.row .sp (bQ o l)) b h.bl, rfl, fun g => rfl, hl.1, hl.2, rfl, eMh _ _ _ _ hq, fun x hx => ?_, fun zs => ?_⟩
   ·by_cases e : x = b
    ·rw [e, hb]; simp
    ·rwa [eMh _ _ _ _ e] at hx
   ·unfold jT
    dsimp only
    rw [hc]
    simp only [cnd, hb, hold, if_pos hr]
theorem bEd {q : Pos} {l1 x v : DV} {cs : List DV} {h h' k : Hp} (S : Sim true h h') (hx : tY 4 x h' = some (1, cs)) (e : jT q l1 cs h = some (v, k)) : ∃ k', aY 4 56 l1 x h' = some (v, k') ∧ Sim true k k' := by
 unfold jT at e
 split at e <;> (try (cases e; done))
 ·simp only [bH, bN] at e
  obtain ⟨rfl, rfl⟩ := e
  refine ⟨⟨h'.next.succ, Tr.set (.row (.gr 4) cs) h'.next h'.bl⟩, ?_, ?_⟩
  ·unfold aY
   rw [hx]
   dsimp only
   rw [if_neg (by simp), if_pos (by decide), S.next]
  ·rw [S.next]; exact S.setR _ _ _ _
 ·rename_i b o len cap
  cases hc : (Nat.ble cap len && !(nC b q)) with
  | false => rw [hc] at e; cases e
  | true =>
   rw [hc] at e
   simp only [cnd] at e
   split at e <;> (try (cases e; done))
   rename_i es l old hb hold
   split at e <;> (try (cases e; done))
   rename_i hr
   simp only [bH, bN] at e
   obtain ⟨rfl, rfl⟩ := e
   have hle : cap ≤ len := by
    simp only [Bool.and_eq_true] at hc
    exact Nat.le_of_ble_eq_true hc.1
   refine ⟨⟨h'.next.succ, Tr.set (.row (.gr 4) (old ++ cs)) h'.next (Tr.set (.row .sp (bQ o l)) b h'.bl)⟩, ?_, ?_⟩
   ·unfold aY
    rw [hx]
    dsimp only
    rw [if_neg (by omega), S.row hb, S.cellsAt hold]
    dsimp only
    rw [if_pos hr.2.2, if_pos ⟨hr.1, hr.2.1⟩, S.next]
   ·rw [S.next]
    exact (S.setR .sp (bQ o l) b h.next).setR _ _ _ _
theorem bFt : ∀ (old zs cs : List DV), zs.length = cs.length → (∀ v ∈ zs, v.one = true) → (∀ v ∈ cs, v.one = true) → gL old.length (old ++ zs) cs = some (old ++ cs)
 | [], zs, cs, hl, hz, hc => by
  show lP zs cs = some cs
  induction cs generalizing zs with
  | nil => cases zs with
   | nil => rfl
   | cons z zs => simp at hl
  | cons c cs ih => cases zs with
   | nil => simp at hl
   | cons z zs =>
    simp only [lP, hz z (by simp), hc c (by simp), Bool.and_self, if_true]
    rw [ih zs (by simpa using hl) (fun v hv => hz v (by simp [hv])) (fun v hv => hc v (by simp [hv]))]
    rfl
 | x :: old, zs, cs, hl, hz, hc => by
  show (gL old.length (old ++ zs) cs).map (x :: ·) = _
  rw [bFt old zs cs hl hz hc]
  rfl
end Go.Dd

namespace Go.Dd
open Go.Proofs
theorem bNq : (Tryz.prog.funcs.toList.all fun fn => !(fn.name == "runtime.NumGoroutine")) = true := by kernel_rfl
theorem Try_ok : POk Tryz.prog where
 mixed := by kernel_rfl
 names := by
  intro f fn hf
  have h := List.all_eq_true.1 bNq fn (by
   obtain ⟨hlt, rfl⟩ := Array.getElem?_eq_some_iff.1 hf
   simp)
  simpa using h
theorem KC0 : OkC CF0 (fnD CF0 60) := ⟨fun G g F h => (by cases h), fun G g => cJy (C := CF0) Try_ok (fun G g F h => (by cases h)) 60 G g⟩
theorem dPq (e : bB) (h : Hp) : aR CF0 Tryz.f214 e h = some (e 4, h) := by kernel_rfl
theorem eCe : Tryz.f214.ntmps = 49 := by kernel_rfl
theorem eBz : Tryz.prog.funcs[214]? = some Tryz.f214 := by kernel_rfl
theorem cTg : Tryz.f214.body = some (cf Tryz.f214) := by kernel_rfl
theorem eBm : eW CF0.P (fZ (cR (cR (cR (cL (cR (cL (cR (cR (cf Tryz.f214)))))))))) = true := by kernel_rfl
theorem bHo {X : Nat → bB → Hp → Prop} {N : bB → Hp → Prop} {env : bB} {v : DV} {h h1 : Hp} (he : env 5 = v) (S : Sim true h1 h) :
  rP CF0 (fnD CF0 60) 49 (.seq (.region 8 (fZ (cL (cR (cR (cR (cf Tryz.f214)))))) false) .ret) X (fun env h' => ∃ h2, aR CF0 Tryz.f214 env h' = some (v, h2) ∧ Le h2 h1) N env h := by
 refine wpS (bAo ?_)
 rw [rg8]
 refine tI fun _ => ?_
 exact ⟨h, (dPq _ _).trans (by rw [show (bM (bM env (some 48) (env 5)) (some 4) (env 5)) 4 = env 5 from rfl, he]), fun G ρ w H => H.sub S⟩
theorem aAn {F : Hp → aK} (hF : PureP F) {h g : Hp} {v : DV} (e : F h = some (v, g)) : g = h ∧ ∀ h', F h' = some (v, h') := hF h v g e
theorem sP {h g : Hp} {c : Pos} {o : Nat} {v : DV} (e : aA (.p c o) h = some (v, g)) : g = h ∧ ∃ u, h.bl.get c = some u := by
 change (match cellD c o h with
  | some v => some (v, h)
  | none => none) = _ at e
 split at e <;> (try (cases e; done))
 rename_i u hu
 simp only [bH, bN] at e
 refine ⟨e.2.symm, ?_⟩
 unfold cellD rowOf at hu
 cases hc : h.bl.get c with
 | none => rw [hc] at hu; cases hu
 | some u => exact ⟨u, rfl⟩
theorem rW {h g : Hp} {c : Pos} {o n : Nat} {v : DV} (e : aG n (.p c o) h = some (v, g)) : g = h ∧ (∃ u, h.bl.get c = some u) ∧ ∃ cs, v = .a cs ∧ cs.length = n ∧ ∀ x ∈ cs, x.one = true := by
 change (match cellsAt c o n h with
  | some cs => some (DV.a cs, h)
  | none => none) = _ at e
 split at e <;> (try (cases e; done))
 rename_i u hu
 simp only [bH, bN] at e
 refine ⟨e.2.symm, ?_⟩
 unfold cellsAt rowOf at hu
 cases hc : h.bl.get c with
 | none => rw [hc] at hu; cases hu
 | some ob =>
  refine ⟨⟨ob, rfl⟩, u, e.1.symm, ?_⟩
  rw [hc] at hu
  split at hu <;> (try (cases hu; done))
  obtain ⟨h1, _, _, h4⟩ := lZ _ _ _ hu
  exact ⟨h1, h4⟩
theorem Sim.of_get {h h' : Hp} (e : h'.next = h.next) (g : ∀ b o, h.bl.get b = some o → h'.bl.get b = some o) : Sim true h h' := ⟨e, fun b o hb => ⟨o, g b o hb, lG o⟩⟩
theorem bVp (c : Pos) (h : Hp) : aQ (.p c 0) h = some (.p c 0, h) := rfl
theorem cUt (c : Pos) (h : Hp) : aB 0 (.p c 0) h = some (.p c 0, h) := rfl
theorem dPz (c : Pos) (h : Hp) : aB 4 (.p c 0) h = some (.p c 4, h) := rfl
theorem aRn (env : bB) (i : Nat) (v : DV) (j : Nat) (h : Nat.beq j i = false) : bM env (some i) v j = env j := by
 show (bif Nat.beq j i then v else env j) = _
 rw [h]; rfl
theorem cDk (env : bB) (i : Nat) (v : DV) : bM env (some i) v i = v := by
 show (bif Nat.beq i i then v else env i) = _
 rw [Nat.beq_refl]; rfl
theorem zD : ∀ cs : List DV, (∀ v ∈ cs, v.one = true) → jN cs.length cs = some cs
 | [], _ => rfl
 | c :: cs, h => by
  show (if c.one then (jN cs.length cs).map (c :: ·) else none) = _
  rw [if_pos (h c (by simp)), zD cs fun v hv => h v (by simp [hv])]
  rfl
theorem bDd {cs : List DV} (h4 : cs.length = 4) (ho : ∀ v ∈ cs, v.one = true) (p n : Pos) (t : Tr Ob) : tY 4 (.l p 0 1 1) ⟨n, Tr.set (.row .ex cs) p t⟩ = some (1, cs) := by
 have e : cellsAt p 0 (1 * 4) ⟨n, Tr.set (.row .ex cs) p t⟩ = some cs := by
  unfold cellsAt rowOf
  simp only [eMi, List.drop_zero]
  rw [show 1 * 4 = cs.length by rw [h4]]
  exact zD cs ho
 simp only [tY, e]
theorem cHm {h h' : Hp} {n o : Nat} {q : Pos} {v : DV} (hg : h'.bl.get q = h.bl.get q) (e : aG n (.p q o) h = some (v, h)) : aG n (.p q o) h' = some (v, h') := by
 have e1 : cellsAt q o n h' = cellsAt q o n h := by
  unfold cellsAt rowOf
  rw [hg]
 change (match cellsAt q o n h with
  | some cs => some (DV.a cs, h)
  | none => none) = _ at e
 show (match cellsAt q o n h' with
  | some cs => some (DV.a cs, h')
  | none => none) = _
 rw [e1]
 split at e <;> (try (cases e; done))
 simp only [bH, bN] at e
 rw [e.1]
structure Way (g3 h5 : Hp) (c q : Pos) (l1 l2 n u : DV) (cs : List DV) (k3 k4 : Hp) (env : bB) : Prop where
 fr : oM g3
 af : After g3 h5
 hl : aA (.p c 4) g3 = some (l1, g3)
 hx : aG 4 (.p q 0) g3 = some (.a cs, g3)
 ne : c ≠ q
 hn : bO l1 g3 = some (n, g3)
 ap : jT q l1 cs ⟨g3.next.succ.succ, g3.bl⟩ = some (l2, k3)
 st : aC 1 (.p c 4) l2 k3 = some (u, k4)
 e0 : env 0 = .p c 0
 e3 : env 3 = .p q 0
 e5 : env 5 = n
section
theorem Way.up {g3 h5 : Hp} {c q : Pos} {l1 l2 n u : DV} {cs : List DV} {k3 k4 : Hp} {env : bB} (W : Way g3 h5 c q l1 l2 n u cs k3 k4 env) : ∀ b o, g3.bl.get b = some o → h5.bl.get b = some o := fun b o hb => by
 rw [W.af.get b (fun e => ?_)]
 ·exact hb
 ·subst e; exact Nat.lt_irrefl _ (W.fr _ _ hb)
theorem Way.c5 {g3 h5 : Hp} {c q : Pos} {l1 l2 n u : DV} {cs : List DV} {k3 k4 : Hp} {env : bB} (W : Way g3 h5 c q l1 l2 n u cs k3 k4 env) (n' : Pos) : aA (.p c 4) ⟨n', h5.bl⟩ = some (l1, ⟨n', h5.bl⟩) := cEf W.up W.hl
theorem Way.q5 {g3 h5 : Hp} {c q : Pos} {l1 l2 n u : DV} {cs : List DV} {k3 k4 : Hp} {env : bB} (W : Way g3 h5 c q l1 l2 n u cs k3 k4 env) (n' : Pos) : aG 4 (.p q 0) ⟨n', h5.bl⟩ = some (.a cs, ⟨n', h5.bl⟩) := bXj W.up W.hx
theorem Way.len {g3 h5 : Hp} {c q : Pos} {l1 l2 n u : DV} {cs : List DV} {k3 k4 : Hp} {env : bB} (W : Way g3 h5 c q l1 l2 n u cs k3 k4 env) (h : Hp) : bO l1 h = some (n, h) := (aAn (mT l1) W.hn).2 h
theorem Way.base {g3 h5 : Hp} {c q : Pos} {l1 l2 n u : DV} {cs : List DV} {k3 k4 : Hp} {env : bB} (W : Way g3 h5 c q l1 l2 n u cs k3 k4 env) (o : Ob) : Sim true ⟨g3.next.succ.succ, g3.bl⟩ ⟨h5.next.succ, Tr.set o h5.next h5.bl⟩ := Sim.of_get (by rw [W.af.next]) fun b ob hb => by
 show (Tr.set o h5.next h5.bl).get b = _
 rw [eMh, W.up b ob hb]
 intro e
 have h1 := W.fr b ob hb
 have s1 := eMj g3.next
 rw [e, W.af.next] at h1
 omega
theorem Way.app {g3 h5 : Hp} {c q : Pos} {l1 l2 n u : DV} {cs : List DV} {k3 k4 : Hp} {env : bB} (W : Way g3 h5 c q l1 l2 n u cs k3 k4 env) {hh : Hp} (S : Sim true ⟨g3.next.succ.succ, g3.bl⟩ hh) {y : DV} (hy : tY 4 y hh = some (1, cs)) : ∃ k', aY 4 56 l1 y hh = some (l2, k') ∧ ∃ k'', aC 1 (.p c 4) l2 k' = some (u, k'') ∧ Sim true k4 k'' := by
 obtain ⟨k', h1, h2⟩ := bEd S hy W.ap
 obtain ⟨k'', h3, h4⟩ := lC 1 _ _ _ _ h2 _ _ W.st
 exact ⟨k', h1, k'', h3, h4⟩
theorem Way.one {g3 h5 : Hp} {c q : Pos} {l1 l2 n u : DV} {cs : List DV} {k3 k4 : Hp} {env : bB} (W : Way g3 h5 c q l1 l2 n u cs k3 k4 env) : cs.length = 4 ∧ ∀ v ∈ cs, v.one = true := by
 obtain ⟨_, _, cs', e, h1, h2⟩ := rW W.hx
 cases e
 exact ⟨h1, h2⟩
theorem Way.B {g3 h5 : Hp} {c q : Pos} {l1 l2 n u : DV} {cs : List DV} {k3 k4 : Hp} {env : bB} (W : Way g3 h5 c q l1 l2 n u cs k3 k4 env) {X : Nat → bB → Hp → Prop} {R N : bB → Hp → Prop} (hN : ∀ env' h', env' 5 = n → Sim true k4 h' → N env' h') : rP CF0 (fnD CF0 60) 49 (.region 7 (fZ (cR (cR (cR (cL (cR (cL (cR (cR (cf Tryz.f214)))))))))) true) X R N env h5 := by
 obtain ⟨k', h1, k'', h2, h3⟩ := W.app (W.base (.row .ex cs)) (bDd W.one.1 W.one.2 h5.next h5.next.succ h5.bl)
 have fl : aV (bF 0 h5.next) [(.i .i64 (Int.ofNat 0)), (.s []), (.i .i64 (Int.ofNat 0)), .l0] 1 [(0, 4, .a cs)] ⟨h5.next.succ, h5.bl⟩ = some (.l h5.next 0 1 1, ⟨h5.next.succ, Tr.set (.row .ex cs) h5.next h5.bl⟩) := by
  simp only [aV, jK, dE, W.one.1]
  simp [bF]
 refine eLg eBm ?_
 rw [rg7]
 simp only [W.e0, W.e3, bVp, bC, cUt, dPz, show resv 1 h5 = ⟨h5.next.succ, h5.bl⟩ from rfl, W.c5, W.q5, fl, h1, h2]
 refine tI fun _ => hN _ _ ?_ h3
 simp only [aRn, Nat.beq]
 exact W.e5
theorem Way.A {g3 h5 : Hp} {c q : Pos} {l1 l2 n u : DV} {cs : List DV} {k3 k4 : Hp} {env : bB} (W : Way g3 h5 c q l1 l2 n u cs k3 k4 env) {X : Nat → bB → Hp → Prop} {R N : bB → Hp → Prop} (hN : ∀ env' h', env' 5 = n → Sim true k4 h' → N env' h') : rP CF0 (fnD CF0 60) 49 (.seq (.region 5 (fZ (cL (cL (cR (cR (cL (cR (cL (cR (cR (cf Tryz.f214))))))))))) false)
  (.region 6 (fZ (cR (cL (cR (cR (cL (cR (cL (cR (cR (cf Tryz.f214))))))))))) false)) X R N env h5 := by
 obtain ⟨m, old, t, hl2, hm, hol, hoo, hk3, htq, htd, hz⟩ := bRc W.ap
 have hzz := hz [.i .i64 (Int.ofNat 0), .s [], .i .i64 (Int.ofNat 0), .l0]
 have hn : n = .i .i64 (m : Int) := by
  have e1 := W.len g3
  rw [hm] at e1
  simp only [bH, bN, and_true] at e1
  exact e1.symm
 dsimp only at hl2 hk3 htq htd hzz
 obtain ⟨_, uc, huc⟩ := sP W.hl
 have hcs : c ≠ g3.next.succ.succ := fun e => by
  have h1 := W.fr _ _ huc
  have s1 := eMj g3.next
  have s2 := eMj g3.next.succ
  rw [e] at h1
  omega
 obtain ⟨_, ⟨uq, huq⟩, _⟩ := rW W.hx
 have hqs : q ≠ g3.next.succ.succ := fun e => by
  have h1 := W.fr _ _ huq
  have s1 := eMj g3.next
  have s2 := eMj g3.next.succ
  rw [e] at h1
  omega
 have hst := W.st
 rw [hk3] at hst
 have hst2 : ∃ kd l l', t.get c = some (.row kd l) ∧ k4 = ⟨g3.next.succ.succ.succ, Tr.set (.row kd l') c (Tr.set (.row (.gr 4) (old ++ cs)) g3.next.succ.succ t)⟩ ∧
   ∀ zs, aC 1 (.p c 4) l2 ⟨g3.next.succ.succ.succ, Tr.set (.row (.gr 4) zs) g3.next.succ.succ t⟩ = some (u, ⟨g3.next.succ.succ.succ, Tr.set (.row kd l') c (Tr.set (.row (.gr 4) zs) g3.next.succ.succ t)⟩) := by
  rw [hl2] at hst ⊢
  simp only [aC, dE, List.length_singleton, if_true, cQ, eMh _ _ _ _ hcs] at hst ⊢
  cases htc : t.get c with
  | none => rw [htc] at hst; cases hst
  | some o =>
   rw [htc] at hst
   cases o with
   | row kd l =>
    dsimp only at hst ⊢
    cases hw : kd.writable with
    | false => rw [hw] at hst; cases hst
    | true =>
     rw [hw, if_pos rfl] at hst
     cases hp : gL 4 l [.l g3.next.succ.succ 0 (m + 1) (m + 1)] with
     | none => rw [hp] at hst; cases hst
     | some l' =>
      rw [hp] at hst
      simp only [bH, bN] at hst
      exact ⟨kd, l, l', rfl, hst.2.symm, fun zs => by simp only [hw, if_true, hp, hst.1]⟩
   | it s p => cases hst
   | mp es => cases hst
   | big n t => cases hst
   | mi t => cases hst
 obtain ⟨kd, l, l', htc, hk4, hstz⟩ := hst2
 obtain ⟨k6, h6, S6⟩ := bEd (W.base (.row .ex [.i .i64 (Int.ofNat 0), .s [], .i .i64 (Int.ofNat 0), .l0])) (bDd rfl (by simp [DV.one]) h5.next h5.next.succ h5.bl) hzz
 obtain ⟨k7, h7, S7⟩ := lC 1 _ _ _ _ S6 _ _ (hstz _)
 have hqz := cHm (h' := ⟨g3.next.succ.succ.succ, Tr.set (.row kd l') c (Tr.set (.row (.gr 4) (old ++ [.i .i64 (Int.ofNat 0), .s [], .i .i64 (Int.ofNat 0), .l0])) g3.next.succ.succ t)⟩) (by
  show (Tr.set _ c (Tr.set _ _ t)).get q = _
  rw [eMh _ _ _ _ (Ne.symm W.ne), eMh _ _ _ _ hqs, htq]) W.hx
 obtain ⟨k8, h8, S8⟩ := lI 4 _ _ _ S7 _ _ hqz
 have hfin : aC 4 (.p g3.next.succ.succ (0 + m * 4)) (.a cs) ⟨g3.next.succ.succ.succ, Tr.set (.row kd l') c (Tr.set (.row (.gr 4) (old ++ [.i .i64 (Int.ofNat 0), .s [], .i .i64 (Int.ofNat 0), .l0])) g3.next.succ.succ t)⟩ =
   some (aT, ⟨g3.next.succ.succ.succ, Tr.set (.row (.gr 4) (old ++ cs)) g3.next.succ.succ (Tr.set (.row kd l') c (Tr.set (.row (.gr 4) (old ++ [.i .i64 (Int.ofNat 0), .s [], .i .i64 (Int.ofNat 0), .l0])) g3.next.succ.succ t))⟩) := by
  have hp := bFt old [.i .i64 (Int.ofNat 0), .s [], .i .i64 (Int.ofNat 0), .l0] cs (by rw [W.one.1]; rfl) (by simp [DV.one]) W.one.2
  simp only [aC, dE, W.one.1, if_true, cQ, eMh _ _ _ _ (Ne.symm hcs), eMi, Kind.writable, Nat.zero_add, ← hol, hp]
 obtain ⟨k9, h9, S9⟩ := lC 4 _ _ _ _ S8 _ _ hfin
 have S10 : Sim true k4 k9 := by
  refine Sim.trans ?_ S9
  rw [hk4]
  refine Sim.of_get rfl fun b o hb => ?_
  change (Tr.set (.row kd l') c (Tr.set _ g3.next.succ.succ t)).get b = some o at hb
  show (Tr.set _ g3.next.succ.succ (Tr.set (.row kd l') c (Tr.set _ g3.next.succ.succ t))).get b = some o
  by_cases e1 : b = g3.next.succ.succ
  ·rw [e1] at hb ⊢
   rw [eMh _ _ _ _ (Ne.symm hcs), eMi] at hb
   rw [eMi, hb]
  ·rw [eMh _ _ _ _ e1]
   by_cases e2 : b = c
   ·rw [e2] at hb ⊢
    rw [eMi] at hb ⊢
    exact hb
   ·rw [eMh _ _ _ _ e2, eMh _ _ _ _ e1] at hb ⊢
    exact hb
 have fl : aN [(.i .i64 (Int.ofNat 0)), (.s []), (.i .i64 (Int.ofNat 0)), .l0] 1 [(0, 4, (.a [(.i .i64 (Int.ofNat 0)), (.s []), (.i .i64 (Int.ofNat 0)), .l0]))] h5 = some (.l h5.next 0 1 1, ⟨h5.next.succ, Tr.set (.row .ex [.i .i64 (Int.ofNat 0), .s [], .i .i64 (Int.ofNat 0), .l0]) h5.next h5.bl⟩) := by
  simp [aN, jK, dE]
 refine wpS (bAo ?_)
 rw [rg5]
 have c5 : aA (.p c 4) h5 = some (l1, h5) := W.c5 h5.next
 have ix : aJ 4 l2 n k8 = some (.p g3.next.succ.succ (0 + m * 4), k8) := by
  rw [hl2, hn]
  show (if (0 : Int) ≤ (m : Int) ∧ (m : Int) < ((m + 1 : Nat) : Int) then some (DV.p g3.next.succ.succ (0 + (m : Int).toNat * 4), k8) else none) = _
  rw [if_pos (by omega)]
  simp
 simp only [W.e0, W.e3, bVp, bC, cUt, dPz, c5, W.len, fl, h6, h7]
 refine tI fun _ => bAo ?_
 rw [rg6]
 simp only [aRn, cDk, Nat.beq, W.e3, h8, bC, ix, h9]
 refine tI fun _ => hN _ _ ?_ S10
 simp only [aRn, Nat.beq]
 exact W.e5
end
theorem dCe {h h1 : Hp} {c q : Pos} {v : DV} (hr : tG c q h = some (v, h1)) (hf : oM h) {env : bB} (e0 : env 0 = .p c 0) (e3 : env 3 = .p q 0)
  {X : Nat → bB → Hp → Prop} {R N : bB → Hp → Prop} (hN : ∀ env' h', env' 5 = v → Sim true h1 h' → N env' h') :
  rP CF0 (fnD CF0 60) 49 (.seq (.region 3 (fZ (cL (cL (cR (cL (cR (cR (cf Tryz.f214)))))))) false) (.seq (.region 4 R4 true) (.cond (.tmp 22)
   (.seq (.region 5 (fZ (cL (cL (cR (cR (cL (cR (cL (cR (cR (cf Tryz.f214))))))))))) false) (.region 6 (fZ (cR (cL (cR (cR (cL (cR (cL (cR (cR (cf Tryz.f214))))))))))) false))
   (.region 7 (fZ (cR (cR (cR (cL (cR (cL (cR (cR (cf Tryz.f214)))))))))) true)))) X R N env h := by
 unfold tG at hr
 obtain ⟨l1, g1, hl1, hr⟩ := dT hr
 obtain ⟨n, g2, hn, hr⟩ := dT hr
 obtain ⟨x, g3, hx, hr⟩ := dT hr
 obtain ⟨rfl, uc, huc⟩ := sP hl1
 have hn0 := hn
 obtain ⟨rfl, hn⟩ := aAn (mT l1) hn
 obtain ⟨rfl, ⟨uq, huq⟩, cs, rfl, hcl, hco⟩ := rW hx
 dsimp only at hr
 cases hcq : nC c q with
 | true => rw [hcq] at hr; cases hr
 | false =>
 rw [hcq] at hr
 have hcq' : c ≠ q := bHv hcq
 simp only [cnd, Bool.not_false] at hr
 obtain ⟨l2, k3, ha, hr⟩ := dT hr
 obtain ⟨u, k4, hs, hr⟩ := dT hr
 simp only [bH, bN] at hr
 obtain ⟨rfl, rfl⟩ := hr
 refine wpS (bAo ?_)
 rw [rg3]
 rw [show aQ (env 0) g3 = some (.p c 0, g3) from by rw [e0]; rfl]
 show ∃ r, bnd (aA (.p c 4) g3) _ = some r
 rw [hl1]
 show ∃ r, bnd (bO l1 g3) _ = some r
 rw [hn0, bC]
 refine tI fun _ => ?_
 refine wpS (eHj (eIg fun x h5 A F5 => ?_))
 have W : Way g3 h5 c q l1 l2 n u cs k3 k4 (bM (bM (bM (bM (bM (bM (bM (bM (bM env (some 15) (env 0)) (some 16) (DV.p c 0)) (some 17) (DV.p c (0 + 0))) (some 18) (DV.p c (0 + 0 + 4))) (some 19) l1) (some 20) n) (some 5) n) (some 21) (DV.p g3.next 0)) (some 22) (DV.b x)) :=
  ⟨hf, A, hl1, hx, hcq', hn0, ha, hs, e0, e3, rfl⟩
 refine wpC (t := x) rfl ⟨fun _ => ?_, fun _ => ?_⟩
 ·exact W.A hN
 ·exact W.B hN
theorem bNr (c : Pos) (lit : List DV) (h : Hp) : bJ (aI [.p c 0, .a lit] 1) h = some (.p h.next 0, ⟨h.next.succ, Tr.set (.row .ex lit) h.next h.bl⟩) := rfl
theorem dSx (G : Gd) : lD Tryz.prog G 214 lV := by
 refine dPg (C := CF0) (rec := fnD CF0 60) KC0 Try_ok eBz cTg fun args h v h1 hr hf => ?_
 unfold lV at hr
 split at hr <;> (try (cases hr; done))
 rename_i c lit
 obtain ⟨vb, hb, h0, hr⟩ := dT hr
 simp only [aZ, bH, bN] at h0
 obtain ⟨rfl, rfl⟩ := h0
 obtain ⟨ls, h2, hl, hr⟩ := dT hr
 obtain ⟨rfl, _⟩ := sP hl
 obtain ⟨i, h3, hi, hr⟩ := dT hr
 obtain ⟨tt, h4, ht, hif⟩ := dT hr
 clear hr
 obtain ⟨rfl, hlt⟩ := aAn (zE _ _ _) ht
 rw [eFn, eCe]
 refine wpS (bAo ?_)
 rw [rg0, bNr, bC]
 refine tI fun _ => ?_
 refine wpS (bAo ?_)
 rw [rg1]
 simp only [aRn, cDk, Nat.beq, show aI [.p c 0, .a lit] 0 = .p c 0 from rfl, bVp, bC, cUt, dPz, hl, hi]
 refine tI fun F4 => ?_
 refine wpS (wpS (bAo ?_))
 rw [rg2]
 simp only [aRn, cDk, Nat.beq, ht, bC]
 refine tI fun _ => ?_
 unfold aU at hif
 split at hif <;> (try (cases hif; done))
 ·refine wpC (t := true) rfl ⟨fun _ => ?_, fun e => (by cases e)⟩
  refine dCe hif F4 ?_ ?_ ?_
  ·rfl
  ·rfl
  ·intro env' h' e5 S
   exact bHo e5 S
 ·simp only [bH, bN] at hif
  obtain ⟨rfl, rfl⟩ := hif
  refine wpC (t := false) rfl ⟨fun e => (by cases e), fun _ => ?_⟩
  exact bHo rfl (Sim.refl _)
end Go.Dd

namespace Go.Dd
open Go.Proofs
theorem dGh : (itm.ops.toList.all gJ) = true := by kernel_rfl
theorem bRf : Tryz.f162.body = some itm.code := by kernel_rfl
theorem dXc : ItOk Tryz.prog itm where
 pre := by kernel_rfl
 test := by kernel_rfl
 after := by kernel_rfl
 post := by kernel_rfl
 step := by kernel_rfl
 ops := List.all_eq_true.1 dGh
 dst := by kernel_rfl
 guard := by kernel_rfl
 op := ⟨#[3], by kernel_rfl⟩
 fn := ⟨Tryz.f162, Tryz.func162, bRf, by kernel_rfl, by kernel_rfl, by kernel_rfl⟩
theorem eLo : gX (cf Tryz.f95) = true := by kernel_rfl
theorem eAn : gX (cf Tryz.f287) = true := by kernel_rfl
theorem bJm {fn : Func} {c : Code} (h : fn.body = some c) : cf fn = c := by unfold cf; rw [h]
theorem dMf (f : FuncId) (hf : rgB f = true) (fn : Func) (c : Code) (h1 : Tryz.prog.funcs[f]? = some fn) (h2 : fn.body = some c) : gX c = true := by
 unfold rgB at hf
 simp only [Bool.or_eq_true] at hf
 rcases hf with hf | hf <;> (have e := Nat.eq_of_beq_eq_true hf; subst e)
 ·rw [Tryz.func95] at h1
  cases h1
  rw [← bJm h2]
  exact eLo
 ·rw [Tryz.func287] at h1
  cases h1
  rw [← bJm h2]
  exact eAn
end Go.Dd

namespace Go.Dd
open Go.Proofs Go.Lib Go.RowKit
theorem aSd (c : Nat) (hc : c < 256) : ∀ (l : List UInt8) (i : Nat), aSg c (l.map (·.toNat)) i = if indexByte l c.toUInt8 = -1 then -1 else indexByte l c.toUInt8 + i
 | [], i => rfl
 | b :: l, i => by
  have hb : Nat.beq b.toNat c = (b == c.toUInt8) := by
   rw [Bool.eq_iff_iff]
   constructor
   ·intro h
    have := Nat.eq_of_beq_eq_true h
    simp [← this]
   ·intro h
    have h2 : b = c.toUInt8 := by simpa using h
    rw [h2]
    have : (c.toUInt8).toNat = c := by simp [Nat.toUInt8]; omega
    rw [this]; simp
  show (bif Nat.beq b.toNat c then Int.ofNat i else aSg c (l.map (·.toNat)) (i + 1)) = _
  rw [hb]
  unfold indexByte
  cases h : (b == c.toUInt8) with
  | true => simp
  | false =>
   have ih := aSd c hc l (i + 1)
   have hge := indexByte_ge l c.toUInt8
   simp only [cond_false, Bool.false_eq_true, if_false]
   rw [ih]
   by_cases h1 : indexByte l c.toUInt8 = -1
   ·simp [h1]
   ·simp only [h1, if_false, beq_iff_eq]
    rw [if_neg (by omega)]
    omega
theorem dUr (G : Gd) : lD Tryz.prog G 229 mQ := by
 intro args h v h1 hr ρ w args' H hargs
 unfold mQ at hr
 split at hr <;> (try (cases hr; done))
 rename_i l c
 cases hc : Nat.blt c 256 with
 | false => rw [hc] at hr; cases hr
 | true =>
  rw [hc] at hr
  have hc' : c < 256 := by simpa using hc
  simp only [cond_true, bH, bN] at hr
  obtain ⟨rfl, rfl⟩ := hr
  obtain ⟨a⟩ := args'
  cases hargs with
  | cons x x' l1 l1' hx hxs =>
  cases hxs with
  | cons y y' l2 l2' hy hys =>
  cases hys
  cases hx with
  | s l bs hbs =>
  cases hy with
  | i k n =>
  refine .inr ⟨ρ, w, .int .i64 (indexByte bs.data.toList c.toUInt8), ?_, Ex.refl _ _, ?_, H, Kp.refl _ _⟩
  ·rw [run_callFunc_extern (fn := Tryz.f229) (e := Extern.BytealgIndexByte.indexByte) (by kernel_rfl) (by kernel_rfl) (by kernel_rfl) (by kernel_rfl) (by kernel_rfl)]
   rw [run_indexByteString bs (Int.ofNat c) w]
   rfl
  ·have e := aSd c hc' bs.data.toList 0
   rw [hbs] at e
   have e2 : aSg c l 0 = indexByte bs.data.toList c.toUInt8 := by
    rw [e]
    split
    ·rename_i h; exact h.symm
    ·simp
   rw [e2]
   exact .i _ _
theorem aQa (G : Gd) (g : FuncId) (F : List DV → Hp → aK) (h : CF1.I g = some F) : lD CF1.P G g F := by
 have e : CF1.I g = bif Nat.beq g 229 then some mQ else bif Nat.beq g 214 then some lV else none := rfl
 rw [e] at h
 cases hg : Nat.beq g 229 with
 | true => rw [hg] at h; cases h; cases Nat.eq_of_beq_eq_true hg; exact dUr G
 | false =>
 rw [hg, cond_false] at h
 cases hg : Nat.beq g 214 with
 | true => rw [hg] at h; cases h; cases Nat.eq_of_beq_eq_true hg; exact dSx G
 | false => rw [hg] at h; cases h
theorem bUa (n : Nat) (G : Gd) (f : FuncId) : lD Tryz.prog G f (gH CF1 n f) := bYv (C := CF1) Try_ok aQa dXc dMf n G f
end Go.Dd

namespace Go.Dd
open Go.RowKit (Below)
theorem HR.later {G : Gd} {ρ : cK} {h : Hp} {w w' : World} (H : HR G ρ h w) (e : Below w.heap.size w w') : HR G ρ h w' where
 gl := fun k hk => (e.block k (Nat.lt_of_lt_of_le hk H.sz.1)).trans (H.gl k hk)
 sz := ⟨Nat.le_trans H.sz.1 e.size, fun k hk => Nat.lt_of_lt_of_le (H.sz.2 k hk) e.size⟩
 nx := H.nx
 ro := H.ro
 dom := H.dom
 lt := H.lt
 cell := fun b k l L i v h1 h2 h3 h4 => by
  obtain ⟨v', h5, h6⟩ := H.cell b k l L i v h1 h2 h3 h4
  exact ⟨v', by rw [e.cell (eG h5)]; exact h5, h6⟩
 spare := fun b l L es j h1 h2 h3 => by
  obtain ⟨v', h5⟩ := H.spare b l L es j h1 h2 h3
  exact ⟨v', by rw [e.cell (eG h5)]; exact h5⟩
 free := fun b a h1 h2 => by
  obtain ⟨v, hv⟩ := H.lt_cell h1
  rw [e.frozen (eG hv)]
  exact H.free b a h1 h2
 inj := H.inj
 ex := H.ex
 grone := H.grone
 itr := fun b o L h1 h2 h3 => by
  obtain ⟨a, b, x, c, d⟩ := H.itr b o L h1 h2 h3
  refine ⟨a, b, x, ?_, d⟩
  rw [e.block _ (Array.getElem?_eq_some_iff.1 c).1]
  exact c
 itj := H.itj
theorem Kp.later {G : Gd} {ρ : cK} {h : Hp} {w w' : World} (H : HR G ρ h w) (e : Below w.heap.size w w') : Kp G w w' :=
 ⟨e.mono H.sz.1, fun k hk => e.block k (H.sz.2 k hk)⟩
def lE (ρ ρ2 : cK) : cK := fun b => match ρ b with
 | some L => some L
 | none => ρ2 b
section
variable {G G2 : Gd} {ρ ρ2 : cK} {h g : Hp} {w w' : World} {J : Tr Ob}
theorem HR.join (H : HR G ρ h w) (hb : Below w.heap.size w w') (H2 : HR G2 ρ2 g w') (hG2 : G2.B = w.heap.size) (low : ∀ b L, ρ2 b = some L → h.next.toNat ≤ b.toNat)
  (hk : ∀ b o, g.bl.get b = some o → o.sg = true ∨ ∃ l, o = .row .ex l) (hn : h.next.toNat ≤ g.next.toNat)
  (hJ : ∀ b, J.get b = match h.bl.get b with
   | some o => some o
   | none => g.bl.get b) : HR G (lE ρ ρ2) ⟨g.next, J⟩ w' ∧ Ex G ρ (lE ρ ρ2) ∧ Ext ρ2 (lE ρ ρ2) := by
 have H' := H.later hb
 have e1 : Ext ρ (lE ρ ρ2) := fun b L hL => by unfold lE; rw [hL]
 have no : ∀ b, h.next.toNat ≤ b.toNat → ρ b = none := fun b hb => by
  cases e : ρ b with
  | none => rfl
  | some L => have := H.lt b L e; omega
 have e2 : Ext ρ2 (lE ρ ρ2) := fun b L hL => by unfold lE; rw [no b (low b L hL)]; exact hL
 have two : ∀ b o, J.get b = some o → (h.bl.get b = some o ∧ ∃ L, ρ b = some L ∧ lE ρ ρ2 b = some L) ∨ (g.bl.get b = some o ∧ ∃ L, ρ2 b = some L ∧ lE ρ ρ2 b = some L) := fun b o ho => by
  rw [hJ] at ho
  cases hh : h.bl.get b with
  | some o' =>
   rw [hh] at ho
   cases ho
   obtain ⟨L, hL⟩ := H.dom b _ hh
   exact .inl ⟨rfl, L, hL, e1 _ _ hL⟩
  | none =>
   rw [hh] at ho
   obtain ⟨L, hL⟩ := H2.dom b o ho
   exact .inr ⟨ho, L, hL, e2 _ _ hL⟩
 have cl : ∀ {b a}, Claims (lE ρ ρ2) ⟨g.next, J⟩ b a → (Claims ρ h b a ∧ ∀ l, J.get b = some (.row .ro l) → h.bl.get b = some (.row .ro l)) ∨ (Claims ρ2 g b a ∧ ¬ isRo g b ∧ ∀ l, J.get b ≠ some (.row .ro l)) := by
  rintro b a ⟨k, l, L, q1, q2, q3⟩
  change J.get b = some (.row k l) at q1
  rcases two b _ q1 with ⟨c1, L', c2, c3⟩ | ⟨c1, L', c2, c3⟩
  ·have c3' := c3.symm.trans q2
   cases c3'
   exact .inl ⟨⟨k, l, L, c1, c2, q3⟩, fun l' hl' => by rw [q1] at hl'; rw [c1]; exact hl'⟩
  ·have c3' := c3.symm.trans q2
   cases c3'
   refine .inr ⟨⟨k, l, L, c1, c2, q3⟩, ?_, ?_⟩
   ·rintro ⟨l', hl'⟩
    rw [c1] at hl'
    cases hl'
    rcases hk b _ c1 with hs | ⟨_, hs⟩ <;> cases hs
   ·intro l' hl'
    rw [q1] at hl'
    cases hl'
    rcases hk b _ c1 with hs | ⟨_, hs⟩ <;> cases hs
 have old : ∀ {b a}, Claims ρ h b a → a.block < w.heap.size := fun hc => by
  obtain ⟨v, hv⟩ := H.lt_cell hc
  exact eG hv
 have own2 : ∀ {k}, Own G2 k → Own G k ∧ w.heap.size ≤ k := fun {k} ho => by
  have h1 := ho.1
  rw [hG2] at h1
  exact ⟨⟨Nat.le_trans H.sz.1 h1, fun hX => by have := H.sz.2 k hX; omega⟩, h1⟩
 refine ⟨⟨H'.gl, H'.sz, Nat.le_trans H.nx hn, ?_, ?_, ?_, ?_, ?_, ?_, ?_, ?_, ?_, ?_, ?_⟩, ⟨e1, fun b L hL => ?_⟩, e2⟩
 ·rintro b a hc ⟨l, hl⟩
  rcases cl hc with ⟨c, hr⟩ | ⟨_, _, hr⟩
  ·exact H'.ro b a c ⟨l, hr l hl⟩
  ·exact absurd hl (hr l)
 ·intro b o ho
  rcases two b o ho with ⟨_, L, _, c⟩ | ⟨_, L, _, c⟩
  ·exact ⟨L, c⟩
  ·exact ⟨L, c⟩
 ·intro b L hL
  unfold lE at hL
  cases e : ρ b with
  | some L' => have := H.lt b L' e; show b.toNat < g.next.toNat; omega
  | none => rw [e] at hL; exact H2.lt b L hL
 ·intro b k l L i v ho hL hi hv
  rcases two b _ ho with ⟨c1, L', c2, c3⟩ | ⟨c1, L', c2, c3⟩
  ·have c3' := c3.symm.trans hL
   cases c3'
   obtain ⟨v', q1, q2⟩ := H'.cell b k l L i v c1 c2 hi hv
   exact ⟨v', q1, q2.mono e1⟩
  ·have c3' := c3.symm.trans hL
   cases c3'
   obtain ⟨v', q1, q2⟩ := H2.cell b k l L i v c1 c2 hi hv
   exact ⟨v', q1, q2.mono e2⟩
 ·intro b l L es j ho hL hj
  rcases two b _ ho with ⟨c1, L', c2, c3⟩ | ⟨c1, L', c2, c3⟩
  ·have c3' := c3.symm.trans hL
   cases c3'
   exact H'.spare b l L es j c1 c2 hj
  ·have c3' := c3.symm.trans hL
   cases c3'
   exact H2.spare b l L es j c1 c2 hj
 ·intro b a hc hr
  rcases cl hc with ⟨c, hro⟩ | ⟨c, hnr, _⟩
  ·refine H'.free b a c fun ⟨l, hl⟩ => hr ⟨l, ?_⟩
   show J.get b = _
   rw [hJ, hl]
  ·obtain ⟨q1, q2⟩ := H2.free b a c hnr
   exact ⟨q1, (own2 q2).1⟩
 ·intro b b' a hc hc' hr
  rcases cl hc with ⟨c, _⟩ | ⟨c, hnr, _⟩
  ·rcases cl hc' with ⟨c', _⟩ | ⟨c', hnr', _⟩
   ·refine H'.inj b b' a c c' fun ⟨l, hl⟩ => hr ⟨l, ?_⟩
    show J.get b = _
    rw [hJ, hl]
   ·have h1 := old c
    have h2 := (own2 (H2.free b' a c' hnr').2).2
    omega
  ·rcases cl hc' with ⟨c', _⟩ | ⟨c', hnr', _⟩
   ·have h1 := old c'
    have h2 := (own2 (H2.free b a c hnr).2).2
    omega
   ·exact H2.inj b b' a c c' hnr
 ·intro b l L ho hL
  have key : ∀ o, J.get b = some o → (o = .row .ro l ∨ o = .row .ex l) → L.sp = 0 := fun o ho' hor => by
   rcases two b o ho' with ⟨c1, L', c2, c3⟩ | ⟨c1, L', c2, c3⟩
   ·have c3' := c3.symm.trans hL
    cases c3'
    rcases hor with rfl | rfl
    ·exact H'.ex b l L (.inl c1) c2
    ·exact H'.ex b l L (.inr c1) c2
   ·have c3' := c3.symm.trans hL
    cases c3'
    rcases hor with rfl | rfl
    ·exact H2.ex b l L (.inl c1) c2
    ·exact H2.ex b l L (.inr c1) c2
  rcases ho with ho | ho
  ·exact key _ ho (.inl rfl)
  ·exact key _ ho (.inr rfl)
 ·intro b es l i v ho hi
  rcases two b _ ho with ⟨c1, _⟩ | ⟨c1, _⟩
  ·exact H'.grone b es l i v c1 hi
  ·exact H2.grone b es l i v c1 hi
 ·intro b o L h0 ho hL
  rcases two b o ho with ⟨c1, L', c2, c3⟩ | ⟨c1, L', c2, c3⟩
  ·have c3' := c3.symm.trans hL
   cases c3'
   obtain ⟨q1, q2, x, q3, q4⟩ := H'.itr b o L h0 c1 c2
   exact ⟨q1, q2, x, q3, q4.mono e1⟩
  ·have c3' := c3.symm.trans hL
   cases c3'
   obtain ⟨q1, q2, x, q3, q4⟩ := H2.itr b o L h0 c1 c2
   exact ⟨(own2 q1).1, q2, x, q3, q4.mono e2⟩
 ·intro b o b' o' L L' h0 h0' ho ho' hL hL' he
  have lo : ∀ {b o L}, o.sg = true → h.bl.get b = some o → ρ b = some L → L.bl < w.heap.size := fun {b o L} s1 s2 s3 => by
   obtain ⟨_, _, x, q, _⟩ := H.itr b o L s1 s2 s3
   exact (Array.getElem?_eq_some_iff.1 q).1
  rcases two b o ho with ⟨c1, K, c2, c3⟩ | ⟨c1, K, c2, c3⟩ <;> (have c3' := c3.symm.trans hL; cases c3') <;>
   rcases two b' o' ho' with ⟨d1, K', d2, d3⟩ | ⟨d1, K', d2, d3⟩ <;> (have d3' := d3.symm.trans hL'; cases d3')
  ·exact H'.itj b o b' o' L L' h0 h0' c1 d1 c2 d2 he
  ·have q1 := lo h0 c1 c2
   have q2 := (own2 (H2.itr b' o' L' h0' d1 d2).1).2
   omega
  ·have q1 := lo h0' d1 d2
   have q2 := (own2 (H2.itr b o L h0 c1 c2).1).2
   omega
  ·exact H2.itj b o b' o' L L' h0 h0' c1 d1 c2 d2 he
 ·unfold lE at hL
  cases e : ρ b with
  | some L' => rw [e] at hL; exact .inl hL
  | none =>
   rw [e] at hL
   exact .inr (Nat.le_trans H.nx (low b L hL))
end
end Go.Dd

namespace Go.Dd
open Go.Proofs Go.RowKit
def gdS (w : World) (N : Nat) : Gd := ⟨w.heap.size, fun _ => False, N, w.heap, fun _ _ => trivial⟩
theorem HR.empty (w : World) (N : Nat) (p : Pos) (hN : N ≤ p.toNat) : HR (gdS w N) (fun _ => none) ⟨p, .e⟩ w := by
 constructor
 ·exact fun _ _ => rfl
 ·exact ⟨Nat.le_refl _, fun _ h => h.elim⟩
 ·exact hN
 ·rintro b a ⟨k, l, L, _, h2, _⟩; cases h2
 ·intro b o h; cases b <;> cases h
 ·intro b L h; cases h
 ·intro b k l L i v h h2; cases h2
 ·intro b l L es j h h2; cases h2
 ·rintro b a ⟨k, l, L, _, h2, _⟩; cases h2
 ·rintro b b' a ⟨k, l, L, _, h2, _⟩; cases h2
 ·intro b l L h h2; cases h2
 ·intro b es l i v h; cases b <;> cases h
 ·intro b s pos L h h2; cases h2
 ·intro b s pos b' s' pos' L L' h h' h2; cases h2
theorem aSf {f : FuncId} {args : List DV} {F : List DV → Hp → aK} {v : DV} {g1 : Hp} (hF : ∀ G, lD Tryz.prog G f F) (hr : F args hS = some (v, g1)) (fn : Func) (hf : Tryz.prog.funcs[f]? = some fn) (hb : fn.body.isSome = true)
  (w : World) (args' : Array Value) (hargs : VRs (fun _ => none) args args'.toList) :
  Calls Tryz.prog f args' w fun e w' => ∃ ρ' v', e = .returned v' ∧ VR ρ' v v' ∧ HR (gdS w 1024) ρ' g1 w' ∧ Below w.heap.size w w' ∧ ∀ b L, ρ' b = some L → 1024 ≤ b.toNat := by
 have hp : (bD 1).toNat = 1024 := by kernel_rfl
 have H : HR (gdS w 1024) (fun _ => none) hS w := HR.empty w 1024 (bD 1) (by rw [hp]; exact Nat.le_refl _)
 rcases hF (gdS w 1024) args hS v g1 hr _ w args' H hargs with ⟨_, h⟩ | ⟨ρ', w', v', h, _⟩
 ·refine h.mono ?_
  rintro e w' ⟨ρ', v', h1, h2, h3, h4, h5⟩
  exact ⟨ρ', v', h1, h3, h4, h5.low, fun b L hL => (h2.new b L hL).resolve_left (fun e => by cases e)⟩
 ·exfalso
  have hn : ¬ fn.name = "runtime.NumGoroutine" := by simpa using Try_ok.names f fn hf
  have hbn : fn.body ≠ none := by intro e; rw [e] at hb; cases hb
  unfold callFunc at h
  simp [hf, hn, hbn] at h
theorem aQp {f : FuncId} {fn : Func} (hf : Tryz.prog.funcs[f]? = some fn) (hb : fn.body.isSome = true) (args : Array Value) (w : World) : (callFunc f args).run Tryz.prog w = .ok (.enter f args) w := by
 have hn : ¬ fn.name = "runtime.NumGoroutine" := by simpa using Try_ok.names f fn hf
 have hbn : fn.body ≠ none := by intro e; rw [e] at hb; cases hb
 unfold callFunc
 simp [hf, hn, hbn]
theorem bLo {f : FuncId} {F : List DV → Hp → aK} {r : Bool} {h1 : Hp} (hF : ∀ G, lD Tryz.prog G f F) (hr : F [] hS = some (.b r, h1)) (fn : Func) (hf : Tryz.prog.funcs[f]? = some fn) (hb : fn.body.isSome = true) (G : Gd) :
  lD Tryz.prog G f (fun args h => match args with
   | [] => some (.b r, h)
   | _ => none) := by
 intro args h v h2 he ρ w args' H hargs
 cases args with
 | cons _ _ => cases he
 | nil =>
  simp only [bH, bN] at he
  obtain ⟨rfl, rfl⟩ := he
  have e0 : args' = #[] := by
   obtain ⟨a⟩ := args'
   cases hargs
   rfl
  subst e0
  refine .inl ⟨aQp hf hb _ _, ?_⟩
  refine (aSf hF hr fn hf hb w #[] .nil).mono ?_
  rintro e w' ⟨ρ', v', rfl, hv, _, hbel, _⟩
  cases hv
  exact ⟨ρ, _, rfl, Ex.refl _ _, .b _, H.later hbel, Kp.later H hbel⟩
theorem Sim.tf {a b c : Hp} (h : Sim true a b) (k : Sim false b c) : Sim false a c := ⟨k.next.trans h.next, fun p o hp => by
 obtain ⟨o', h1, h2⟩ := h.get p o hp
 rw [kM h2] at h1
 exact k.get p o h1⟩
theorem aCf (o : Ob) : xR true o o := by cases o <;> simp [xR]
theorem eNm : Sim false hS hS := ⟨rfl, fun b o hb => by cases b <;> cases hb⟩
theorem cQw (g : FuncId) (F : List DV → Hp → aK) (hg : CF.I g = some F) (n : Nat) (args : List DV) : SimP false (F args) (bT CF1 (gH CF1 (n + 12)) g args) := by
 change (bif Nat.beq g 229 then some mQ else bif Nat.beq g 214 then some lV else aCd g) = some F at hg
 have hcall : bT CF1 (gH CF1 (n + 12)) g args = fun h => match (bif Nat.beq g 229 then some mQ else bif Nat.beq g 214 then some lV else none : Option (List DV → Hp → aK)) with
  | some F => F args h
  | none => gH CF1 (n + 12) g args h := rfl
 rw [hcall]
 cases h1 : Nat.beq g 229 with
 | true => rw [h1] at hg; cases hg; exact aJg args
 | false =>
  cases h2 : Nat.beq g 214 with
  | true => rw [h1, h2] at hg; cases hg; exact aNm args
  | false =>
   rw [h1, h2] at hg
   exact aRc g F hg n args
theorem aQj {g : FuncId} (hg : CF.I g = none) : CF1.I g = none := by
 show (bif Nat.beq g 229 then some mQ else bif Nat.beq g 214 then some lV else none) = none
 change (bif Nat.beq g 229 then some mQ else bif Nat.beq g 214 then some lV else aCd g) = none at hg
 cases h1 : Nat.beq g 229 with
 | true => rw [h1] at hg; cases hg
 | false =>
  cases h2 : Nat.beq g 214 with
  | true => rw [h1, h2] at hg; cases hg
  | false => rfl
theorem bAv : ∃ g', gH CF1 912 7 [.i .i64 (.ofNat 20000)] hS = some (.t [.p (bD 7) 0, .i .i64 (.ofNat 0)], g') ∧ Sim false hN g' := by
 obtain ⟨g, h1, h2⟩ := dKs
 rw [aQg] at h1
 obtain ⟨g', h3, h4⟩ := cBi 900 7 [.i .i64 (.ofNat 20000)] hS hS eNm _ _ h1
 exact ⟨g', h3, h2.tf h4⟩
section known
variable {g1 : Hp} {HL : List (Pos × Ob)} {nx0 : Nat}
noncomputable def exL (g1 : Hp) (l : List (Pos × Ob)) : List (Pos × Ob) := l.map fun x => (x.1, (g1.bl.get x.1).getD x.2)
theorem aQo (l : List (Pos × Ob)) (t : Tr Ob) (b : Pos) : (iE l t).get b = match (iE l .e).get b with
  | some o => some o
  | none => t.get b := by
 induction l with
 | nil => rw [show iE [] t = t from rfl, show iE [] .e = .e from rfl, Tr.get_e]
 | cons x l ih =>
  show (Tr.set x.2 x.1 (iE l t)).get b = match (Tr.set x.2 x.1 (iE l .e)).get b with
   | some o => some o
   | none => t.get b
  by_cases e : b = x.1
  ·rw [e, eMi, eMi]
  ·rw [eMh _ _ _ _ e, eMh _ _ _ _ e]
   exact ih
theorem bSd (l : List (Pos × Ob)) (b : Pos) (o : Ob) (h : (iE l .e).get b = some o) : (b, o) ∈ l := by
 induction l with
 | nil => rw [show iE [] .e = .e from rfl, Tr.get_e] at h; cases h
 | cons x l ih =>
  change (Tr.set x.2 x.1 (iE l .e)).get b = some o at h
  by_cases e : b = x.1
  ·rw [e, eMi] at h
   cases h
   rw [e]
   exact List.mem_cons_self
  ·rw [eMh _ _ _ _ e] at h
   exact List.mem_cons_of_mem _ (ih h)
theorem oD (g1 : Hp) (l : List (Pos × Ob)) (b : Pos) : (iE (exL g1 l) .e).get b = ((iE l .e).get b).map fun o => (g1.bl.get b).getD o := by
 induction l with
 | nil => rw [show exL g1 [] = [] from rfl, show iE [] .e = .e from rfl, Tr.get_e]; rfl
 | cons x l ih =>
  show (Tr.set ((g1.bl.get x.1).getD x.2) x.1 (iE (exL g1 l) .e)).get b = ((Tr.set x.2 x.1 (iE l .e)).get b).map _
  by_cases e : b = x.1
  ·rw [e, eMi, eMi]
   rfl
  ·rw [eMh _ _ _ _ e, eMh _ _ _ _ e]
   exact ih
theorem aKs (S : Sim false (jD nx0 HL) g1) {b : Pos} {o : Ob} (h : (iE HL .e).get b = some o) : ∃ o', g1.bl.get b = some o' ∧ xR false o o' ∧ (iE (exL g1 HL) .e).get b = some o' := by
 obtain ⟨o', h1, h2⟩ := S.get b o h
 refine ⟨o', h1, h2, ?_⟩
 rw [oD, h, h1]
 rfl
noncomputable def aSm (o : Ob) : Bool := match o with
 | .row .ex _ => true
 | .mp _ => true
 | .big _ _ => true
 | .mi _ => true
 | _ => false
noncomputable def dEz (l : List (Pos × Ob)) : Bool := List.rec (motive := fun _ => Bool) true (fun x _ ih => aSm x.2 && ih) l
theorem aSt : ∀ {l : List (Pos × Ob)}, dEz l = true → ∀ x ∈ l, aSm x.2 = true
 | [], _, x, h => by cases h
 | y :: l, hl, x, h => by
  change (aSm y.2 && dEz l) = true at hl
  simp only [Bool.and_eq_true] at hl
  simp only [List.mem_cons] at h
  rcases h with rfl | h
  ·exact hl.1
  ·exact aSt hl.2 x h
theorem bPe {o o' : Ob} (hk : aSm o = true) (h : xR false o o') : o'.sg = true ∨ ∃ l, o' = .row .ex l := by
 unfold aSm at hk
 split at hk
 ·have : o' = _ := h
  exact .inr ⟨_, this⟩
 ·have : o' = _ := h
  rw [this]
  exact .inl rfl
 ·exact .inr ⟨_, h⟩
 ·obtain ⟨es, h1, _⟩ := h
  rw [h1]
  exact .inl rfl
 ·cases hk
noncomputable def zF (p : List DV → Bool) (v0 : DV) (nx0 : Nat) (HL : List (Pos × Ob)) (g1 : Hp) (args : List DV) (h : Hp) : aK :=
 bif p args && nC h.next (bD 1) then some (v0, ⟨bD nx0, iE (exL g1 HL) h.bl⟩) else none
theorem bMy (S1 : Sim false (jD nx0 HL) g1) (p : List DV → Bool) (v0 : DV) (args : List DV) : SimP false (aZy p v0 nx0 HL args) (zF p v0 nx0 HL g1 args) := by
 intro h h' S
 unfold aZy zF
 rw [S.next]
 cases (p args && nC h.next (bD 1)) with
 | false => exact SimR.none _
 | true =>
  intro v k e
  simp only [cond_true, bH, bN] at e
  obtain ⟨rfl, rfl⟩ := e
  refine ⟨⟨bD nx0, iE (exL g1 HL) h'.bl⟩, rfl, rfl, fun b o ho => ?_⟩
  change (iE HL h.bl).get b = some o at ho
  show ∃ o', (iE (exL g1 HL) h'.bl).get b = some o' ∧ xR false o o'
  rw [aQo] at ho ⊢
  cases hb : (iE HL .e).get b with
  | some o1 =>
   rw [hb] at ho
   cases ho
   obtain ⟨o', _, h2, h3⟩ := aKs S1 hb
   exact ⟨o', by rw [h3], h2⟩
  | none =>
   rw [hb] at ho
   rw [oD, hb]
   exact S.get b o ho
theorem bTi {f : FuncId} {F : List DV → Hp → aK} (hF : ∀ G, lD Tryz.prog G f F) {args0 : List DV} {v0 : DV} (hr0 : F args0 hS = some (v0, g1)) (S1 : Sim false (jD nx0 HL) g1) (hk : dEz HL = true) (hnx0 : 1024 ≤ (bD nx0).toNat)
  (fn : Func) (hf : Tryz.prog.funcs[f]? = some fn) (hb : fn.body.isSome = true) {p : List DV → Bool} (hp : ∀ args, p args = true → args = args0) (h0 : ∀ ρ l, VRs ρ args0 l → VRs (fun _ => none) args0 l) (G : Gd) : lD Tryz.prog G f (zF p v0 nx0 HL g1) := by
 intro args h v h1 hr ρ w args' H hargs
 unfold zF at hr
 cases hc : (p args && nC h.next (bD 1)) with
 | false => rw [hc] at hr; cases hr
 | true =>
  rw [hc] at hr
  simp only [cond_true, bH, bN] at hr
  obtain ⟨rfl, rfl⟩ := hr
  simp only [Bool.and_eq_true] at hc
  have ha := hp _ hc.1
  subst ha
  have hnx := mL _ _ hc.2
  have hp1 : (bD 1).toNat = 1024 := by kernel_rfl
  refine .inl ⟨aQp hf hb _ _, ?_⟩
  refine (aSf hF hr0 fn hf hb w args' (h0 _ _ hargs)).mono ?_
  rintro e w' ⟨ρ2, v', rfl, hv, H2, hbel, hlow⟩
  have S2 : Sim true ⟨g1.next, iE (exL g1 HL) .e⟩ g1 := ⟨rfl, fun b o ho => by
   change (iE (exL g1 HL) .e).get b = some o at ho
   rw [oD] at ho
   cases hb : (iE HL .e).get b with
   | none => rw [hb] at ho; cases ho
   | some o1 =>
    obtain ⟨o', q1, _, q3⟩ := aKs S1 hb
    rw [oD] at q3
    rw [q3] at ho
    cases ho
    exact ⟨_, q1, aCf _⟩⟩
  have hgn : g1.next = bD nx0 := S1.next
  have H3 := HR.sub S2 H2
  obtain ⟨j1, j2, j3⟩ := H.join (J := iE (exL g1 HL) h.bl) hbel H3 rfl (fun b L hL => by rw [hnx, hp1]; exact hlow b L hL) (fun b o ho => by
    change (iE (exL g1 HL) .e).get b = some o at ho
    rw [oD] at ho
    cases hb : (iE HL .e).get b with
    | none => rw [hb] at ho; cases ho
    | some o1 =>
     obtain ⟨o', q1, q2, q3⟩ := aKs S1 hb
     rw [oD] at q3
     rw [q3] at ho
     cases ho
     exact bPe (aSt hk _ (bSd _ _ _ hb)) q2) (by
    show h.next.toNat ≤ g1.next.toNat
    rw [hnx, hgn, hp1]
    exact hnx0) (fun b => by
    rw [aQo]
    cases hb : (iE (exL g1 HL) .e).get b with
    | none => cases h.bl.get b <;> rfl
    | some o =>
     cases hh : h.bl.get b with
     | none => rfl
     | some o1 =>
      exfalso
      obtain ⟨L, hL⟩ := H.dom b o1 hh
      have q1 := H.lt b L hL
      obtain ⟨L2, hL2⟩ := H3.dom b o hb
      have q2 := hlow b L2 hL2
      rw [hnx, hp1] at q1
      omega)
  rw [hgn] at j1
  exact ⟨lE ρ ρ2, v', rfl, j2, hv.mono j3, j1, Kp.later H hbel⟩
end known
noncomputable def gN1 : Hp := Classical.choose bAv
theorem dFh : gH CF1 912 7 [.i .i64 (.ofNat 20000)] hS = some (.t [.p (bD 7) 0, .i .i64 (.ofNat 0)], gN1) := (Classical.choose_spec bAv).1
theorem bIp : Sim false hN gN1 := (Classical.choose_spec bAv).2
theorem bPl : dEz HLN = true := by kernel_rfl
noncomputable def cCp : List DV → Hp → aK := zF bHz (.t [.p (bD 7) 0, .i .i64 (.ofNat 0)]) 26855 HLN gN1
theorem cNw (args : List DV) : SimP false (newK args) (cCp args) := bMy bIp _ _ _
theorem cCw (args : List DV) (h : bHz args = true) : args = [.i .i64 (.ofNat 20000)] := by
 unfold bHz at h
 split at h
 ·rw [Nat.eq_of_beq_eq_true h]
 ·cases h
theorem dCi {k : IntKind} {n : Int} (ρ : cK) (l : List Value) (h : VRs ρ [.i k n] l) : VRs (fun _ => none) [.i k n] l := by
 cases h with
 | cons _ _ _ _ q1 q2 =>
  cases q1
  cases q2
  exact .cons _ _ _ _ (.i _ _) .nil
theorem bVy (G : Gd) : lD Tryz.prog G 7 cCp :=
 bTi (fun G => bUa 912 G 7) dFh bIp bPl (by rw [show (bD 26855).toNat = 27878 from by kernel_rfl]; decide) Tryz.f7 Tryz.func7 (by kernel_rfl) cCw dCi G
noncomputable def mR : RT := fun g => bif Nat.beq g 7 then cCp else gH CF1 912 g
theorem recN1_ok : OkC CF1 mR := by
 refine ⟨aQa, fun G g => ?_⟩
 unfold mR
 cases hg : Nat.beq g 7 with
 | true => cases Nat.eq_of_beq_eq_true hg; exact bVy G
 | false => exact bUa 912 G g
theorem bDw (n : Nat) (g : FuncId) (args : List DV) (h : Hp) : aCg n g args h = bif Nat.beq g 7 then newK args h else fW n g args h := rfl
theorem bBz (g : FuncId) (args : List DV) : SimP false (aCg 900 g args) (mR g args) := by
 intro h h' S
 rw [bDw]
 unfold mR
 cases hg : Nat.beq g 7 with
 | false =>
  rw [cond_false, cond_false, aQg]
  exact cBi 900 g args h h' S
 | true => exact cNw args h h' S
theorem HCN (g : FuncId) (args : List DV) : SimP false (bT CF (aCg 900) g args) (bT CF1 mR g args) := by
 cases hg : CF.I g with
 | none => rw [nZ hg, nZ (aQj hg)]; exact bBz g args
 | some F =>
  have e : bT CF (aCg 900) g args = F args := by funext k; unfold bT; rw [hg]
  rw [e]
  have e1 : bT CF1 mR g args = bT CF1 (gH CF1 912) g args := by
   cases h10 : Nat.beq g 7 with
   | true =>
    cases Nat.eq_of_beq_eq_true h10
    exact absurd hg (by show ¬ CF.I 7 = some F; exact fun e => by cases e)
   | false =>
    funext k
    unfold bT mR
    rw [h10]
    rfl
  rw [e1]
  exact cQw g F hg 900 args
theorem bXf : ∃ g, aE CF1 mR 912 9 [] hS = some (.b true, g) := by
 have hl := dTo
 cases hr : s9 (aCg 900) 900 hS with
 | none => rw [hr] at hl; cases hl
 | some p =>
  obtain ⟨v, k⟩ := p
  rw [hr] at hl
  cases v <;> (try (cases hl; done))
  rename_i b
  change b = true at hl
  subst hl
  obtain ⟨g, h1, h2⟩ := pW (P := Tryz.prog) (I2 := CF.I) (I1 := CF1.I) HCN 900 12 9 [] hS hS eNm _ _ ((eDs (aCg 900) 900 [] hS).trans hr)
  exact ⟨g, h1⟩
noncomputable def kA : RT := fun g args h => bif Nat.beq g 9 then (match args with
 | [] => some (.b true, h)
 | _ => none) else aCg 900 g args h
noncomputable def aRt : RT := fun g => bif Nat.beq g 9 then (fun args h => match args with
 | [] => some (.b true, h)
 | _ => none) else mR g
theorem bXq : OkC CF1 aRt := by
 refine ⟨aQa, fun G g => ?_⟩
 unfold aRt
 cases hg : Nat.beq g 9 with
 | true =>
  cases Nat.eq_of_beq_eq_true hg
  obtain ⟨k, hk⟩ := bXf
  exact bLo (fun G => uF recN1_ok Try_ok 912 9) hk Tryz.f9 Tryz.func9 (by kernel_rfl) G
 | false => exact recN1_ok.fns G g
theorem HCX (g : FuncId) (args : List DV) : SimP false (bT CF kA g args) (bT CF1 aRt g args) := by
 cases hg : CF.I g with
 | none =>
  rw [nZ hg, nZ (aQj hg)]
  intro h h' S
  show SimR false (bif Nat.beq g 9 then (match args with
   | [] => some (.b true, h)
   | _ => none) else aCg 900 g args h) ((bif Nat.beq g 9 then (fun args h => match args with
   | [] => some (.b true, h)
   | _ => none : List DV → Hp → aK) else mR g) args h')
  cases h16 : Nat.beq g 9 with
  | true =>
   rw [cond_true, cond_true]
   cases args with
   | nil => exact SimR.some S _
   | cons a l => exact SimR.none _
  | false => rw [cond_false, cond_false]; exact bBz g args h h' S
 | some F =>
  have e : bT CF kA g args = F args := by funext k; unfold bT; rw [hg]
  have e0 : bT CF (aCg 900) g args = F args := by funext k; unfold bT; rw [hg]
  have e1 : bT CF1 aRt g args = bT CF1 mR g args := by
   cases h16 : Nat.beq g 9 with
   | true =>
    cases Nat.eq_of_beq_eq_true h16
    exact absurd hg (by show ¬ CF.I 9 = some F; exact fun e => by cases e)
   | false =>
    funext k
    unfold bT aRt
    rw [h16]
    rfl
  rw [e, e1, ← e0]
  exact HCN g args
structure Ro (w : World) (ρ : cK) (h : Hp) : Prop where
 dom : ∀ b o, h.bl.get b = some o → ∃ L, ρ b = some L
 lt : ∀ b L, ρ b = some L → b.toNat < h.next.toNat
 row : ∀ b o, h.bl.get b = some o → ∃ l, o = .row .ro l
 cell : ∀ b l L i v, h.bl.get b = some (.row .ro l) → ρ b = some L → l[i]? = some v → ∃ v', w.cell? (gA L i) = some v' ∧ VR ρ v v'
 sp : ∀ b o L, h.bl.get b = some o → ρ b = some L → L.sp = 0
theorem Ro.isRo {w : World} {ρ : cK} {h : Hp} (R : Ro w ρ h) {b : Pos} {a : Addr} (c : Claims ρ h b a) : isRo h b := by
 obtain ⟨k, l, L, h1, h2, _⟩ := c
 obtain ⟨l', e⟩ := R.row b _ h1
 exact ⟨l', by rw [h1, e]⟩
theorem Ro.hr {w : World} {ρ : cK} {h : Hp} (R : Ro w ρ h) : HR (gdS w 0) ρ h w where
 gl := fun _ _ => rfl
 sz := ⟨Nat.le_refl _, fun _ hh => hh.elim⟩
 nx := Nat.zero_le _
 ro := fun b a c _ => by
  obtain ⟨k, l, L, h1, h2, h3⟩ := c
  obtain ⟨l', e⟩ := R.row b _ h1
  cases e
  rcases h3 with ⟨i, v, h4, h5, rfl⟩ | ⟨es, j, h4, _⟩
  ·obtain ⟨v', h6, _⟩ := R.cell b _ L i v h1 h2 h4
   exact eG h6
  ·cases h4
 dom := R.dom
 lt := R.lt
 cell := fun b k l L i v h1 h2 h3 h4 => by
  obtain ⟨l', e⟩ := R.row b _ h1
  cases e
  exact R.cell b _ L i v h1 h2 h3
 spare := fun b l L es j h1 => by
  obtain ⟨l', e⟩ := R.row b _ h1
  cases e
 free := fun b a c hn => absurd (R.isRo c) hn
 inj := fun b b' a c c' hn => absurd (R.isRo c) hn
 ex := fun b l L h1 h2 => by
  rcases h1 with h1 | h1
  ·exact R.sp b _ L h1 h2
  ·exact R.sp b _ L h1 h2
 grone := fun b es l i v h1 => by
  obtain ⟨l', e⟩ := R.row b _ h1
  cases e
 itr := fun b o L hs h1 _ => by
  obtain ⟨l', rfl⟩ := R.row b _ h1
  cases hs
 itj := fun b o b' o' L L' hs hs' h1 _ _ _ _ => by
  obtain ⟨l', rfl⟩ := R.row b _ h1
  cases hs
theorem Ro.none (w : World) (p : Pos) : Ro w (fun _ => none) ⟨p, .e⟩ where
 dom := fun b o h => by cases b <;> cases h
 lt := fun b L h => by cases h
 row := fun b o h => by cases b <;> cases h
 cell := fun b l L i v h => by cases b <;> cases h
 sp := fun b o L h => by cases b <;> cases h
theorem Ro.sim {w : World} {ρ : cK} {h : Hp} (R : Ro w ρ h) : Sim false h h := ⟨rfl, fun b o e => by
 obtain ⟨l, rfl⟩ := R.row b o e
 exact ⟨_, e, rfl⟩⟩
theorem dOh {f : FuncId} {args : List DV} {h0 : Hp} {ρ : cK} (hr : ∃ k, aE CF kA 900 f args h0 = some (.b true, k)) (fn : Func) (hf : Tryz.prog.funcs[f]? = some fn) (hb : fn.body.isSome = true)
  (w : World) (R : Ro w ρ h0) (args' : Array Value) (hargs : VRs ρ args args'.toList) :
  Calls Tryz.prog f args' w fun e w' => e = .returned (.bool true) ∧ Below w.heap.size w w' := by
 obtain ⟨k, hk⟩ := hr
 obtain ⟨g, h1, _⟩ := pW (P := Tryz.prog) (I2 := CF.I) (I1 := CF1.I) HCX 900 12 f args h0 h0 R.sim _ _ hk
 have H := R.hr
 rcases uF bXq Try_ok 912 f args h0 _ g h1 _ w args' H hargs with ⟨_, h⟩ | ⟨ρ', w', v', h, _⟩
 ·refine h.mono ?_
  rintro e w' ⟨ρ', v', rfl, h2, h3, h4, h5⟩
  cases h3
  exact ⟨rfl, h5.low⟩
 ·exfalso
  have hn : ¬ fn.name = "runtime.NumGoroutine" := by simpa using Try_ok.names f fn hf
  have hbn : fn.body ≠ none := by intro e; rw [e] at hb; cases hb
  unfold callFunc at h
  simp [show CF1.P.funcs[f]? = some fn from hf, hn, hbn] at h
theorem dNa {f : FuncId} {args : List DV} (hr : ∃ k, aE CF kA 900 f args hS = some (.b true, k)) (fn : Func) (hf : Tryz.prog.funcs[f]? = some fn) (hb : fn.body.isSome = true)
  (w : World) (args' : Array Value) (hargs : VRs (fun _ => none) args args'.toList) :
  Calls Tryz.prog f args' w fun e w' => e = .returned (.bool true) ∧ Below w.heap.size w w' := dOh hr fn hf hb w (Ro.none w _) args' hargs
end Go.Dd

namespace Go.Dd
open Go.Proofs
theorem px0 (a b : DV) (h : Hp) : aH 0 (.t [a, b]) h = some (a, h) := Eq.trans rfl rfl
theorem px1 (a b : DV) (h : Hp) : aH 1 (.t [a, b]) h = some (b, h) := Eq.trans rfl rfl
theorem eJl (p q : Bool) (h : Hp) : pEq .bool false (.b p) (.b q) h = some (.b (p != q), h) := by cases p <;> cases q <;> rfl
theorem bPh {a : Nat} (h : a ≠ 0) : Nat.beq a 0 = false := by
 cases hb : Nat.beq a 0 with
 | true => exact absurd (Nat.eq_of_beq_eq_true hb) h
 | false => rfl
section
end
end Go.Dd

namespace Go.Dd
open Go.Proofs
section
theorem Wd.memory {h : Hp} {M : MemV} {R : List Int} {es : List (DV × DV)} (W : Wd h M R es) (n : Nat) : fW (n + 1) 17 [.p (bD 7) 0] h = some (.p (bD 3) 0, h) := by
 rw [shS 17 rfl, dIj]
 unfold s17
 simp only [g0, gM, xJ, bC, W.l00]
end
end Go.Dd

namespace Go.Dd
open Go.Proofs
def GrS (x : DV) (l : List DV) (lo : Nat) (h : Hp) : Prop := (x = .l0 ∧ l = []) ∨ ∃ b, x = .l b 0 l.length l.length ∧ h.bl.get b = some (.row (.gr 1) l) ∧ lo ≤ b.toNat ∧ b.toNat < h.next.toNat
structure Lo (lo : Nat) (h h' : Hp) : Prop where
 next : h.next.toNat ≤ h'.next.toNat
 get : ∀ b : Pos, b.toNat < lo → h'.bl.get b = h.bl.get b
theorem Lo.refl (lo : Nat) (h : Hp) : Lo lo h h := ⟨Nat.le_refl _, fun _ _ => rfl⟩
theorem Lo.trans {lo : Nat} {a b c : Hp} (u : Lo lo a b) (v : Lo lo b c) : Lo lo a c := ⟨Nat.le_trans u.next v.next, fun p h => (v.get p h).trans (u.get p h)⟩
theorem Lo.up {h h' : Hp} (u : Lo h.next.toNat h h') : Up h h' := ⟨u.next, fun b _ h2 => u.get b h2⟩
theorem Wd.lo {h h' : Hp} {M : MemV} {R : List Int} {es : List (DV × DV)} (W : Wd h M R es) (u : Lo h.next.toNat h h') : Wd h' M R es := W.up u.up fun b hb => u.get b (Nat.lt_of_lt_of_le hb W.nx)
theorem cFs : ∀ l : List DV, (∀ v ∈ l, v.one = true) → jN l.length l = some l := zD
theorem GrS.app {x : DV} {l : List DV} {lo : Nat} {h : Hp} (S : GrS x l lo h) (hlo : lo ≤ h.next.toNat) (hl : ∀ v ∈ l, v.one = true) {z v : DV} (hz : dE v = some [v]) (hv : v.one = true) {bytes : Nat} (hb : (l.length + 1) * bytes ≤ oP) :
  ∃ y g, aN [z] 1 [(0, 1, v)] h = some (y, g) ∧ ∃ x' h', aY 1 bytes x y g = some (x', h') ∧ GrS x' (l ++ [v]) lo h' ∧ Lo lo h h' := by
 refine ⟨.l h.next 0 1 1, ⟨h.next.succ, Tr.set (.row .ex [v]) h.next h.bl⟩, ?_, ?_⟩
 ·simp [aN, jK, hz]
 ·have src : tY 1 (.l h.next 0 1 1) ⟨h.next.succ, Tr.set (.row .ex [v]) h.next h.bl⟩ = some (1, [v]) := by
   have : cellsAt h.next 0 (1 * 1) ⟨h.next.succ, Tr.set (.row .ex [v]) h.next h.bl⟩ = some [v] := by
    simp [cellsAt, rowOf, eMi, jN, hv]
   simp only [tY, this]
  have ns := eMj h.next
  have ns2 := eMj h.next.succ
  rcases S with ⟨rfl, rfl⟩ | ⟨b, rfl, hbg, h1, h2⟩
  ·refine ⟨.l h.next.succ 0 1 1, ⟨h.next.succ.succ, Tr.set (.row (.gr 1) [v]) h.next.succ (Tr.set (.row .ex [v]) h.next h.bl)⟩, ?_, ?_, ?_⟩
   ·unfold aY
    rw [src]
    dsimp only
    rw [if_neg (by simp), if_pos (by simpa using hb)]
   ·exact .inr ⟨h.next.succ, rfl, eMi _ _ _, by omega, by show _ < h.next.succ.succ.toNat; omega⟩
   ·refine ⟨by show _ ≤ h.next.succ.succ.toNat; omega, fun p hp => ?_⟩
    show (Tr.set _ h.next.succ (Tr.set _ h.next h.bl)).get p = _
    rw [eMh _ _ _ _ (fun e => by subst e; omega), eMh _ _ _ _ (fun e => by subst e; omega)]
  ·have hne : b ≠ h.next := fun e => by subst e; omega
   have hget : (Tr.set (.row .ex [v]) h.next h.bl).get b = some (.row (.gr 1) l) := by rw [eMh _ _ _ _ hne]; exact hbg
   have hcells : cellsAt b 0 (l.length * 1) ⟨h.next.succ, Tr.set (.row .ex [v]) h.next h.bl⟩ = some l := by
    simp only [cellsAt, rowOf, hget, List.drop_zero, Nat.mul_one]
    exact cFs l hl
   refine ⟨.l h.next.succ 0 (l.length + 1) (l.length + 1), ⟨h.next.succ.succ, Tr.set (.row (.gr 1) (l ++ [v])) h.next.succ (Tr.set (.row .sp (bQ 0 l)) b (Tr.set (.row .ex [v]) h.next h.bl))⟩, ?_, ?_, ?_⟩
   ·unfold aY
    rw [src]
    dsimp only
    rw [if_neg (by omega), hget, hcells]
    dsimp only
    rw [if_pos hb, if_pos (by simp)]
   ·exact .inr ⟨h.next.succ, by simp, eMi _ _ _, by omega, by show _ < h.next.succ.succ.toNat; omega⟩
   ·refine ⟨by show _ ≤ h.next.succ.succ.toNat; omega, fun p hp => ?_⟩
    show (Tr.set _ h.next.succ (Tr.set _ b (Tr.set _ h.next h.bl))).get p = _
    rw [eMh _ _ _ _ (fun e => by subst e; omega), eMh _ _ _ _ (fun e => by subst e; omega), eMh _ _ _ _ (fun e => by subst e; omega)]
theorem bZu (k : IntKind) (hk : k = .i64 ∨ k = .u8) {c : Nat} (hc : c < 256) : k.wrap (c : Int) = (c : Int) := by
 rcases hk with rfl | rfl
 ·exact iL _ (by omega)
 ·have : (IntKind.u8.wrap (c : Int)) = (c : Int) % 256 := by
   simp [IntKind.wrap, IntKind.bits, IntKind.signed]
  rw [this]
  omega
end Go.Dd

namespace Go.Dd
open Go.Proofs
def iN (c : Nat) : DV := .i .i64 (Int.ofNat c)
theorem dNv (l : List Nat) : ∀ v ∈ l.map iN, v.one = true := by
 intro v hv
 obtain ⟨c, _, rfl⟩ := List.mem_map.1 hv
 rfl
theorem yN {rec : FuncId → List DV → Hp → aK} {n lo : Nat} {x0 x1 : DV} : ∀ (rest done : List Nat) (m : Nat) (x : DV) (h : Hp), GrS x (done.map iN) lo h → lo ≤ h.next.toNat → (∀ c ∈ done ++ rest, c < 256) → (done ++ rest).length ≤ 300 → rest.length < m →
  ∃ x' h', pA rec n m x0 x1 (.s (done ++ rest)) x (.i .i64 ((done ++ rest).length : Int)) (.i .i64 (Int.ofNat done.length)) h = gE rec n x0 x1 x' h' ∧ GrS x' ((done ++ rest).map iN) lo h' ∧ Lo lo h h'
 | [], done, m + 1, x, h, S, hlo, hc, hl, hm => by
  refine ⟨x, h, ?_, by rw [List.append_nil]; exact S, Lo.refl lo h⟩
  show pR rec n (pA rec n m) _ _ _ _ _ _ h = _
  unfold pR
  have hl : decide (Int.ofNat done.length < ((done ++ []).length : Int)) = false := by simp
  simp only [fV, bC, hl, cU]
 | c :: rest, done, m + 1, x, h, S, hlo, hc, hl, hm => by
  have hc1 : c < 256 := hc c (by simp)
  obtain ⟨y, g, e1, x', h', e2, S', L'⟩ := S.app hlo (dNv done) (z := .i .i64 (Int.ofNat 0)) (v := iN c) rfl rfl (bytes := 8) (by simp at hl ⊢; unfold oP; omega)
  have S2 : GrS x' ((done ++ [c]).map iN) lo h' := by rw [List.map_append]; exact S'
  obtain ⟨x2, h2, e3, S3, L3⟩ := yN (rec := rec) (n := n) (lo := lo) (x0 := x0) (x1 := x1) rest (done ++ [c]) m x' h' S2 (Nat.le_trans hlo L'.next) (by simpa using hc) (by simpa using hl) (by simp at hm; omega)
  refine ⟨x2, h2, ?_, by simpa using S3, L'.trans L3⟩
  rw [← e3]
  show pR rec n (pA rec n m) _ _ _ _ _ _ h = _
  unfold pR
  have hl1 : decide (Int.ofNat done.length < ((done ++ c :: rest).length : Int)) = true := by simp; omega
  have hix : eT (.s (done ++ c :: rest)) (.i .i64 (Int.ofNat done.length)) h = some (.i .u8 (c : Int), h) := by
   show (if (0 : Int) ≤ Int.ofNat done.length then (match (done ++ c :: rest)[(Int.ofNat done.length).toNat]? with
    | some c => some (DV.i .u8 (c : Int), h)
    | none => none) else none) = _
   rw [if_pos (by simp), show (Int.ofNat done.length).toNat = done.length from rfl]
   simp
  have hcv : dS .i64 (.i .u8 (c : Int)) h = some (iN c, h) := by
   show some (DV.i .i64 (IntKind.i64.wrap (c : Int)), h) = _
   rw [bZu .i64 (.inl rfl) hc1]
   rfl
  have hadd : aF .add (.i .i64 (Int.ofNat done.length)) (.i .i64 (Int.ofNat 1)) h' = some (.i .i64 (Int.ofNat (done ++ [c]).length), h') := by
   rw [iT _ _ _ (by simp at hl ⊢; omega)]
   simp
  simp only [fV, bC, hl1, dD, hix, hcv, e1, e2, hadd]
  simp
structure TxO (M : MemV) (cls o : Int) (s : List Nat) : Prop where
 at0 : cE o M.pl ≠ 0
 hd : M.t.get (cE o M.pl) = .ofNat (s.length * 4 + 2)
 cls : M.t.get (cE o M.pl + 1) = cls
 by8 : ∀ c ∈ s, c < 256
 len : s.length ≤ 256
 get : ∀ i c, s[i]? = some c → M.t.get (cE o M.pl + 3 + i) = .ofNat c
theorem Grown.txo {M M' : MemV} {f : Nat} {k : Int} {l : List Int} (g : Grown M M' f k l) (G : Good M) {cls o : Int} {s : List Nat} (T : TxO M cls o s) : TxO M' cls o s := by
 have h1 := G.le
 have h3 := G.hi
 have hp : M.pl.get (cE o M.pl) ≠ 0 := by
  rcases mG o M.pl with e | ⟨e, _⟩
  ·exact absurd e T.at0
  ·rw [e]; exact (atN_pos.1 T.at0).2
 obtain ⟨_, hd, e1, e2, e3, _⟩ := G.ob _ hp
 rw [T.hd] at e1
 cases e1
 have ea : cE o M'.pl = cE o M.pl := by rw [g.pl]; exact sA (by omega) T.at0
 refine ⟨by rw [ea]; exact T.at0, by rw [ea, g.old _ (by omega)]; exact T.hd, by rw [ea, g.old _ (by omega)]; exact T.cls, T.by8, T.len, fun i c hi => ?_⟩
 have hil : i < s.length := by
  rcases Nat.lt_or_ge i s.length with q | q
  ·exact q
  ·rw [List.getElem?_eq_none q] at hi; cases hi
 rw [ea, g.old _ (by omega)]
 exact T.get i c hi
theorem Grown.new_txo {M M' : MemV} {cls : Int} {s : List Nat} (g : Grown M M' 2 cls (s.map Int.ofNat)) (G : Good M) (hs : ∀ c ∈ s, c < 256) (hl : s.length ≤ 256) : TxO M' cls (.ofNat (M.fin * 2)) s := by
 have h1 := G.le
 have h2 := G.lo
 have h3 := G.hi
 have ha : cE (.ofNat (M.fin * 2)) M'.pl = M.fin := by rw [g.pl]; exact aVc h2 (by omega)
 refine ⟨by rw [ha]; omega, by rw [ha, g.hd]; simp, by rw [ha, g.cl], hs, hl, fun i c hi => ?_⟩
 rw [ha]
 exact g.new i _ (by rw [List.getElem?_map, hi]; rfl)
section
variable {h : Hp} {M : MemV} {R : List Int} {es : List (DV × DV)}
theorem Wd.bytes49 (W : Wd h M R es) (G : Good M) {cls : Int} (hc : cE cls M.pl ≠ 0) {s : List Nat} (hs : ∀ c ∈ s, c < 256) (h256 : s.length ≤ 256) (room : M.fin + s.length + 3 ≤ M.n) {n : Nat} (hn : 300 < n) :
  ∃ h' M', fW (n + 2) 43 [.p (bD 7) 0, .i .i64 cls, .s s] h = some (.t [.i .i64 (.ofNat (M.fin * 2)), .i .i64 (.ofNat 0)], h') ∧ Wd h' M' R es ∧ Up h h' ∧ Grown M M' 2 cls (s.map Int.ofNat) := by
 obtain ⟨x', h1, e1, S1, L1⟩ := yN (rec := fW (n + 1)) (n := n + 1) (lo := h.next.toNat) (x0 := .p (bD 7) 0) (x1 := .i .i64 cls) s [] (n + 1) .l0 h (.inl ⟨rfl, rfl⟩) (Nat.le_refl _) (by simpa using hs) (by simp; omega) (by omega)
 have W1 := W.lo L1
 have S2 : SlI x' (s.map Int.ofNat) h1 := by
  have em : (([] : List Nat) ++ s).map iN = (s.map Int.ofNat).map iD := by simp [iN, iD]
  rcases S1 with ⟨rfl, e⟩ | ⟨b, e, hb, h2, h3⟩
  ·refine .inl ⟨rfl, ?_⟩
   have : s = [] := by simpa using e
   rw [this]; rfl
  ·refine .inr ⟨b, s.length, .gr 1, by rw [e]; simp, by rw [hb, em], .inr (Nat.le_trans (Nat.le_trans (by decide) W.nx) h2), h3⟩
 obtain ⟨h', M', e2, W2, U2, _, g⟩ := W1.make61 G hc (f := 2) (by omega) S2 (by simpa using h256) (by simpa using room) (fun v hv => by
  obtain ⟨c, hc', rfl⟩ := List.mem_map.1 hv
  have := hs c hc'
  show 0 ≤ Int.ofNat c ∧ Int.ofNat c ≤ 255
  simp; omega) (n := n) (by omega)
 refine ⟨h', M', ?_, W2, L1.up.trans U2, g⟩
 rw [shS 43 rfl, dIn]
 unfold s43 bBv bFr bBx cHg
 have el : eC (.s s) h = some (.i .i64 (s.length : Int), h) := rfl
 simp only [g0, g1, g2, el, bC]
 refine Eq.trans e1 ?_
 unfold gE
 rw [e2]
 simp only [bC, px0, px1]
end
end Go.Dd

namespace Go.Dd
open Go.Proofs
structure ObI (M : MemV) (R : List Int) (CL : List Nat) (a hd : Nat) (z : Prop := True) : Prop where
 len : hd / 4 ≤ 256
 fmt : hd % 4 ≤ 2
 arr : M.t.get (a + 1) = R.getD 11 0 → hd % 4 = 0
 str : M.t.get (a + 1) = R.getD 12 0 ∨ M.t.get (a + 1) = R.getD 13 0 → hd % 4 = 2
 by8 : hd % 4 = 2 → ∀ i, i < hd / 4 → ∃ c : Nat, c < 256 ∧ M.t.get (a + 3 + i) = .ofNat c
 cls : M.t.get (a + 1) = R.getD 3 0 → a ∈ CL
 pl : z → ∀ c ∈ CL, M.t.get (c + 8) = 1 → M.t.get (a + 1) = .ofNat (2 * c) → hd % 4 = 0 ∧ ∀ i, i < hd / 4 → M.t.get (a + 3 + i) = 0
structure ClI (M : MemV) (R : List Int) (c : Nat) : Prop where
 pt : 3 ≤ c ∧ c ≤ 131072
 pl : M.pl.get c ≠ 0
 hd : M.t.get c = .ofNat 24
 cl : M.t.get (c + 1) = R.getD 3 0
 nm : ∃ s, TxO M (R.getD 13 0) (M.t.get (c + 3)) s ∧ 1 ≤ s.length ∧ s.length ≤ 60
 sz : ∃ z : Nat, z ≤ 16 ∧ M.t.get (c + 5) = .ofNat (2 * z + 1)
 kd : ∃ k : Nat, k ≤ 3 ∧ M.t.get (c + 8) = .ofNat (2 * k + 1)
structure GI (M : MemV) (R : List Int) (CL : List Nat) (z : Prop := True) : Prop where
 z0 : M.t.get 0 = 0
 z1 : M.t.get 1 = 0
 ob : ∀ a, M.pl.get a ≠ 0 → ∀ hd : Nat, M.t.get a = .ofNat hd → ObI M R CL a hd z
 dj : ∀ a b, M.pl.get a ≠ 0 → M.pl.get b ≠ 0 → a < b → ∀ hd : Nat, M.t.get a = .ofNat hd → a + 3 + hd / 4 ≤ b
 cl : ∀ c ∈ CL, ClI M R c
 rk : ∀ i, i < 16 → R.getD (2 + i) 0 = .ofNat (6 + 18 * i)
 kn : ∀ i, i < 16 → 3 + 9 * i ∈ CL
 k9 : M.t.get 92 = 3
 k10 : M.t.get 101 = 5
 k11 : M.t.get 110 = 5
 k8 : M.t.get 83 = 7
 k1 : M.t.get 20 = 7
section
variable {M M' : MemV} {R : List Int} {CL : List Nat} {f : Nat} {cls : Int} {l : List Int} {z : Prop}
theorem GI.lt (I : GI M R CL z) (G : Good M) {c : Nat} (hc : c ∈ CL) : c + 9 ≤ M.fin := by
 obtain ⟨_, hd, h1, _, h3, _⟩ := G.ob c (I.cl c hc).pl
 rw [(I.cl c hc).hd] at h1
 have := Int.ofNat.inj h1
 omega
structure NewI (M : MemV) (R : List Int) (CL : List Nat) (f : Nat) (cls : Int) (l : List Int) : Prop where
 len : l.length ≤ 256
 fmt : f ≤ 2
 arr : cls = R.getD 11 0 → f = 0
 str : cls = R.getD 12 0 ∨ cls = R.getD 13 0 → f = 2
 by8 : f = 2 → ∀ v ∈ l, ∃ c : Nat, c < 256 ∧ v = .ofNat c
 ncl : cls ≠ R.getD 3 0
 pl : ∀ c ∈ CL, M.t.get (c + 8) = 1 → cls = .ofNat (2 * c) → f = 0 ∧ ∀ v ∈ l, v = 0
theorem Grown.gi (g : Grown M M' f cls l) (G : Good M) (I : GI M R CL z) (N : NewI M R CL f cls l) : GI M' R CL z where
 z0 := by rw [g.old 0 (by have := G.lo; omega)]; exact I.z0
 z1 := by rw [g.old 1 (by have := G.lo; omega)]; exact I.z1
 rk := I.rk
 kn := I.kn
 k9 := by have := I.lt G (I.kn 15 (by omega)); rw [g.old 92 (by omega)]; exact I.k9
 k10 := by have := I.lt G (I.kn 15 (by omega)); rw [g.old 101 (by omega)]; exact I.k10
 k11 := by have := I.lt G (I.kn 15 (by omega)); rw [g.old 110 (by omega)]; exact I.k11
 k8 := by have := I.lt G (I.kn 15 (by omega)); rw [g.old 83 (by omega)]; exact I.k8
 k1 := by have := I.lt G (I.kn 15 (by omega)); rw [g.old 20 (by omega)]; exact I.k1
 dj := fun a b ha hb hab hd hh => by
  have hk : M.fin < 16000000 := by have := G.le; have := G.hi; omega
  rw [g.pl, sT _ hk] at ha hb
  by_cases eb : b = M.fin
  ·rw [if_neg (by omega)] at ha
   obtain ⟨h3, hd', h1, h2, h4, _⟩ := G.ob a ha
   rw [g.old a (by omega)] at hh
   have e : hd' = hd := Int.ofNat.inj (h1.symm.trans hh)
   omega
  ·rw [if_neg eb] at hb
   obtain ⟨_, _, _, _, h5, _⟩ := G.ob b hb
   rw [if_neg (by omega)] at ha
   rw [g.old a (by omega)] at hh
   exact I.dj a b ha hb hab hd hh
 cl := fun c hc => by
  have hlt := I.lt G hc
  have C := I.cl c hc
  have hk : M.fin < 16000000 := by have := G.le; have := G.hi; omega
  refine ⟨C.pt, ?_, by rw [g.old c (by omega)]; exact C.hd, by rw [g.old (c + 1) (by omega)]; exact C.cl, ?_, by rw [g.old (c + 5) (by omega)]; exact C.sz, by rw [g.old (c + 8) (by omega)]; exact C.kd⟩
  ·rw [g.pl, sT _ hk]
   split
   ·decide
   ·exact C.pl
  ·obtain ⟨s, q1, q2⟩ := C.nm
   rw [g.old (c + 3) (by omega)]
   exact ⟨s, g.txo G q1, q2⟩
 ob := fun a ha hd hh => by
  have hk : M.fin < 16000000 := by have := G.le; have := G.hi; omega
  rw [g.pl, sT _ hk] at ha
  have hcl : ∀ c ∈ CL, M'.t.get (c + 8) = M.t.get (c + 8) := fun c hc => g.old _ (by have := I.lt G hc; omega)
  by_cases ea : a = M.fin
  ·subst ea
   rw [g.hd] at hh
   have e : hd = l.length * 4 + f := (Int.ofNat.inj hh).symm
   have h4 : hd / 4 = l.length := by have := N.fmt; omega
   have hm : hd % 4 = f := by have := N.fmt; omega
   have hnew : ∀ i, i < hd / 4 → ∃ v ∈ l, M'.t.get (M.fin + 3 + i) = v := fun i hi => by
    rw [h4] at hi
    exact ⟨l[i], List.getElem_mem hi, g.new i _ (List.getElem?_eq_getElem hi)⟩
   refine ⟨by rw [h4]; exact N.len, by rw [hm]; exact N.fmt, ?_, ?_, ?_, ?_, ?_⟩
   ·rw [g.cl, hm]; exact N.arr
   ·rw [g.cl, hm]; exact N.str
   ·intro q i hi
    obtain ⟨v, q1, q2⟩ := hnew i hi
    obtain ⟨c, q3, q4⟩ := N.by8 (by rw [← hm]; exact q) v q1
    exact ⟨c, q3, q2.trans q4⟩
   ·rw [g.cl]; exact fun q => absurd q N.ncl
   ·intro _ c hc q1 q2
    rw [hcl c hc] at q1
    rw [g.cl] at q2
    obtain ⟨q3, q4⟩ := N.pl c hc q1 q2
    refine ⟨by rw [hm]; exact q3, fun i hi => ?_⟩
    obtain ⟨v, q5, q6⟩ := hnew i hi
    rw [q6, q4 v q5]
  ·rw [if_neg ea] at ha
   obtain ⟨h3, hd', h1, h2, h4, _⟩ := G.ob a ha
   rw [g.old a (by omega)] at hh
   have e : hd' = hd := Int.ofNat.inj (h1.symm.trans hh)
   subst e
   have O := I.ob a ha hd' hh
   have ho : ∀ j, j < 3 + hd' / 4 → M'.t.get (a + j) = M.t.get (a + j) := fun j hj => g.old _ (by omega)
   have h1' := ho 1 (by omega)
   refine ⟨O.len, O.fmt, by rw [h1']; exact O.arr, by rw [h1']; exact O.str, fun q i hi => ?_, by rw [h1']; exact O.cls, fun hz c hc q1 q2 => ?_⟩
   ·have := ho (3 + i) (by omega)
    rw [show a + 3 + i = a + (3 + i) by omega, this, ← show a + 3 + i = a + (3 + i) by omega]
    exact O.by8 q i hi
   ·rw [hcl c hc] at q1
    rw [h1'] at q2
    obtain ⟨q3, q4⟩ := O.pl hz c hc q1 q2
    refine ⟨q3, fun i hi => ?_⟩
    have := ho (3 + i) (by omega)
    rw [show a + 3 + i = a + (3 + i) by omega, this, ← show a + 3 + i = a + (3 + i) by omega]
    exact q4 i hi
theorem GI.roots {R' : List Int} (I : GI M R CL z) (hR : ∀ i, R'.getD (i + 1) 0 = R.getD (i + 1) 0) : GI M R' CL z where
 z0 := I.z0
 z1 := I.z1
 rk := fun i hi => by rw [show 2 + i = (1 + i) + 1 by omega, hR, show (1 + i) + 1 = 2 + i by omega]; exact I.rk i hi
 kn := I.kn
 dj := I.dj
 k9 := I.k9
 k10 := I.k10
 k11 := I.k11
 k8 := I.k8
 k1 := I.k1
 cl := fun c hc => by
  have C := I.cl c hc
  refine ⟨C.pt, C.pl, C.hd, ?_, ?_, C.sz, C.kd⟩
  ·rw [hR 2]; exact C.cl
  ·rw [hR 12]; exact C.nm
 ob := fun a ha hd hh => by
  have O := I.ob a ha hd hh
  refine ⟨O.len, O.fmt, ?_, ?_, O.by8, ?_, O.pl⟩
  ·rw [hR 10]; exact O.arr
  ·rw [hR 11, hR 12]; exact O.str
  ·rw [hR 2]; exact O.cls
theorem GI.newK (I : GI M R CL z) {i : Nat} (hi : (i = 9 ∧ f = 0) ∨ ((i = 10 ∨ i = 11) ∧ f = 2) ∨ (i = 8 ∧ f = 1)) (hl : l.length ≤ 256) (hb : f = 2 → ∀ v ∈ l, ∃ c : Nat, c < 256 ∧ v = .ofNat c) : NewI M R CL f (R.getD (2 + i) 0) l := by
 have r := fun j hj => I.rk j hj
 have hi16 : i < 16 := by omega
 have ne : ∀ j, j < 16 → (R.getD (2 + i) 0 = R.getD (2 + j) 0 ↔ i = j) := fun j hj => by
  rw [r i hi16, r j hj]
  constructor
  ·intro q
   have := Int.ofNat.inj q
   omega
  ·intro q; rw [q]
 refine ⟨hl, by omega, fun q => ?_, fun q => ?_, hb, fun q => ?_, fun c hc q1 q2 => ?_⟩
 ·have := (ne 9 (by omega)).1 q
  omega
 ·have : i = 10 ∨ i = 11 := q.elim (fun q => .inl ((ne 10 (by omega)).1 q)) (fun q => .inr ((ne 11 (by omega)).1 q))
  omega
 ·have := (ne 1 (by omega)).1 q
  omega
 ·exfalso
  rw [r i hi16] at q2
  have e := Int.ofNat.inj q2
  have hc' : c = 3 + 9 * i := by omega
  subst hc'
  rcases hi with ⟨rfl, _⟩ | ⟨rfl | rfl, _⟩ | ⟨rfl, _⟩
  ·rw [show 3 + 9 * 9 + 8 = 92 from rfl, I.k9] at q1; cases q1
  ·rw [show 3 + 9 * 10 + 8 = 101 from rfl, I.k10] at q1; cases q1
  ·rw [show 3 + 9 * 11 + 8 = 110 from rfl, I.k11] at q1; cases q1
  ·rw [show 3 + 9 * 8 + 8 = 83 from rfl, I.k8] at q1; cases q1
end
end Go.Dd

namespace Go.Dd
open Go.Proofs
theorem aYp {w : Int} {pl : WT} (h : cE w pl ≠ 0) : lO w pl = true := by
 unfold lO
 split <;> first | rfl | skip
 rw [bPh h]
 simp
theorem aFp {w : Int} {pl : WT} {k : Nat} (hk : k < 16000000) (h : lO w pl = true) : lO w (pl.set k (.ofNat 1)) = true := by
 by_cases ha : cE w pl = 0
 ·unfold lO at h ⊢
  by_cases w0 : w = 0
  ·subst w0; rfl
  ·by_cases w2 : w = 2
   ·subst w2; rfl
   ·by_cases w4 : w = 4
    ·subst w4; rfl
    ·split
     ·exact absurd rfl w0
     ·exact absurd rfl w2
     ·exact absurd rfl w4
     ·split at h
      ·exact absurd rfl w0
      ·exact absurd rfl w2
      ·exact absurd rfl w4
      ·rw [ha] at h
       have : iK w = true := by simpa using h
       rw [this]
       rfl
 ·exact aYp (by rw [sA hk ha]; exact ha)
def eIr (M : MemV) (R : List Int) (es : List (DV × DV)) : Prop := ∀ e ∈ es, ∃ s x, e = (.s s, iD x) ∧ TxO M (R.getD 13 0) x s
theorem aHl {es : List (DV × DV)} (s : List Nat) : (∀ e ∈ es, ∃ (k : List Nat) (x : Int), e = (.s k, iD x)) →
  (∃ x, dR .string (.s s) es = some (some (iD x)) ∧ (DV.s s, iD x) ∈ es) ∨ (dR .string (.s s) es = some none ∧ ∀ i, aAf .string (.s s) es i = some none) := by
 induction es with
 | nil => exact fun _ => .inr ⟨rfl, fun _ => rfl⟩
 | cons e es ih =>
  intro h
  obtain ⟨k, x, he⟩ := h e (by simp)
  subst he
  cases hk : eqD s k with
  | true =>
   have := (pY s k).1 hk
   subst this
   exact .inl ⟨x, by simp only [dR, oF, hk], by simp⟩
  | false =>
   rcases ih fun e he => h e (by simp [he]) with ⟨y, h1, h2⟩ | ⟨h1, h2⟩
   ·exact .inl ⟨y, by simp only [dR, oF, hk]; exact h1, by simp [h2]⟩
   ·exact .inr ⟨by simp only [dR, oF, hk]; exact h1, fun i => by simp only [aAf, oF, hk]; exact h2 _⟩
theorem cDg {es l : List (DV × DV)} {k v : DV} (h : dR .string k es = some (some v)) : dR .string k (es ++ l) = some (some v) := by
 induction es with
 | nil => cases h
 | cons e es ih =>
  simp only [List.cons_append, dR] at h ⊢
  split
  ·rename_i hk; rw [hk] at h; exact h
  ·rename_i hk; rw [hk] at h; exact ih h
  ·rename_i hk; rw [hk] at h; cases h
theorem bTn {es : List (DV × DV)} {s : List Nat} {v : DV} (h : dR .string (.s s) es = some none) : dR .string (.s s) (es ++ [(.s s, v)]) = some (some v) := by
 induction es with
 | nil =>
  have : eqD s s = true := (pY s s).2 rfl
  simp only [List.nil_append, dR, oF, this]
 | cons e es ih =>
  simp only [List.cons_append, dR] at h ⊢
  split
  ·rename_i hk; rw [hk] at h; cases h
  ·rename_i hk; rw [hk] at h; exact ih h
  ·rename_i hk; rw [hk] at h; cases h
structure Wk (h : Hp) (M : MemV) (R : List Int) (es : List (DV × DV)) : Prop where
 W : Wd h M R es
 G : Good M
 sy : eIr M R es
 r0 : lO (R.getD 0 0) M.pl = true
 rk : ∀ i, i < 16 → cE (R.getD (2 + i) 0) M.pl ≠ 0
structure Stay (k : Nat) (M M' : MemV) (R R' : List Int) (es es' : List (DV × DV)) : Prop where
 n : M'.n = M.n
 fin : M'.fin ≤ M.fin + k
 made : M'.made ≤ M.made + k
 lo : M.fin ≤ M'.fin
 tx : ∀ cls o s, TxO M cls o s → TxO M' cls o s
 at' : ∀ o, cE o M.pl ≠ 0 → cE o M'.pl = cE o M.pl
 r : ∀ i, R'.getD (i + 1) 0 = R.getD (i + 1) 0
 fd : ∀ s v, dR .string (.s s) es = some (some v) → dR .string (.s s) es' = some (some v)
 gi : ∀ CL, GI M R CL → GI M' R' CL
 old : ∀ j, j < M.fin → M'.t.get j = M.t.get j
theorem Stay.refl (k : Nat) (M : MemV) (R : List Int) (es : List (DV × DV)) : Stay k M M R R es es := ⟨rfl, by omega, by omega, by omega, fun _ _ _ h => h, fun _ _ => rfl, fun _ => rfl, fun _ _ h => h, fun _ h => h, fun _ _ => rfl⟩
theorem Stay.trans {a b : Nat} {M M' M2 : MemV} {R R' R2 : List Int} {es es' es2 : List (DV × DV)} (h : Stay a M M' R R' es es') (k : Stay b M' M2 R' R2 es' es2) : Stay (a + b) M M2 R R2 es es2 :=
 ⟨k.n.trans h.n, by have := h.fin; have := k.fin; omega, by have := h.made; have := k.made; omega, by have := h.lo; have := k.lo; omega, fun c o s t => k.tx _ _ _ (h.tx _ _ _ t),
  fun o ho => by have h1 := h.at' o ho; rw [k.at' o (by rw [h1]; exact ho), h1], fun i => (k.r i).trans (h.r i), fun s v e => k.fd s v (h.fd s v e), fun CL I => k.gi CL (h.gi CL I), fun j hj => by rw [k.old j (by have := h.lo; omega)]; exact h.old j hj⟩
theorem Grown.stay {M M' : MemV} {f : Nat} {cls : Int} {l : List Int} (g : Grown M M' f cls l) (G : Good M) (R : List Int) (es : List (DV × DV)) (N : ∀ CL, GI M R CL → NewI M R CL f cls l) : Stay (l.length + 3) M M' R R es es :=
 ⟨g.n, by rw [g.fin]; exact Nat.le_refl _, by rw [g.made]; omega, by rw [g.fin]; omega, fun _ _ _ t => g.txo G t, fun o ho => by rw [g.pl]; exact sA (by have := G.le; have := G.hi; omega) ho, fun _ => rfl, fun _ _ h => h, fun CL I => g.gi G I (N CL I), fun j hj => g.old j hj⟩
theorem Grown.wk {h h' : Hp} {M M' : MemV} {R : List Int} {es : List (DV × DV)} {f : Nat} {cls : Int} {l : List Int} (g : Grown M M' f cls l) (K : Wk h M R es) (W' : Wd h' M' R es) (hc : cE cls M.pl ≠ 0) (hf : f ≤ 2) (h256 : l.length ≤ 256) (room : M.fin + l.length + 3 ≤ M.n) (hm : M.made < 899999) : Wk h' M' R es := by
 have hk : M.fin < 16000000 := by have := K.G.le; have := K.G.hi; omega
 refine ⟨W', g.good K.G hc hf h256 room hm, fun e he => ?_, by rw [g.pl]; exact aFp hk K.r0, fun i hi => by rw [g.pl, sA hk (K.rk i hi)]; exact K.rk i hi⟩
 obtain ⟨s, x, h1, h2⟩ := K.sy e he
 exact ⟨s, x, h1, g.txo K.G h2⟩
section
variable {h : Hp} {M : MemV} {R : List Int} {es : List (DV × DV)}
theorem Wd.setR0 (W : Wd h M R es) (v : Int) : aC 1 (.p (bD 4) 0) (iD v) h = some (aT, ⟨h.next, Tr.set (.row .ex ((R.set 0 v).map iD)) (bD 4) h.bl⟩) ∧ Wd ⟨h.next, Tr.set (.row .ex ((R.set 0 v).map iD)) (bD 4) h.bl⟩ M (R.set 0 v) es ∧
  Up h ⟨h.next, Tr.set (.row .ex ((R.set 0 v).map iD)) (bD 4) h.bl⟩ := by
 obtain ⟨m1, m2, m3, m4, m5, m6⟩ := lK W.mem
 have ne : ∀ b : Pos, b.toNat ≠ 1027 → (Tr.set (.row .ex ((R.set 0 v).map iD)) (bD 4) h.bl).get b = h.bl.get b := fun b hb => by
  rw [eMh]
  intro e; rw [e, pn4] at hb; exact hb rfl
 refine ⟨?_, ⟨(ne _ (by rw [pn7]; omega)).trans W.w, (by show (Tr.set _ (bD 4) _).get (bD 4) = _; exact eMi _ _ _), by simp [W.rl], (ne _ (by rw [pn5]; omega)).trans W.sy, ?_, W.nx, W.wb, W.pb⟩, ⟨Nat.le_refl _, fun b h1 h2 => ne b (by omega)⟩⟩
 ·have hp : gL 0 (R.map iD) [iD v] = some ((R.set 0 v).map iD) := by
   have hl := W.rl
   cases R with
   | nil => simp at hl
   | cons a l =>
    show lP (iD a :: l.map iD) [iD v] = _
    have : lP (l.map iD) [] = some (l.map iD) := by cases l.map iD <;> rfl
    simp only [lP, DV.one, Bool.and_self, if_true, this, Option.map_some]
    rfl
  have hw : Kind.ex.writable = true := rfl
  simp only [aC, dE, List.length_singleton, if_true, cQ, W.r, hw, hp]
 ·exact nV ((ne _ (by rw [pn3]; omega)).trans m1) ((ne _ (by rw [W.wb, pn1]; omega)).trans m2) ((ne _ (by rw [W.pb, pn2]; omega)).trans m3) m4 m5 m6
theorem Wd.setS (W : Wd h M R es) (es' : List (DV × DV)) : Wd ⟨h.next, Tr.set (.mp es') (bD 5) h.bl⟩ M R es' ∧ Up h ⟨h.next, Tr.set (.mp es') (bD 5) h.bl⟩ := by
 obtain ⟨m1, m2, m3, m4, m5, m6⟩ := lK W.mem
 have ne : ∀ b : Pos, b.toNat ≠ 1028 → (Tr.set (.mp es') (bD 5) h.bl).get b = h.bl.get b := fun b hb => by
  rw [eMh]
  intro e; rw [e, pn5] at hb; exact hb rfl
 exact ⟨⟨(ne _ (by rw [pn7]; omega)).trans W.w, (ne _ (by rw [pn4]; omega)).trans W.r, W.rl, (by show (Tr.set _ (bD 5) _).get (bD 5) = _; exact eMi _ _ _),
  nV ((ne _ (by rw [pn3]; omega)).trans m1) ((ne _ (by rw [W.wb, pn1]; omega)).trans m2) ((ne _ (by rw [W.pb, pn2]; omega)).trans m3) m4 m5 m6, W.nx, W.wb, W.pb⟩, ⟨Nat.le_refl _, fun b h1 h2 => ne b (by omega)⟩⟩
theorem Wk.push (K : Wk h M R es) {x y : Int} (hx : lO x M.pl = true) (hy : lO y M.pl = true) (room : M.fin + 5 ≤ M.n) (hm : M.made < 899999) {n : Nat} (hn : 256 < n) :
  ∃ h' M', fW (n + 2) 39 [.p (bD 7) 0, .i .i64 x, .i .i64 y] h = some (.t [.i .i64 (.ofNat (M.fin * 2)), .i .i64 (.ofNat 0)], h') ∧ Wk h' M' R es ∧ Up h h' ∧ Grown M M' 0 (R.getD 11 0) [x, y] := by
 have hk : M.fin < 16000000 := by have := K.G.le; have := K.G.hi; omega
 have fl : aN [.i .i64 (Int.ofNat 0), .i .i64 (Int.ofNat 0)] 2 [(0, 1, .i .i64 x), (1, 1, .i .i64 y)] h = some (.l h.next 0 2 2, ⟨h.next.succ, Tr.set (.row .ex ([x, y].map iD)) h.next h.bl⟩) := by
  simp [aN, jK, dE]
 obtain ⟨U1, W1⟩ := K.W.new (.row .ex ([x, y].map iD))
 have S : SlI (.l h.next 0 2 2) [x, y] ⟨h.next.succ, Tr.set (.row .ex ([x, y].map iD)) h.next h.bl⟩ := .inr ⟨h.next, 2, .ex, rfl, eMi _ _ _, .inr (Nat.le_trans (by decide) K.W.nx), by show _ < (h.next.succ).toNat; rw [eMj]; omega⟩
 have K1 : Wk ⟨h.next.succ, Tr.set (.row .ex ([x, y].map iD)) h.next h.bl⟩ M R es := ⟨W1, K.G, K.sy, K.r0, K.rk⟩
 obtain ⟨h', M', e1, W2, U2, _, g⟩ := W1.make61 K.G (K.rk 9 (by omega)) (f := 0) (by omega) S (by simp) (by simpa using room) (fun v hv => by
  simp only [List.mem_cons, List.not_mem_nil, or_false] at hv
  rcases hv with rfl | rfl
  ·exact aFp hk hx
  ·exact aFp hk hy) hn
 refine ⟨h', M', ?_, g.wk K1 W2 (K.rk 9 (by omega)) (by omega) (by simp) (by simpa using room) hm, U1.trans U2, g⟩
 rw [shS 39 rfl, dHv]
 unfold s39
 simp only [g0, g1, g2, bC, K.W.known (show 9 < 16 by omega), fl]
 rw [show (2 : Nat) + 9 = 11 from rfl] at e1 ⊢
 rw [e1]
 simp only [bC, px0, px1]
theorem Wk.symbol (K : Wk h M R es) {s : List Nat} (hs : ∀ c ∈ s, c < 256) (room : M.fin + 70 ≤ M.n) (hm : M.made < 800000) {n : Nat} (hn : 300 < n) :
  ∃ a e h' M' R' es', fW (n + 3) 10 [.p (bD 7) 0, .s s] h = some (.t [.i .i64 a, .i .i64 e], h') ∧ Wk h' M' R' es' ∧ Up h h' ∧ Stay 80 M M' R R' es es' ∧
   ((¬ (1 ≤ s.length ∧ s.length ≤ 60) ∧ e = 1 ∧ a = 0) ∨ ((1 ≤ s.length ∧ s.length ≤ 60) ∧ e = 0 ∧ dR .string (.s s) es' = some (some (iD a)) ∧ TxO M' (R.getD 13 0) a s)) := by
 rw [shS 10 rfl, dJa]
 unfold s10
 have el : ∀ h, eC (.s s) h = some (.i .i64 (s.length : Int), h) := fun h => rfl
 by_cases c1 : s.length < 1
 ·refine ⟨0, 1, h, M, R, es, ?_, K, Up.refl h, Stay.refl _ _ _ _, .inl ⟨by omega, rfl, rfl⟩⟩
  have d1 : decide ((s.length : Int) < Int.ofNat 1) = true := decide_eq_true (by simp; omega)
  simp only [g0, g1, el, bC, fV, d1, hC, sQ, cI, dD]
  rfl
 ·have d1 : decide ((s.length : Int) < Int.ofNat 1) = false := decide_eq_false (by simp; omega)
  by_cases c2 : s.length > 60
  ·refine ⟨0, 1, h, M, R, es, ?_, K, Up.refl h, Stay.refl _ _ _ _, .inl ⟨by omega, rfl, rfl⟩⟩
   have d2 : decide ((s.length : Int) > Int.ofNat 60) = true := decide_eq_true (by simp; omega)
   simp only [g0, g1, el, bC, fV, eY, d1, d2, jU, cM, dD]
   rfl
  ·have d2 : decide ((s.length : Int) > Int.ofNat 60) = false := decide_eq_false (by simp; omega)
   have hl : 1 ≤ s.length ∧ s.length ≤ 60 := by omega
   simp only [g0, g1, el, bC, fV, eY, d1, d2, jU, cM, cU, gM, xJ, K.W.l2]
   rcases aHl s (fun e he => by obtain ⟨k, x, h1, _⟩ := K.sy e he; exact ⟨k, x, h1⟩) with ⟨x, f1, f2⟩ | ⟨f1, f2⟩
   ·
    obtain ⟨k, y, e1, T⟩ := K.sy _ f2
    simp only [bN, DV.s.injEq, DV.i.injEq, true_and] at e1
    obtain ⟨rfl, rfl⟩ := e1
    have hx : x ≠ 0 := fun e => T.at0 (by rw [e]; rfl)
    have z1 : (x != Int.ofNat 0) = true := by
     have : (x == Int.ofNat 0) = false := by simpa using hx
     rw [bne, this]; rfl
    have lk : dV .string (.i .i64 (Int.ofNat 0)) false (.m (bD 5)) (.s s) h = some (iD x, h) := by
     simp only [dV, gG, K.W.sy, f1, cond_false]
    refine ⟨x, 0, h, M, R, es, ?_, K, Up.refl h, Stay.refl _ _ _ _, .inr ⟨hl, rfl, f1, T⟩⟩
    simp only [lk, bC, gZ, z1, dD]
    rfl
   ·
    have lk : dV .string (.i .i64 (Int.ofNat 0)) false (.m (bD 5)) (.s s) h = some (.i .i64 (Int.ofNat 0), h) := by
     simp only [dV, gG, K.W.sy, f1, cond_false]
    have z0 : (Int.ofNat 0 != Int.ofNat 0) = false := rfl
    obtain ⟨h1, M1, e1, W1, U1, g1⟩ := K.W.bytes49 K.G (K.rk 11 (by omega)) hs (by omega) (by omega) hn
    have K1 : Wk h1 M1 R es := g1.wk K W1 (K.rk 11 (by omega)) (by omega) (by simp; omega) (by simp; omega) (by omega)
    have T1 : TxO M1 (R.getD 13 0) (.ofNat (M.fin * 2)) s := g1.new_txo K.G hs (by omega)
    have hf1 := g1.fin
    have hn1 := g1.n
    have hd1 := g1.made
    rw [List.length_map] at hf1
    obtain ⟨h2, M2, e2, K2, U2, g2⟩ := K1.push (x := .ofNat (M.fin * 2)) (y := R.getD 0 0) (aYp T1.at0) K1.r0 (by omega) (by omega) (n := n) (by omega)
    have T2 := g2.txo K1.G T1
    have G1 := K1.G
    have ha : cE (.ofNat (M1.fin * 2)) M2.pl = M1.fin := by rw [g2.pl]; exact aVc G1.lo (by have := G1.le; have := G1.hi; omega)
    obtain ⟨e3, W3, U3⟩ := K2.W.setR0 (.ofNat (M1.fin * 2))
    obtain ⟨W4, U4⟩ := W3.setS (es ++ [(.s s, .i .i64 (Int.ofNat 0))])
    obtain ⟨W5, U5⟩ := W4.setS (es ++ [(.s s, .i .i64 (.ofNat (M.fin * 2)))])
    have rset : ∀ i, (R.set 0 (Int.ofNat (M1.fin * 2))).getD (i + 1) 0 = R.getD (i + 1) 0 := fun i => by
     simp [List.getD, List.getElem?_set]
    have me : gI .string (.i .i64 (Int.ofNat 0)) (.m (bD 5)) (.s s) ⟨h2.next, Tr.set (.row .ex ((R.set 0 (Int.ofNat (M1.fin * 2))).map iD)) (bD 4) h2.bl⟩ =
      some (.t [.i .i64 (Int.ofNat 0), .i .i64 (.ofNat es.length)], ⟨h2.next, Tr.set (.mp (es ++ [(.s s, .i .i64 (Int.ofNat 0))])) (bD 5) (Tr.set (.row .ex ((R.set 0 (Int.ofNat (M1.fin * 2))).map iD)) (bD 4) h2.bl)⟩) := by
     simp only [gI, W3.sy, f2]
     rfl
    have ms : eH (.m (bD 5)) (.i .i64 (.ofNat es.length)) (.i .i64 (.ofNat (M.fin * 2))) ⟨h2.next, Tr.set (.mp (es ++ [(.s s, .i .i64 (Int.ofNat 0))])) (bD 5) (Tr.set (.row .ex ((R.set 0 (Int.ofNat (M1.fin * 2))).map iD)) (bD 4) h2.bl)⟩ =
      some (aT, ⟨h2.next, Tr.set (.mp (es ++ [(.s s, .i .i64 (.ofNat (M.fin * 2)))])) (bD 5) (Tr.set (.mp (es ++ [(.s s, .i .i64 (Int.ofNat 0))])) (bD 5) (Tr.set (.row .ex ((R.set 0 (Int.ofNat (M1.fin * 2))).map iD)) (bD 4) h2.bl))⟩) := by
     have q1 : (es ++ [(DV.s s, DV.i .i64 (Int.ofNat 0))])[es.length]? = some (.s s, .i .i64 (Int.ofNat 0)) := by simp
     have q2 : (es ++ [(DV.s s, DV.i .i64 (Int.ofNat 0))]).set es.length (.s s, .i .i64 (.ofNat (M.fin * 2))) = es ++ [(.s s, .i .i64 (.ofNat (M.fin * 2)))] := by simp
     simp only [eH, W4.sy, q1, q2]
    have ix : ∀ h, aJ 1 (.l (bD 4) 0 18 18) (.i .i64 (Int.ofNat 0)) h = some (.p (bD 4) 0, h) := fun h => rfl
    refine ⟨.ofNat (M.fin * 2), 0, _, M2, R.set 0 (.ofNat (M1.fin * 2)), es ++ [(.s s, .i .i64 (.ofNat (M.fin * 2)))], ?_, ⟨W5, K2.G, ?_, ?_, ?_⟩, (((U1.trans U2).trans U3).trans U4).trans U5, ?_, .inr ⟨hl, rfl, bTn f1, T2⟩⟩
    ·simp only [lk, bC, gZ, z0, cU, K.W.known (show 11 < 16 by omega), show 2 + 11 = 13 from rfl, e1, px0, px1, K1.W.l1, ix, gM, xJ, K1.W.root (show 0 < 18 by omega), e2, K2.W.l1, K2.W.l2, e3, me, ms]
     rfl
    ·intro e he
     simp only [List.mem_append, List.mem_singleton] at he
     rcases he with he | rfl
     ·obtain ⟨k, y, q1, q2⟩ := K2.sy e he
      exact ⟨k, y, q1, by rw [show (13 : Nat) = 12 + 1 from rfl, rset]; exact q2⟩
     ·exact ⟨s, _, rfl, by rw [show (13 : Nat) = 12 + 1 from rfl, rset]; exact T2⟩
    ·have : (R.set 0 (Int.ofNat (M1.fin * 2))).getD 0 0 = Int.ofNat (M1.fin * 2) := by
      have hrl := K.W.rl
      cases R with
      | nil => simp at hrl
      | cons a l => rfl
     rw [this]
     exact aYp (by rw [ha]; have := G1.lo; omega)
    ·intro i hi
     rw [show 2 + i = (1 + i) + 1 by omega, rset, show (1 + i) + 1 = 2 + i by omega]
     exact K2.rk i hi
    ·have st := (g1.stay K.G R es (fun CL I => I.newK (i := 11) (.inr (.inl ⟨.inr rfl, rfl⟩)) (by rw [List.length_map]; omega) (fun _ v hv => by obtain ⟨c, q1, q2⟩ := List.mem_map.1 hv; exact ⟨c, hs c q1, q2.symm⟩))).trans (g2.stay K1.G R es (fun CL I => I.newK (i := 9) (.inl ⟨rfl, rfl⟩) (by simp) (fun q => by cases q)))
     rw [List.length_map] at st
     have hf2 := g2.fin
     have hd2 := g2.made
     refine ⟨st.n, ?_, ?_, st.lo, st.tx, st.at', rset, fun k v e => cDg e, fun CL I => (st.gi CL I).roots rset, st.old⟩
     ·simp at hf2; omega
     ·omega
end
end Go.Dd

namespace Go.Dd
open Go.Proofs
noncomputable def byE (t : WT) (s : List Nat) : Nat → Bool := List.rec (motive := fun _ => Nat → Bool) (fun _ => true) (fun c _ ih a => Nat.blt c 256 && (fS (t.get a) (.ofNat c) && ih (Nat.add a 1))) s
noncomputable def cAt (M : MemV) (cls : Int) (e : List Nat × Nat) : Bool :=
 !(Nat.beq (cE (.ofNat e.2) M.pl) 0) && (fS (M.t.get (cE (.ofNat e.2) M.pl)) (.ofNat (Nat.add (Nat.mul e.1.length 4) 2)) && (fS (M.t.get (Nat.add (cE (.ofNat e.2) M.pl) 1)) cls && (Nat.ble e.1.length 256 && byE M.t e.1 (Nat.add (cE (.ofNat e.2) M.pl) 3))))
theorem bVw (t : WT) : ∀ (s : List Nat) (a : Nat), byE t s a = true → (∀ c ∈ s, c < 256) ∧ ∀ i c, s[i]? = some c → t.get (a + i) = .ofNat c
 | [], a, _ => ⟨by simp, fun i c h => by simp at h⟩
 | c :: s, a, h => by
  change (Nat.blt c 256 && (fS (t.get a) (.ofNat c) && byE t s (a + 1))) = true at h
  simp only [Bool.and_eq_true, jF, decide_eq_true_eq] at h
  obtain ⟨h1, h2⟩ := bVw t s (a + 1) h.2.2
  refine ⟨fun d hd => ?_, fun i d hi => ?_⟩
  ·simp only [List.mem_cons] at hd
   rcases hd with rfl | hd
   ·exact h.1
   ·exact h1 d hd
  ·cases i with
   | zero =>
    simp only [List.getElem?_cons_zero, bH] at hi
    subst hi
    exact oA _ _ h.2.1
   | succ i =>
    rw [show a + (i + 1) = a + 1 + i by omega]
    exact h2 i d (by simpa using hi)
theorem bHn {M : MemV} {cls : Int} {e : List Nat × Nat} (h : cAt M cls e = true) : TxO M cls (.ofNat e.2) e.1 := by
 unfold cAt at h
 simp only [Bool.and_eq_true, jY, decide_eq_true_eq] at h
 obtain ⟨h1, h2, h3, h4, h5⟩ := h
 obtain ⟨b1, b2⟩ := bVw _ _ _ h5
 refine ⟨fun e => (by rw [e] at h1; cases h1), oA _ _ h2, oA _ _ h3, b1, h4, b2⟩
noncomputable def cRr (p : List Nat × Nat → Bool) (l : List (List Nat × Nat)) : Bool := List.rec (motive := fun _ => Bool) true (fun x _ ih => p x && ih) l
theorem zW {p : List Nat × Nat → Bool} : ∀ {l : List (List Nat × Nat)}, cRr p l = true → ∀ a ∈ l, p a = true
 | [], _, a, h => by cases h
 | x :: l, hl, a, h => by
  change (p x && cRr p l) = true at hl
  simp only [Bool.and_eq_true] at hl
  simp only [List.mem_cons] at h
  rcases h with rfl | h
  ·exact hl.1
  ·exact zW hl.2 a h
theorem rD : ∀ (l : List (List Nat × Nat)) (e : DV × DV), e ∈ bLp l → ∃ x ∈ l, e = (.s x.1, .i .i64 (.ofNat x.2))
 | [], e, h => by cases h
 | x :: l, e, h => by
  change e ∈ (DV.s x.1, DV.i .i64 (.ofNat x.2)) :: bLp l at h
  simp only [List.mem_cons] at h
  rcases h with rfl | h
  ·exact ⟨x, by simp, rfl⟩
  ·obtain ⟨y, h1, h2⟩ := rD l e h
   exact ⟨y, by simp [h1], h2⟩
theorem dAc : cRr (cAt MN (RN.getD 13 0)) (bJl syF 80) = true := by kernel_rfl
theorem KN : Wk hN MN RN esN := ⟨WN, GN, fun e he => by
 obtain ⟨x, h1, h2⟩ := rD _ e he
 exact ⟨x.1, _, h2, bHn (zW dAc x h1)⟩, by kernel_rfl, eDx⟩
theorem eDt (s : List Nat) (h : Hp) : eC (.s s) h = some (.i .i64 (s.length : Int), h) := rfl
theorem aQn (s : ByteArray) : ∀ c ∈ s.data.toList.map (·.toNat), c < 256 := by
 intro c hc
 obtain ⟨b, _, rfl⟩ := List.mem_map.1 hc
 exact b.toNat_lt
end Go.Dd

