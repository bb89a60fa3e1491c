/- A part of the proof: HD HE OC T0 TL TM TN TP TQ TR HF HG HI W1 W2 W3 W4 W5 LT0 LT1 LT2 LT3 LP LQ LR RH R12 NJ W6 TB0: each text has a comment of its own. -/
import Derived.Test.YtdpdcbdfgfeoeaaGreatTb5
import Derived.Test.YtdpdcbdfgfeoeaaGreatTb6
import Derived.Test.YtdpdcbdfgfeoeaaGreatTb7
import Derived.Test.YtdpdcbdfgfeoeaaGreatTb8
import Derived.Lib.Bytealg
set_option linter.unusedVariables false
set_option linter.unusedSimpArgs false
set_option linter.constructorNameAsVariable false
set_option maxRecDepth 100000
namespace Go.Dd
theorem kE : ∀ p q : Pos, kY p q = true → p = q
 | .h, .h, _ => rfl
 | .h, .o q, h => by cases h
 | .h, .i q, h => by cases h
 | .o p, .h, h => by cases h
 | .o p, .o q, h => by rw [kE p q h]
 | .o p, .i q, h => by cases h
 | .i p, .h, h => by cases h
 | .i p, .o q, h => by cases h
 | .i p, .i q, h => by rw [kE p q h]
theorem bCc (x y : Int) (h : bOs x y = true) : x = y := by
 cases x <;> cases y <;> simp only [bOs] at h
 ·rw [Nat.eq_of_beq_eq_true h]
 ·cases h
 ·cases h
 ·rw [Nat.eq_of_beq_eq_true h]
theorem aEv : ∀ t u : WT, wtE t u = true → t = u
 | .e, .e, _ => rfl
 | .e, .n _ _ _, h => by cases h
 | .n _ _ _, .e, h => by cases h
 | .n l v r, .n l' v' r', h => by
  have h' : (bOs v v' && (wtE l l' && wtE r r')) = true := h
  simp only [Bool.and_eq_true] at h'
  rw [bCc _ _ h'.1, aEv _ _ h'.2.1, aEv _ _ h'.2.2]
theorem aGt (x y : DV) (h : dvE x y = true) : x = y := by
 unfold dvE at h
 split at h <;> (try (cases h; done)) <;> (try rfl)
 ·rw [bCc _ _ h]
 ·rw [(aHr _ _).1 h]
 ·simp only [Bool.and_eq_true] at h
  rw [kE _ _ h.1, Nat.eq_of_beq_eq_true h.2]
 ·simp only [Bool.and_eq_true] at h
  rw [kE _ _ h.1, Nat.eq_of_beq_eq_true h.2.1, Nat.eq_of_beq_eq_true h.2.2.1, Nat.eq_of_beq_eq_true h.2.2.2]
 ·rw [kE _ _ h]
 ·simp at h; rw [h]
theorem qV : ∀ l m : List DV, bLd l m = true → l = m
 | [], [], _ => rfl
 | [], _ :: _, h => by cases h
 | _ :: _, [], h => by cases h
 | x :: l, y :: m, h => by
  have h' : (dvE x y && bLd l m) = true := h
  simp only [Bool.and_eq_true] at h'
  rw [aGt _ _ h'.1, qV _ _ h'.2]
theorem aZo : ∀ l m : List (DV × DV), dOc l m = true → l = m
 | [], [], _ => rfl
 | [], _ :: _, h => by cases h
 | _ :: _, [], h => by cases h
 | x :: l, y :: m, h => by
  have h' : (dvE x.1 y.1 && (dvE x.2 y.2 && dOc l m)) = true := h
  simp only [Bool.and_eq_true] at h'
  rw [aZo _ _ h'.2.2]
  congr 1
  exact Prod.ext (aGt _ _ h'.1) (aGt _ _ h'.2.1)
theorem bSt (o p : Ob) (h : obE o p = true) : o = p := by
 unfold obE at h
 split at h <;> (try (cases h; done))
 ·rw [qV _ _ h]
 ·rw [aZo _ _ h]
 ·simp only [Bool.and_eq_true] at h
  rw [Nat.eq_of_beq_eq_true h.1, aEv _ _ h.2]
 ·rw [aEv _ _ h]
theorem aPy (t : Tr Ob) : ∀ l : List (Pos × Ob), bZm t l = true → ∀ x ∈ l, t.get x.1 = some x.2
 | [], _, x, hx => by cases hx
 | y :: l, h, x, hx => by
  have h' : ((match t.get y.1 with
   | some o => obE o y.2
   | none => false) && bZm t l) = true := h
  simp only [Bool.and_eq_true] at h'
  rcases List.mem_cons.1 hx with rfl | hx
  ·have h1 := h'.1
   split at h1
   ·rename_i o ho
    rw [ho, bSt _ _ h1]
   ·cases h1
  ·exact aPy t l h'.2 x hx
theorem xR : ∀ (l : List (Pos × Ob)) (b : Pos) (o : Ob), (dNi l).get b = some o → (b, o) ∈ l
 | [], b, o, h => by cases b <;> cases h
 | y :: l, b, o, h => by
  have h' : (Tr.set y.2 y.1 (dNi l)).get b = some o := h
  by_cases e : b = y.1
  ·subst e
   rw [eMs] at h'
   simp only [bD] at h'
   rw [← h']
   exact List.mem_cons_self
  ·rw [eMr _ _ _ _ e] at h'
   exact List.mem_cons_of_mem _ (xR l b o h')
theorem iV (o : Ob) : tR true o o := by cases o <;> simp [tR]
theorem Sim.refl (h : Hp) : Sim true h h := ⟨rfl, fun b o hb => ⟨o, hb, iV o⟩⟩
theorem gT {o o' : Ob} (h : tR true o o') : o' = o := by cases o <;> simpa [tR] using h
theorem Sim.trans {a b c : Hp} (h : Sim true a b) (k : Sim true b c) : Sim true a c := ⟨k.next.trans h.next, fun p o hp => by
 obtain ⟨o', h1, h2⟩ := h.get p o hp
 rw [gT h2] at h1
 exact k.get p o h1⟩
theorem bFn {r : aH} {vs : List DV} {nx : Nat} {l : List (Pos × Ob)} (h : mB r vs nx l = true) : ∃ g, r = some (.t vs, g) ∧ Sim true (dB nx l) g := by
 unfold mB at h
 split at h <;> (try (cases h; done))
 rename_i us g
 simp only [Bool.and_eq_true] at h
 refine ⟨g, by rw [qV _ _ h.1], ?_, fun b o hb => ⟨o, ?_, iV o⟩⟩
 ·exact kE _ _ h.2.1
 ·exact aPy _ _ h.2.2 (b, o) (xR _ _ _ hb)
end Go.Dd

namespace Go.Dd
open Go.Proofs
noncomputable section
def pN0 : Code := cf Tryz.f10
def pN1 : Code := cR pN0
def pN2 : Code := cR pN1
def pN3 : Code := cR pN2
def pN4 : Code := cR pN3
def pN5 : Code := cR pN4
def pN6 : Code := cR pN5
def dCb : Code := .seq (cL pN0) (.seq (cL pN1) (.seq (cL pN2) (.seq (cL pN3) (.seq (cL pN4) (.seq (cL pN5) (cL (cL pN6)))))))
def bPt : Code := cR (cL pN6)
def eGl : Code := cR pN6
def hS : Hp := ⟨aM 1, .e⟩
def eAt : K := fun e h => some (.t [e 5, e 155, e 156, e 157], h)
def dPb (n : Nat) : aH := aP CF (eD 899) 179 899 dCb (fun _ _ _ => none) (fun _ _ => none) eAt (aI [.i .i64 (.ofNat n)]) hS
end
theorem he0 : mB (dPb 20000) (lI 0) 432 (nP 20000 553 84 18 [1076, 1096, 6, 24, 42, 60, 78, 96, 114, 132, 150, 168, 186, 204, 222, 240, 258, 276] [(10, 0), (19, 0), (46, 0), (55, 0), (64, 0), (91, 0), (100, 0), (109, 0), (118, 0), (127, 0), (145, 0)] 0) = true := by kernel_rfl
end Go.Dd

namespace Go.Dd
inductive Out where
 | n (e : aZ) (h : Hp)
 | x (i : Nat) (e : aZ) (h : Hp)
 | r (e : aZ) (h : Hp)
def Out.go (o : Option Out) (X : Nat → K) (kr k : K) : aH :=
 match o with
 | none => none
 | some (.n e h) => k e h
 | some (.x i e h) => X i e h
 | some (.r e h) => kr e h
section
variable {C : Cfg} {rec : FuncId → List DV → Hp → aH} {nt : Nat}
theorem bDe (all : Array Oper) : ∀ l : List Oper, ∃ O : aZ → Hp → Option (aZ × Hp), ∀ k env h, gM C rec nt all l k env h = match O env h with
  | none => none
  | some (e, h) => k e h
 | [] => ⟨fun e h => some (e, h), fun k env h => rfl⟩
 | o :: l => by
  obtain ⟨O, hO⟩ := bDe all l
  refine ⟨fun env h => bif dD nt o.dst then (match bH C rec all o env h with
   | some (v, h') => O (bG env o.dst v) h'
   | none => none) else none, fun k env h => ?_⟩
  change cnd (dD nt o.dst) (bnd (bH C rec all o env h) fun v h' => gM C rec nt all l k (bG env o.dst v) h') = _
  cases dD nt o.dst with
  | false => rfl
  | true =>
   simp only [cond_true]
   cases hs : bH C rec all o env h with
   | none => rfl
   | some p => exact hO k _ _
theorem aNr (all : Array Oper) (m : Array Nat) (p0 : Pos) : ∀ (l : List Oper) (i c : Nat) (dirty : Bool) (rd : List Seen) (hs : List (Option Nat × Hp)), ∃ O : aZ → Hp → Option (aZ × Hp),
  ∀ k env h, eI C rec nt all m p0 l k i c dirty rd hs env h = match O env h with
   | none => none
   | some (e, h) => k e h
 | [], i, c, dirty, rd, hs => ⟨fun e h => some (e, h), fun k env h => rfl⟩
 | o :: l, i, c, dirty, rd, hs => by
  have ih := aNr all m p0 l
  cases hc : bU C.P o.op with
  | pure =>
   obtain ⟨O, hO⟩ := ih (i + 1) c dirty rd hs
   refine ⟨fun env h => bif dD nt o.dst then (match bH C rec all o env h with
    | some (v, h') => O (bG env o.dst v) h'
    | none => none) else none, fun k env h => ?_⟩
   have e : eI C rec nt all m p0 (o :: l) k i c dirty rd hs env h = cnd (dD nt o.dst) (bnd (bH C rec all o env h) fun v h' => eI C rec nt all m p0 l k (i + 1) c dirty rd hs (bG env o.dst v) h') := by
    change cnd (dD nt o.dst) (match bU C.P o.op with | .pure => _ | .reads => _ | .makes => _ | .acts => _) = _
    rw [hc]
    rfl
   rw [e]
   cases dD nt o.dst with
   | false => rfl
   | true =>
    simp only [cond_true]
    cases hs : bH C rec all o env h with
    | none => rfl
    | some p => exact hO k _ _
  | reads =>
   have hex : ∀ (env : aZ) (v : DV), ∃ O : aZ → Hp → Option (aZ × Hp), ∀ k e h, eI C rec nt all m p0 l k (i + 1) c dirty (⟨i, bH C rec all o env, v⟩ :: rd) hs e h = match O e h with
    | none => none
    | some (e, h) => k e h := fun env v => ih (i + 1) c dirty (⟨i, bH C rec all o env, v⟩ :: rd) hs
   refine ⟨fun env h => bif dD nt o.dst then (match bH C rec all o env h with
    | some (v, h') => bif eK m i v (bH C rec all o env) dirty hs then (hex env v).choose (bG env o.dst v) h' else none
    | none => none) else none, fun k env h => ?_⟩
   have e : eI C rec nt all m p0 (o :: l) k i c dirty rd hs env h = cnd (dD nt o.dst) (bnd (bH C rec all o env h) fun v h' =>
     cnd (eK m i v (bH C rec all o env) dirty hs) (eI C rec nt all m p0 l k (i + 1) c dirty (⟨i, bH C rec all o env, v⟩ :: rd) hs (bG env o.dst v) h')) := by
    change cnd (dD nt o.dst) (match bU C.P o.op with | .pure => _ | .reads => _ | .makes => _ | .acts => _) = _
    rw [hc]
    rfl
   rw [e]
   cases dD nt o.dst with
   | false => rfl
   | true =>
    simp only [cond_true]
    cases hs2 : bH C rec all o env h with
    | none => rfl
    | some p =>
     obtain ⟨v, h'⟩ := p
     show cnd (eK m i v (bH C rec all o env) dirty hs) _ = _
     cases hcc : eK m i v (bH C rec all o env) dirty hs with
     | false => simp only [hcc, cond_false]
     | true => simp only [hcc, cond_true]; exact (hex env v).choose_spec k _ _
  | makes =>
   obtain ⟨O, hO⟩ := ih (i + 1) (c + 1) true rd hs
   refine ⟨fun env h => bif dD nt o.dst then (match dQ C o (bN c p0) env h with
    | some (v, h') => O (bG env o.dst v) h'
    | none => none) else none, fun k env h => ?_⟩
   have e : eI C rec nt all m p0 (o :: l) k i c dirty rd hs env h = cnd (dD nt o.dst) (bnd (dQ C o (bN c p0) env h) fun v h' => eI C rec nt all m p0 l k (i + 1) (c + 1) true rd hs (bG env o.dst v) h') := by
    change cnd (dD nt o.dst) (match bU C.P o.op with | .pure => _ | .reads => _ | .makes => _ | .acts => _) = _
    rw [hc]
    rfl
   rw [e]
   cases dD nt o.dst with
   | false => rfl
   | true =>
    simp only [cond_true]
    cases hs : dQ C o (bN c p0) env h with
    | none => rfl
    | some p => exact hO k _ _
  | acts =>
   have hex : ∀ h' : Hp, ∃ O : aZ → Hp → Option (aZ × Hp), ∀ k e h, eI C rec nt all m p0 l k (i + 1) c false rd ((some i, h') :: hs) e h = match O e h with
    | none => none
    | some (e, h) => k e h := fun h' => ih (i + 1) c false rd ((some i, h') :: hs)
   refine ⟨fun env h => bif dD nt o.dst then (match bH C rec all o env h with
    | some (v, h') => bif rd.all (fun q => gL m q.at_ i || bR (q.look h') q.v) then (hex h').choose (bG env o.dst v) h' else none
    | none => none) else none, fun k env h => ?_⟩
   have e : eI C rec nt all m p0 (o :: l) k i c dirty rd hs env h = cnd (dD nt o.dst) (bnd (bH C rec all o env h) fun v h' =>
     cnd (rd.all (fun q => gL m q.at_ i || bR (q.look h') q.v)) (eI C rec nt all m p0 l k (i + 1) c false rd ((some i, h') :: hs) (bG env o.dst v) h')) := by
    change cnd (dD nt o.dst) (match bU C.P o.op with | .pure => _ | .reads => _ | .makes => _ | .acts => _) = _
    rw [hc]
    rfl
   rw [e]
   cases dD nt o.dst with
   | false => rfl
   | true =>
    simp only [cond_true]
    cases hs2 : bH C rec all o env h with
    | none => rfl
    | some p =>
     obtain ⟨v, h'⟩ := p
     show cnd (rd.all (fun q => gL m q.at_ i || bR (q.look h') q.v)) _ = _
     cases hcc : rd.all (fun q => gL m q.at_ i || bR (q.look h') q.v) with
     | false => simp only [hcc, cond_false]
     | true => simp only [hcc, cond_true]; exact (hex h').choose_spec k _ _
theorem zT (n : Nat) : ∀ c : Code, ∃ O : aZ → Hp → Option Out, ∀ X kr k env h, aP C rec nt n c X kr k env h = Out.go (O env h) X kr k := by
 have hfail : ∃ O : aZ → Hp → Option Out, ∀ (X : Nat → K) (kr k : K) (env : aZ) (h : Hp), cM env h = Out.go (O env h) X kr k := ⟨fun _ _ => none, fun X kr k env h => rfl⟩
 intro c
 induction c with
 | skip => exact ⟨fun e h => some (.n e h), fun X kr k env h => rfl⟩
 | region id ops dr =>
  cases dr with
  | false =>
   obtain ⟨O, hO⟩ := bDe (C := C) (rec := rec) (nt := nt) ops ops.toList
   refine ⟨fun env h => (O env h).map fun p => .n p.1 p.2, fun X kr k env h => ?_⟩
   show gM C rec nt ops ops.toList k env h = _
   rw [hO]
   dsimp only
   cases hh : O env h <;> rfl
  | true =>
   cases hd : eE C.P ops with
   | false =>
    refine ⟨fun _ _ => none, fun X kr k env h => ?_⟩
    show (Bool.rec (motive := fun _ => K) cM (gQ C rec nt ops k) (eE C.P ops)) env h = _
    rw [hd]; rfl
   | true =>
    have hex : ∀ h : Hp, _ := fun h => aNr (C := C) (rec := rec) (nt := nt) ops (Region.before ops) h.next ops.toList 0 0 false [] [(none, resv (cG C.P ops.toList) h)]
    refine ⟨fun env h => ((hex h).choose env (resv (cG C.P ops.toList) h)).map fun p => .n p.1 p.2, fun X kr k env h => ?_⟩
    have e : aP C rec nt n (.region id ops true) X kr k env h = gQ C rec nt ops k env h := by
     show (Bool.rec (motive := fun _ => K) cM (gQ C rec nt ops k) (eE C.P ops)) env h = _
     rw [hd]
    rw [e]
    unfold gQ
    rw [(hex h).choose_spec k env _]
    dsimp only
    cases hh : (hex h).choose env (resv (cG C.P ops.toList) h) <;> rfl
 | seq x y ihx ihy =>
  obtain ⟨O1, h1⟩ := ihx
  obtain ⟨O2, h2⟩ := ihy
  refine ⟨fun env h => match O1 env h with
   | some (.n e h) => O2 e h
   | o => o, fun X kr k env h => ?_⟩
  show aP C rec nt n x X kr (aP C rec nt n y X kr k) env h = _
  rw [h1]
  dsimp only
  cases ho : O1 env h with
  | none => rfl
  | some o =>
   cases o with
   | n e h' => exact h2 X kr k e h'
   | x i e h' => rfl
   | r e h' => rfl
 | cond c x y ihx ihy =>
  obtain ⟨O1, h1⟩ := ihx
  obtain ⟨O2, h2⟩ := ihy
  refine ⟨fun env h => match opr env c with
   | .b true => O1 env h
   | .b false => O2 env h
   | _ => none, fun X kr k env h => ?_⟩
  show aU (opr env c) (aP C rec nt n x X kr k env h) (aP C rec nt n y X kr k env h) = _
  rw [h1, h2]
  unfold aU
  dsimp only
  cases opr env c <;> try rfl
  rename_i b
  cases b <;> rfl
 | block id x ih =>
  obtain ⟨O1, h1⟩ := ih
  refine ⟨fun env h => match O1 env h with
   | some (.x i e h') => bif Nat.beq i id then some (.n e h') else some (.x i e h')
   | o => o, fun X kr k env h => ?_⟩
  show aP C rec nt n x (fun j => bif Nat.beq j id then k else X j) kr k env h = _
  rw [h1]
  dsimp only
  cases ho : O1 env h with
  | none => rfl
  | some o =>
   cases o with
   | n e h' => rfl
   | r e h' => rfl
   | x i e h' =>
    simp only [Out.go]
    cases hb : Nat.beq i id with
    | true => rfl
    | false => rfl
 | loop x ih =>
  obtain ⟨O1, h1⟩ := ih
  have key : ∀ m : Nat, ∃ O : aZ → Hp → Option Out, ∀ (X : Nat → K) (kr k : K) env h, aK (fun kk => aP C rec nt n x X kr kk) m env h = Out.go (O env h) X kr k := by
   intro m
   induction m with
   | zero => exact ⟨fun _ _ => none, fun X kr k env h => rfl⟩
   | succ m ihm =>
    obtain ⟨O2, h2⟩ := ihm
    refine ⟨fun env h => match O1 env h with
     | some (.n e h) => O2 e h
     | o => o, fun X kr k env h => ?_⟩
    show aP C rec nt n x X kr (aK (fun kk => aP C rec nt n x X kr kk) m) env h = _
    rw [h1]
    dsimp only
    cases ho : O1 env h with
    | none => rfl
    | some o =>
     cases o with
     | n e h' => exact h2 X kr k e h'
     | x i e h' => rfl
     | r e h' => rfl
  exact key n
 | rangeFunc f ps x y ihx ihy => exact hfail
 | exit id => exact ⟨fun e h => some (.x id e h), fun X kr k env h => rfl⟩
 | scope x ih => exact ih
 | label l => exact ⟨fun e h => some (.n e h), fun X kr k env h => rfl⟩
 | goto l => exact hfail
 | ret => exact ⟨fun e h => some (.r e h), fun X kr k env h => rfl⟩
 | refuse why => exact hfail
end
end Go.Dd

namespace Go.Dd
open Go.Proofs
noncomputable def t20 (rec : FuncId → List DV → Hp → aH) (n : Nat) (x0 x1 : DV) (h0 : Hp) : aH :=
 bnd (aD .eql x1 (.i .i64 (Int.ofNat 0)) h0) fun v1 h1 =>
 bnd (gD v1 false (some (x1, h1)) h1) fun v2 h2 =>
 bnd (gD v1 false (aD .eql v2 (.i .i64 (Int.ofNat 2)) h2) h2) fun v3 h3 =>
 bnd (aN v1 (.b true) v3 h3) fun v4 h4 =>
 bnd (gD v4 false (some (x1, h4)) h4) fun v5 h5 =>
 bnd (gD v4 false (aD .eql v5 (.i .i64 (Int.ofNat 4)) h5) h5) fun v6 h6 =>
 bnd (aN v4 (.b true) v6 h6) fun v7 h7 =>
 bnd (gD v7 false (some (x1, h7)) h7) fun v8 h8 =>
 bnd (gD v7 false (rec 54 [v8] h8) h8) fun v9 h9 =>
 bnd (aN v7 (.b true) v9 h9) fun v10 h10 =>
 bnd (gD v10 false (some (x0, h10)) h10) fun v11 h11 =>
 bnd (gD v10 false (some (x1, h11)) h11) fun v12 h12 =>
 bnd (gD v10 false (rec 21 [v11, v12] h12) h12) fun v13 h13 =>
 bnd (aN v10 (.b true) v13 h13) fun v14 h14 =>
 some (v14, h14)
noncomputable def E20 (rec : FuncId → List DV → Hp → aH) (n : Nat) (c : Code) (X : Nat → K) (k : K) : K := aP CF1 rec 24 n c X (aQ CF1 Tryz.f20) k
theorem eIx (rec : FuncId → List DV → Hp → aH) (n : Nat) : E20 rec n (cf Tryz.f20) x0 (aQ CF1 Tryz.f20) = (fun (env : aZ) (h : Hp) => t20 rec n (env 0) (env 1) h) :=
 (by kernel_rfl)
theorem eBg (rec : FuncId → List DV → Hp → aH) (n : Nat) (args : List DV) (h : Hp) : aG CF1 rec n 20 args h = t20 rec n (args.getD 0 aY) (args.getD 1 aY) h :=
 (by kernel_rfl : aG CF1 rec n 20 args h = E20 rec n (cf Tryz.f20) x0 (aQ CF1 Tryz.f20) (aI args) h).trans ((congrFun (congrFun (eIx rec n) (aI args)) h).trans (by kernel_rfl))
noncomputable def t21 (rec : FuncId → List DV → Hp → aH) (n : Nat) (x0 x1 : DV) (h0 : Hp) : aH :=
 bnd (rec 63 [x1] h0) fun v1 h1 =>
 bnd (gD v1 true (some (x0, h1)) h1) fun v2 h2 =>
 bnd (gD v1 true (aX v2 h2) h2) fun v3 h3 =>
 bnd (gD v1 true (aB 3 v3 h3) h3) fun v4 h4 =>
 bnd (gD v1 true (aA v4 h4) h4) fun v5 h5 =>
 bnd (gD v1 true (some (x1, h5)) h5) fun v6 h6 =>
 bnd (gD v1 true (rec 64 [v6] h6) h6) fun v7 h7 =>
 cnd (bR (gD v1 true (aA v4 h7) h7) v5 && true) (
 bnd (gD v1 true (gG (.int .i64) (.b false) false v5 v7 h7) h7) fun v8 h8 =>
 bnd (aN v1 v8 (.b false) h8) fun v9 h9 =>
 some (v9, h9))
noncomputable def E21 (rec : FuncId → List DV → Hp → aH) (n : Nat) (c : Code) (X : Nat → K) (k : K) : K := aP CF1 rec 16 n c X (aQ CF1 Tryz.f21) k
theorem eIy (rec : FuncId → List DV → Hp → aH) (n : Nat) : E21 rec n (cf Tryz.f21) x0 (aQ CF1 Tryz.f21) = (fun (env : aZ) (h : Hp) => t21 rec n (env 0) (env 1) h) :=
 (by kernel_rfl)
theorem dXc (rec : FuncId → List DV → Hp → aH) (n : Nat) (args : List DV) (h : Hp) : aG CF1 rec n 21 args h = t21 rec n (args.getD 0 aY) (args.getD 1 aY) h :=
 (by kernel_rfl : aG CF1 rec n 21 args h = E21 rec n (cf Tryz.f21) x0 (aQ CF1 Tryz.f21) (aI args) h).trans ((congrFun (congrFun (eIy rec n) (aI args)) h).trans (by kernel_rfl))
noncomputable def t22 (rec : FuncId → List DV → Hp → aH) (n : Nat) (x0 : DV) (h0 : Hp) : aH :=
 bnd (aX x0 h0) fun v1 h1 =>
 bnd (aB 0 v1 h1) fun v2 h2 =>
 bnd (aA v2 h2) fun v3 h3 =>
 bnd (bJ v3 h3) fun v4 h4 =>
 some (v4, h4)
noncomputable def E22 (rec : FuncId → List DV → Hp → aH) (n : Nat) (c : Code) (X : Nat → K) (k : K) : K := aP CF1 rec 8 n c X (aQ CF1 Tryz.f22) k
theorem eLq (rec : FuncId → List DV → Hp → aH) (n : Nat) : E22 rec n (cf Tryz.f22) x0 (aQ CF1 Tryz.f22) = (fun (env : aZ) (h : Hp) => t22 rec n (env 0) h) :=
 (by kernel_rfl)
theorem dZm (rec : FuncId → List DV → Hp → aH) (n : Nat) (args : List DV) (h : Hp) : aG CF1 rec n 22 args h = t22 rec n (args.getD 0 aY) h :=
 (by kernel_rfl : aG CF1 rec n 22 args h = E22 rec n (cf Tryz.f22) x0 (aQ CF1 Tryz.f22) (aI args) h).trans ((congrFun (congrFun (eLq rec n) (aI args)) h).trans (by kernel_rfl))
noncomputable def t29 (rec : FuncId → List DV → Hp → aH) (n : Nat) (x0 : DV) (h0 : Hp) : aH :=
 bnd (aX x0 h0) fun v1 h1 =>
 bnd (aB 0 v1 h1) fun v2 h2 =>
 bnd (aA v2 h2) fun v3 h3 =>
 bnd (bJ v3 h3) fun v4 h4 =>
 bnd (aX x0 h4) fun v5 h5 =>
 bnd (aB 1 v5 h5) fun v6 h6 =>
 bnd (aA v6 h6) fun v7 h7 =>
 bnd (aD .sub v4 v7 h7) fun v8 h8 =>
 some (v8, h8)
noncomputable def E29 (rec : FuncId → List DV → Hp → aH) (n : Nat) (c : Code) (X : Nat → K) (k : K) : K := aP CF1 rec 13 n c X (aQ CF1 Tryz.f29) k
theorem eHo (rec : FuncId → List DV → Hp → aH) (n : Nat) : E29 rec n (cf Tryz.f29) x0 (aQ CF1 Tryz.f29) = (fun (env : aZ) (h : Hp) => t29 rec n (env 0) h) :=
 (by kernel_rfl)
theorem eBv (rec : FuncId → List DV → Hp → aH) (n : Nat) (args : List DV) (h : Hp) : aG CF1 rec n 29 args h = t29 rec n (args.getD 0 aY) h :=
 (by kernel_rfl : aG CF1 rec n 29 args h = E29 rec n (cf Tryz.f29) x0 (aQ CF1 Tryz.f29) (aI args) h).trans ((congrFun (congrFun (eHo rec n) (aI args)) h).trans (by kernel_rfl))
noncomputable def t30 (rec : FuncId → List DV → Hp → aH) (n : Nat) (x0 x1 x2 x3 : DV) (h0 : Hp) : aH :=
 bnd (rec 74 [x0, x1] h0) fun v1 h1 =>
 bnd (gP .not v1 h1) fun v2 h2 =>
 bnd (gD v2 false (some (x2, h2)) h2) fun v3 h3 =>
 bnd (gD v2 false (aD .lss v3 (.i .i64 (Int.ofNat 0)) h3) h3) fun v4 h4 =>
 bnd (aN v2 (.b true) v4 h4) fun v5 h5 =>
 bnd (gD v5 false (some (x2, h5)) h5) fun v6 h6 =>
 bnd (gD v5 false (aD .gtr v6 (.i .i64 (Int.ofNat 2)) h6) h6) fun v7 h7 =>
 bnd (aN v5 (.b true) v7 h7) fun v8 h8 =>
 bnd (gD v8 false (some (x3, h8)) h8) fun v9 h9 =>
 bnd (gD v8 false (aD .lss v9 (.i .i64 (Int.ofNat 0)) h9) h9) fun v10 h10 =>
 bnd (aN v8 (.b true) v10 h10) fun v11 h11 =>
 bnd (gD v11 false (some (x3, h11)) h11) fun v12 h12 =>
 bnd (gD v11 false (aD .gtr v12 (.i .i64 (Int.ofNat 256)) h12) h12) fun v13 h13 =>
 bnd (aN v11 (.b true) v13 h13) fun v14 h14 =>
 aU v14 (
  some (.t [(.i .i64 (Int.ofNat 0)), (.i .i64 (Int.ofNat 1))], h14)) (
  bnd (rec 29 [x0] h14) fun v15 h15 =>
  bnd (aD .add x3 (.i .i64 (Int.ofNat 3)) h15) fun v16 h16 =>
  bnd (aD .lss v15 v16 h16) fun v17 h17 =>
  bnd (gD v17 false (some (x0, h17)) h17) fun v18 h18 =>
  bnd (gD v17 false (aX v18 h18) h18) fun v19 h19 =>
  bnd (gD v17 false (aB 2 v19 h19) h19) fun v20 h20 =>
  bnd (gD v17 false (aA v20 h20) h20) fun v21 h21 =>
  bnd (gD v17 false (aD .geq v21 (.i .i64 (Int.ofNat 1099511627776)) h21) h21) fun v22 h22 =>
  bnd (aN v17 (.b true) v22 h22) fun v23 h23 =>
  aU v23 (
   some (.t [(.i .i64 (Int.ofNat 0)), (.i .i64 (Int.ofNat 4))], h23)) (
   bnd (aX x0 h23) fun v24 h24 =>
   bnd (aB 1 v24 h24) fun v25 h25 =>
   bnd (aA v25 h25) fun v26 h26 =>
   bnd (aX x0 h26) fun v27 h27 =>
   bnd (aB 2 v27 h27) fun v28 h28 =>
   bnd (aA v28 h28) fun v29 h29 =>
   bnd (aD .add v29 (.i .i64 (Int.ofNat 1)) h29) fun v30 h30 =>
   bnd (aX x0 h30) fun v31 h31 =>
   bnd (aB 2 v31 h31) fun v32 h32 =>
   bnd (aJ 1 v32 v30 h32) fun _ h33 =>
   bnd (aX x0 h33) fun v34 h34 =>
   bnd (aB 0 v34 h34) fun v35 h35 =>
   bnd (aA v35 h35) fun v36 h36 =>
   bnd (aX x0 h36) fun v37 h37 =>
   bnd (aB 0 v37 h37) fun v38 h38 =>
   bnd (aA v38 h38) fun v39 h39 =>
   bnd (aD .add v26 (.i .i64 (Int.ofNat 1)) h39) fun v40 h40 =>
   bnd (aX x0 h40) fun v41 h41 =>
   bnd (aB 0 v41 h41) fun v42 h42 =>
   bnd (aA v42 h42) fun v43 h43 =>
   bnd (aD .add v26 (.i .i64 (Int.ofNat 2)) h43) fun v44 h44 =>
   bnd (dL .shl x3 (.i .u64 (Int.ofNat 2)) h44) fun v45 h45 =>
   bnd (aD .or v45 x2 h45) fun v46 h46 =>
   bnd (aX x0 h46) fun v47 h47 =>
   bnd (aB 2 v47 h47) fun v48 h48 =>
   bnd (aA v48 h48) fun v49 h49 =>
   bnd (aC 1 v36 v26 h49) fun v50 h50 =>
   bnd (aJ 1 v50 v46 h50) fun v51 h51 =>
   bnd (aC 1 v39 v40 h51) fun v52 h52 =>
   bnd (aJ 1 v52 x1 h52) fun v53 h53 =>
   bnd (aC 1 v43 v44 h53) fun v54 h54 =>
   bnd (aJ 1 v54 v49 h54) fun v55 h55 =>
   bnd (aX x0 h55) fun v56 h56 =>
   bnd (aB 0 v56 h56) fun v57 h57 =>
   bnd (aA v57 h57) fun v58 h58 =>
   bnd (aD .add v26 (.i .i64 (Int.ofNat 3)) h58) fun v59 h59 =>
   bnd (aD .add v26 (.i .i64 (Int.ofNat 3)) h59) fun v60 h60 =>
   bnd (aD .add v60 x3 h60) fun v61 h61 =>
   bnd (cT 1 v58 (some v59) (some v61) h61) fun v62 h62 =>
   bnd (jZ [(.i .i64 (Int.ofNat 0))] v62 h62) fun _ h63 =>
   bnd (aX x0 h63) fun v64 h64 =>
   bnd (aB 1 v64 h64) fun v65 h65 =>
   bnd (aA v65 h65) fun v66 h66 =>
   bnd (aD .add x3 (.i .i64 (Int.ofNat 3)) h66) fun v67 h67 =>
   bnd (aD .add v66 v67 h67) fun v68 h68 =>
   bnd (aX x0 h68) fun v69 h69 =>
   bnd (aB 1 v69 h69) fun v70 h70 =>
   bnd (aJ 1 v70 v68 h70) fun _ h71 =>
   bnd (aX x0 h71) fun v72 h72 =>
   bnd (aB 3 v72 h72) fun v73 h73 =>
   bnd (aA v73 h73) fun v74 h74 =>
   bnd (gI (.int .i64) v74 v26 (.b true) h74) fun _ h75 =>
   bnd (rec 75 [v26] h75) fun v76 h76 =>
   bnd (aE 0 v76 h76) fun v77 h77 =>
   bnd (aE 1 v76 h77) fun v78 h78 =>
   some (.t [v77, (.i .i64 (Int.ofNat 0))], h78)))
noncomputable def E30 (rec : FuncId → List DV → Hp → aH) (n : Nat) (c : Code) (X : Nat → K) (k : K) : K := aP CF1 rec 118 n c X (aQ CF1 Tryz.f30) k
theorem eHf (rec : FuncId → List DV → Hp → aH) (n : Nat) : E30 rec n (cf Tryz.f30) x0 (aQ CF1 Tryz.f30) = (fun (env : aZ) (h : Hp) => t30 rec n (env 0) (env 1) (env 2) (env 3) h) :=
 (by kernel_rfl)
theorem dXb (rec : FuncId → List DV → Hp → aH) (n : Nat) (args : List DV) (h : Hp) : aG CF1 rec n 30 args h = t30 rec n (args.getD 0 aY) (args.getD 1 aY) (args.getD 2 aY) (args.getD 3 aY) h :=
 (by kernel_rfl : aG CF1 rec n 30 args h = E30 rec n (cf Tryz.f30) x0 (aQ CF1 Tryz.f30) (aI args) h).trans ((congrFun (congrFun (eHf rec n) (aI args)) h).trans (by kernel_rfl))
noncomputable def t41 (rec : FuncId → List DV → Hp → aH) (n : Nat) (x0 : DV) (h0 : Hp) : aH :=
 bnd (aD .lss x0 (.i .i64 (Int.ofNat 16)) h0) fun v1 h1 =>
 bnd (gD v1 false (some (x0, h1)) h1) fun v2 h2 =>
 bnd (gD v1 false (aD .gtr v2 (.i .i64 (Int.ofNat 131072)) h2) h2) fun v3 h3 =>
 bnd (aN v1 (.b true) v3 h3) fun v4 h4 =>
 aU v4 (
  some (.p0, h4)) (
  bnd (cJ 1 8 [(.i .i64 (Int.ofNat 0))] x0 x0 h4) fun v5 h5 =>
  bnd (dX h5) fun v6 h6 =>
  bnd (bL [.l0, (.i .i64 (Int.ofNat 0)), (.i .i64 (Int.ofNat 0)), .m0] [(0, 1, v5), (1, 1, (.i .i64 (Int.ofNat 3))), (3, 1, v6)] h6) fun v7 h7 =>
  bnd (bQ v7 h7) fun v8 h8 =>
  some (v8, h8))
noncomputable def E41 (rec : FuncId → List DV → Hp → aH) (n : Nat) (c : Code) (X : Nat → K) (k : K) : K := aP CF1 rec 14 n c X (aQ CF1 Tryz.f41) k
theorem eIv (rec : FuncId → List DV → Hp → aH) (n : Nat) : E41 rec n (cf Tryz.f41) x0 (aQ CF1 Tryz.f41) = (fun (env : aZ) (h : Hp) => t41 rec n (env 0) h) :=
 (by kernel_rfl)
theorem dFz (rec : FuncId → List DV → Hp → aH) (n : Nat) (args : List DV) (h : Hp) : aG CF1 rec n 41 args h = t41 rec n (args.getD 0 aY) h :=
 (by kernel_rfl : aG CF1 rec n 41 args h = E41 rec n (cf Tryz.f41) x0 (aQ CF1 Tryz.f41) (aI args) h).trans ((congrFun (congrFun (eIv rec n) (aI args)) h).trans (by kernel_rfl))
noncomputable def t44 (rec : FuncId → List DV → Hp → aH) (n : Nat) (x0 x1 x2 : DV) (h0 : Hp) : aH :=
 bnd (rec 105 [x0, x1] h0) fun v1 h1 =>
 bnd (aD .eql v1 (.i .i64 (Int.ofNat 0)) h1) fun v2 h2 =>
 bnd (gD v2 false (some (x0, h2)) h2) fun v3 h3 =>
 bnd (gD v2 false (some (x2, h3)) h3) fun v4 h4 =>
 bnd (gD v2 false (rec 74 [v3, v4] h4) h4) fun v5 h5 =>
 bnd (gD v2 false (gP .not v5 h5) h5) fun v6 h6 =>
 bnd (aN v2 (.b true) v6 h6) fun v7 h7 =>
 aU v7 (
  some ((.i .i64 (Int.ofNat 1)), h7)) (
  bnd (aX x0 h7) fun v8 h8 =>
  bnd (aB 0 v8 h8) fun v9 h9 =>
  bnd (aA v9 h9) fun v10 h10 =>
  bnd (aD .add v1 (.i .i64 (Int.ofNat 1)) h10) fun v11 h11 =>
  bnd (aC 1 v10 v11 h11) fun v12 h12 =>
  bnd (aJ 1 v12 x2 h12) fun _ h13 =>
  some ((.i .i64 (Int.ofNat 0)), h13))
noncomputable def E44 (rec : FuncId → List DV → Hp → aH) (n : Nat) (c : Code) (X : Nat → K) (k : K) : K := aP CF1 rec 27 n c X (aQ CF1 Tryz.f44) k
theorem eIe (rec : FuncId → List DV → Hp → aH) (n : Nat) : E44 rec n (cf Tryz.f44) x0 (aQ CF1 Tryz.f44) = (fun (env : aZ) (h : Hp) => t44 rec n (env 0) (env 1) (env 2) h) :=
 (by kernel_rfl)
theorem eEw (rec : FuncId → List DV → Hp → aH) (n : Nat) (args : List DV) (h : Hp) : aG CF1 rec n 44 args h = t44 rec n (args.getD 0 aY) (args.getD 1 aY) (args.getD 2 aY) h :=
 (by kernel_rfl : aG CF1 rec n 44 args h = E44 rec n (cf Tryz.f44) x0 (aQ CF1 Tryz.f44) (aI args) h).trans ((congrFun (congrFun (eIe rec n) (aI args)) h).trans (by kernel_rfl))
noncomputable def tI (rec : FuncId → List DV → Hp → aH) (n : Nat) (x0 x3 x9 : DV) (h0 : Hp) : aH :=
 bnd (aX x0 h0) fun v1 h1 =>
 bnd (aB 0 v1 h1) fun v2 h2 =>
 bnd (aA v2 h2) fun v3 h3 =>
 bnd (aC 1 v3 x9 h3) fun v4 h4 =>
 bnd (aJ 1 v4 x3 h4) fun _ h5 =>
 some ((.i .i64 (Int.ofNat 0)), h5)
noncomputable def bCv (rec : FuncId → List DV → Hp → aH) (n : Nat) (x0 x1 x3 x9 : DV) (h0 : Hp) : aH :=
 bnd (rec 51 [x0, x1] h0) fun v11 h11 =>
 bnd (aD .eql v11 (.i .i64 (Int.ofNat 0)) h11) fun v12 h12 =>
 aU v12 (
  bnd (rec 20 [x0, x3] h12) fun v13 h13 =>
  bnd (gP .not v13 h13) fun v14 h14 =>
  aU v14 (
   some ((.i .i64 (Int.ofNat 6)), h14)) (
   tI rec n x0 x3 x9 h14)) (
  bnd (aD .eql v11 (.i .i64 (Int.ofNat 2)) h12) fun v15 h15 =>
  aU v15 (
   bnd (aD .lss x3 (.i .i64 (Int.ofNat 0)) h15) fun v16 h16 =>
   bnd (gD v16 false (some (x3, h16)) h16) fun v17 h17 =>
   bnd (gD v16 false (aD .gtr v17 (.i .i64 (Int.ofNat 255)) h17) h17) fun v18 h18 =>
   bnd (aN v16 (.b true) v18 h18) fun v19 h19 =>
   aU v19 (
    some ((.i .i64 (Int.ofNat 6)), h19)) (
    tI rec n x0 x3 x9 h19)) (
   tI rec n x0 x3 x9 h15))
noncomputable def aOg (rec : FuncId → List DV → Hp → aH) (n : Nat) (x0 x1 x3 x9 x10 : DV) (h0 : Hp) : aH :=
 bnd (aD .neq x10 (.i .i64 (Int.ofNat 0)) h0) fun v29 h29 =>
 aU v29 (
  some (x10, h29)) (
  bCv rec n x0 x1 x3 x9 h29)
noncomputable def bAs (rec : FuncId → List DV → Hp → aH) (n : Nat) (x0 x1 x2 x3 : DV) (h0 : Hp) : aH :=
 bnd (rec 107 [x0, x1, x2] h0) fun v31 h31 =>
 bnd (aE 0 v31 h31) fun v32 h32 =>
 bnd (aE 1 v31 h32) fun v33 h33 =>
 aOg rec n x0 x1 x3 v32 v33 h33
noncomputable def t47 (rec : FuncId → List DV → Hp → aH) (n : Nat) (x0 x1 x2 x3 : DV) (h0 : Hp) : aH :=
 bAs rec n x0 x1 x2 x3 h0
noncomputable def E47 (rec : FuncId → List DV → Hp → aH) (n : Nat) (c : Code) (X : Nat → K) (k : K) : K := aP CF1 rec 45 n c X (aQ CF1 Tryz.f47) k
theorem dPt (rec : FuncId → List DV → Hp → aH) (n : Nat) : E47 rec n (cR (cR (cR (cR (cf Tryz.f47))))) x0 (aQ CF1 Tryz.f47) = (fun (env : aZ) (h : Hp) => tI rec n (env 0) (env 3) (env 9) h) :=
 (by kernel_rfl)
theorem cVc (rec : FuncId → List DV → Hp → aH) (n : Nat) : E47 rec n (cR (cR (cR (cf Tryz.f47)))) x0 (aQ CF1 Tryz.f47) = E47 rec n (cL (cR (cR (cR (cf Tryz.f47))))) x0 (fun (env : aZ) (h : Hp) => tI rec n (env 0) (env 3) (env 9) h) :=
 congrArg (fun k => E47 rec n (cL (cR (cR (cR (cf Tryz.f47))))) x0 k) (dPt rec n)
theorem dKv (rec : FuncId → List DV → Hp → aH) (n : Nat) : E47 rec n (cR (cR (cR (cf Tryz.f47)))) x0 (aQ CF1 Tryz.f47) = (fun (env : aZ) (h : Hp) => bCv rec n (env 0) (env 1) (env 3) (env 9) h) :=
 (cVc rec n).trans
 ((by kernel_rfl))
theorem dBi (rec : FuncId → List DV → Hp → aH) (n : Nat) : E47 rec n (cR (cR (cf Tryz.f47))) x0 (aQ CF1 Tryz.f47) = E47 rec n (cL (cR (cR (cf Tryz.f47)))) x0 (fun (env : aZ) (h : Hp) => bCv rec n (env 0) (env 1) (env 3) (env 9) h) :=
 congrArg (fun k => E47 rec n (cL (cR (cR (cf Tryz.f47)))) x0 k) (dKv rec n)
theorem dUh (rec : FuncId → List DV → Hp → aH) (n : Nat) : E47 rec n (cR (cR (cf Tryz.f47))) x0 (aQ CF1 Tryz.f47) = (fun (env : aZ) (h : Hp) => aOg rec n (env 0) (env 1) (env 3) (env 9) (env 10) h) :=
 (dBi rec n).trans
 ((by kernel_rfl))
theorem cQt (rec : FuncId → List DV → Hp → aH) (n : Nat) : E47 rec n (cR (cf Tryz.f47)) x0 (aQ CF1 Tryz.f47) = E47 rec n (cL (cR (cf Tryz.f47))) x0 (fun (env : aZ) (h : Hp) => aOg rec n (env 0) (env 1) (env 3) (env 9) (env 10) h) :=
 congrArg (fun k => E47 rec n (cL (cR (cf Tryz.f47))) x0 k) (dUh rec n)
theorem dMi (rec : FuncId → List DV → Hp → aH) (n : Nat) : E47 rec n (cR (cf Tryz.f47)) x0 (aQ CF1 Tryz.f47) = (fun (env : aZ) (h : Hp) => bAs rec n (env 0) (env 1) (env 2) (env 3) h) :=
 (cQt rec n).trans
 ((by kernel_rfl))
theorem dVs (rec : FuncId → List DV → Hp → aH) (n : Nat) : E47 rec n (cf Tryz.f47) x0 (aQ CF1 Tryz.f47) = E47 rec n (cL (cf Tryz.f47)) x0 (fun (env : aZ) (h : Hp) => bAs rec n (env 0) (env 1) (env 2) (env 3) h) :=
 congrArg (fun k => E47 rec n (cL (cf Tryz.f47)) x0 k) (dMi rec n)
theorem eKl (rec : FuncId → List DV → Hp → aH) (n : Nat) : E47 rec n (cf Tryz.f47) x0 (aQ CF1 Tryz.f47) = (fun (env : aZ) (h : Hp) => t47 rec n (env 0) (env 1) (env 2) (env 3) h) :=
 (dVs rec n).trans
 ((by kernel_rfl))
theorem dWq (rec : FuncId → List DV → Hp → aH) (n : Nat) (args : List DV) (h : Hp) : aG CF1 rec n 47 args h = t47 rec n (args.getD 0 aY) (args.getD 1 aY) (args.getD 2 aY) (args.getD 3 aY) h :=
 (by kernel_rfl : aG CF1 rec n 47 args h = E47 rec n (cf Tryz.f47) x0 (aQ CF1 Tryz.f47) (aI args) h).trans ((congrFun (congrFun (eKl rec n) (aI args)) h).trans (by kernel_rfl))
noncomputable def t50 (rec : FuncId → List DV → Hp → aH) (n : Nat) (x0 x1 : DV) (h0 : Hp) : aH :=
 bnd (aX x0 h0) fun v1 h1 =>
 bnd (aB 0 v1 h1) fun v2 h2 =>
 bnd (aA v2 h2) fun v3 h3 =>
 bnd (rec 105 [x0, x1] h3) fun v4 h4 =>
 cnd (bR (aA v2 h4) v3 && true) (
 bnd (aD .add v4 (.i .i64 (Int.ofNat 1)) h4) fun v5 h5 =>
 bnd (aC 1 v3 v5 h5) fun v6 h6 =>
 bnd (aA v6 h6) fun v7 h7 =>
 some (v7, h7))
noncomputable def E50 (rec : FuncId → List DV → Hp → aH) (n : Nat) (c : Code) (X : Nat → K) (k : K) : K := aP CF1 rec 15 n c X (aQ CF1 Tryz.f50) k
theorem eLe (rec : FuncId → List DV → Hp → aH) (n : Nat) : E50 rec n (cf Tryz.f50) x0 (aQ CF1 Tryz.f50) = (fun (env : aZ) (h : Hp) => t50 rec n (env 0) (env 1) h) :=
 (by kernel_rfl)
theorem eBm (rec : FuncId → List DV → Hp → aH) (n : Nat) (args : List DV) (h : Hp) : aG CF1 rec n 50 args h = t50 rec n (args.getD 0 aY) (args.getD 1 aY) h :=
 (by kernel_rfl : aG CF1 rec n 50 args h = E50 rec n (cf Tryz.f50) x0 (aQ CF1 Tryz.f50) (aI args) h).trans ((congrFun (congrFun (eLe rec n) (aI args)) h).trans (by kernel_rfl))
noncomputable def t51 (rec : FuncId → List DV → Hp → aH) (n : Nat) (x0 x1 : DV) (h0 : Hp) : aH :=
 bnd (aX x0 h0) fun v1 h1 =>
 bnd (aB 0 v1 h1) fun v2 h2 =>
 bnd (aA v2 h2) fun v3 h3 =>
 bnd (rec 105 [x0, x1] h3) fun v4 h4 =>
 cnd (bR (aA v2 h4) v3 && true) (
 bnd (aC 1 v3 v4 h4) fun v5 h5 =>
 bnd (aA v5 h5) fun v6 h6 =>
 bnd (aD .and v6 (.i .i64 (Int.ofNat 3)) h6) fun v7 h7 =>
 some (v7, h7))
noncomputable def E51 (rec : FuncId → List DV → Hp → aH) (n : Nat) (c : Code) (X : Nat → K) (k : K) : K := aP CF1 rec 15 n c X (aQ CF1 Tryz.f51) k
theorem eIt (rec : FuncId → List DV → Hp → aH) (n : Nat) : E51 rec n (cf Tryz.f51) x0 (aQ CF1 Tryz.f51) = (fun (env : aZ) (h : Hp) => t51 rec n (env 0) (env 1) h) :=
 (by kernel_rfl)
theorem dWw (rec : FuncId → List DV → Hp → aH) (n : Nat) (args : List DV) (h : Hp) : aG CF1 rec n 51 args h = t51 rec n (args.getD 0 aY) (args.getD 1 aY) h :=
 (by kernel_rfl : aG CF1 rec n 51 args h = E51 rec n (cf Tryz.f51) x0 (aQ CF1 Tryz.f51) (aI args) h).trans ((congrFun (congrFun (eIt rec n) (aI args)) h).trans (by kernel_rfl))
noncomputable def t52 (rec : FuncId → List DV → Hp → aH) (n : Nat) (x0 x1 : DV) (h0 : Hp) : aH :=
 bnd (aX x0 h0) fun v1 h1 =>
 bnd (aB 0 v1 h1) fun v2 h2 =>
 bnd (aA v2 h2) fun v3 h3 =>
 bnd (rec 105 [x0, x1] h3) fun v4 h4 =>
 cnd (bR (aA v2 h4) v3 && true) (
 bnd (aC 1 v3 v4 h4) fun v5 h5 =>
 bnd (aA v5 h5) fun v6 h6 =>
 bnd (dL .shr v6 (.i .u64 (Int.ofNat 2)) h6) fun v7 h7 =>
 some (v7, h7))
noncomputable def E52 (rec : FuncId → List DV → Hp → aH) (n : Nat) (c : Code) (X : Nat → K) (k : K) : K := aP CF1 rec 15 n c X (aQ CF1 Tryz.f52) k
theorem eGz (rec : FuncId → List DV → Hp → aH) (n : Nat) : E52 rec n (cf Tryz.f52) x0 (aQ CF1 Tryz.f52) = (fun (env : aZ) (h : Hp) => t52 rec n (env 0) (env 1) h) :=
 (by kernel_rfl)
theorem eBc (rec : FuncId → List DV → Hp → aH) (n : Nat) (args : List DV) (h : Hp) : aG CF1 rec n 52 args h = t52 rec n (args.getD 0 aY) (args.getD 1 aY) h :=
 (by kernel_rfl : aG CF1 rec n 52 args h = E52 rec n (cf Tryz.f52) x0 (aQ CF1 Tryz.f52) (aI args) h).trans ((congrFun (congrFun (eGz rec n) (aI args)) h).trans (by kernel_rfl))
noncomputable def t54 (rec : FuncId → List DV → Hp → aH) (n : Nat) (x0 : DV) (h0 : Hp) : aH :=
 bnd (aD .and x0 (.i .i64 (Int.ofNat 1)) h0) fun v1 h1 =>
 bnd (aD .eql v1 (.i .i64 (Int.ofNat 1)) h1) fun v2 h2 =>
 bnd (gD v2 true (some (x0, h2)) h2) fun v3 h3 =>
 bnd (gD v2 true (dL .shr v3 (.i .u64 (Int.ofNat 1)) h3) h3) fun v4 h4 =>
 bnd (gD v2 true (rec 108 [v4, (.i .i64 (Int.negSucc 1073741823)), (.i .i64 (Int.ofNat 1073741823))] h4) h4) fun v5 h5 =>
 bnd (aN v2 v5 (.b false) h5) fun v6 h6 =>
 some (v6, h6)
noncomputable def E54 (rec : FuncId → List DV → Hp → aH) (n : Nat) (c : Code) (X : Nat → K) (k : K) : K := aP CF1 rec 11 n c X (aQ CF1 Tryz.f54) k
theorem eGv (rec : FuncId → List DV → Hp → aH) (n : Nat) : E54 rec n (cf Tryz.f54) x0 (aQ CF1 Tryz.f54) = (fun (env : aZ) (h : Hp) => t54 rec n (env 0) h) :=
 (by kernel_rfl)
theorem eEe (rec : FuncId → List DV → Hp → aH) (n : Nat) (args : List DV) (h : Hp) : aG CF1 rec n 54 args h = t54 rec n (args.getD 0 aY) h :=
 (by kernel_rfl : aG CF1 rec n 54 args h = E54 rec n (cf Tryz.f54) x0 (aQ CF1 Tryz.f54) (aI args) h).trans ((congrFun (congrFun (eGv rec n) (aI args)) h).trans (by kernel_rfl))
noncomputable def t60 (rec : FuncId → List DV → Hp → aH) (n : Nat) (x0 : DV) (h0 : Hp) : aH :=
 bnd (rec 108 [x0, (.i .i64 (Int.negSucc 1073741823)), (.i .i64 (Int.ofNat 1073741823))] h0) fun v1 h1 =>
 bnd (gP .not v1 h1) fun v2 h2 =>
 aU v2 (
  some (.t [(.i .i64 (Int.ofNat 0)), (.b false)], h2)) (
  bnd (dL .shl x0 (.i .u64 (Int.ofNat 1)) h2) fun v3 h3 =>
  bnd (aD .or v3 (.i .i64 (Int.ofNat 1)) h3) fun v4 h4 =>
  some (.t [v4, (.b true)], h4))
noncomputable def E60 (rec : FuncId → List DV → Hp → aH) (n : Nat) (c : Code) (X : Nat → K) (k : K) : K := aP CF1 rec 10 n c X (aQ CF1 Tryz.f60) k
theorem eJf (rec : FuncId → List DV → Hp → aH) (n : Nat) : E60 rec n (cf Tryz.f60) x0 (aQ CF1 Tryz.f60) = (fun (env : aZ) (h : Hp) => t60 rec n (env 0) h) :=
 (by kernel_rfl)
theorem eEo (rec : FuncId → List DV → Hp → aH) (n : Nat) (args : List DV) (h : Hp) : aG CF1 rec n 60 args h = t60 rec n (args.getD 0 aY) h :=
 (by kernel_rfl : aG CF1 rec n 60 args h = E60 rec n (cf Tryz.f60) x0 (aQ CF1 Tryz.f60) (aI args) h).trans ((congrFun (congrFun (eJf rec n) (aI args)) h).trans (by kernel_rfl))
noncomputable def t62 (rec : FuncId → List DV → Hp → aH) (n : Nat) (x0 : DV) (h0 : Hp) : aH :=
 bnd (rec 54 [x0] h0) fun v1 h1 =>
 bnd (gP .not v1 h1) fun v2 h2 =>
 aU v2 (
  some ((.i .i64 (Int.ofNat 0)), h2)) (
  bnd (dL .shr x0 (.i .u64 (Int.ofNat 1)) h2) fun v3 h3 =>
  some (v3, h3))
noncomputable def E62 (rec : FuncId → List DV → Hp → aH) (n : Nat) (c : Code) (X : Nat → K) (k : K) : K := aP CF1 rec 8 n c X (aQ CF1 Tryz.f62) k
theorem eLk (rec : FuncId → List DV → Hp → aH) (n : Nat) : E62 rec n (cf Tryz.f62) x0 (aQ CF1 Tryz.f62) = (fun (env : aZ) (h : Hp) => t62 rec n (env 0) h) :=
 (by kernel_rfl)
theorem dXx (rec : FuncId → List DV → Hp → aH) (n : Nat) (args : List DV) (h : Hp) : aG CF1 rec n 62 args h = t62 rec n (args.getD 0 aY) h :=
 (by kernel_rfl : aG CF1 rec n 62 args h = E62 rec n (cf Tryz.f62) x0 (aQ CF1 Tryz.f62) (aI args) h).trans ((congrFun (congrFun (eLk rec n) (aI args)) h).trans (by kernel_rfl))
noncomputable def t63 (rec : FuncId → List DV → Hp → aH) (n : Nat) (x0 : DV) (h0 : Hp) : aH :=
 bnd (aD .and x0 (.i .i64 (Int.ofNat 1)) h0) fun v1 h1 =>
 bnd (aD .eql v1 (.i .i64 (Int.ofNat 0)) h1) fun v2 h2 =>
 bnd (gD v2 true (some (x0, h2)) h2) fun v3 h3 =>
 bnd (gD v2 true (dL .shr v3 (.i .u64 (Int.ofNat 1)) h3) h3) fun v4 h4 =>
 bnd (gD v2 true (rec 108 [v4, (.i .i64 (Int.ofNat 3)), (.i .i64 (Int.ofNat 131072))] h4) h4) fun v5 h5 =>
 bnd (aN v2 v5 (.b false) h5) fun v6 h6 =>
 some (v6, h6)
noncomputable def E63 (rec : FuncId → List DV → Hp → aH) (n : Nat) (c : Code) (X : Nat → K) (k : K) : K := aP CF1 rec 11 n c X (aQ CF1 Tryz.f63) k
theorem eJl (rec : FuncId → List DV → Hp → aH) (n : Nat) : E63 rec n (cf Tryz.f63) x0 (aQ CF1 Tryz.f63) = (fun (env : aZ) (h : Hp) => t63 rec n (env 0) h) :=
 (by kernel_rfl)
theorem eBk (rec : FuncId → List DV → Hp → aH) (n : Nat) (args : List DV) (h : Hp) : aG CF1 rec n 63 args h = t63 rec n (args.getD 0 aY) h :=
 (by kernel_rfl : aG CF1 rec n 63 args h = E63 rec n (cf Tryz.f63) x0 (aQ CF1 Tryz.f63) (aI args) h).trans ((congrFun (congrFun (eJl rec n) (aI args)) h).trans (by kernel_rfl))
noncomputable def t64 (rec : FuncId → List DV → Hp → aH) (n : Nat) (x0 : DV) (h0 : Hp) : aH :=
 bnd (rec 63 [x0] h0) fun v1 h1 =>
 bnd (gP .not v1 h1) fun v2 h2 =>
 aU v2 (
  some ((.i .i64 (Int.ofNat 0)), h2)) (
  bnd (dL .shr x0 (.i .u64 (Int.ofNat 1)) h2) fun v3 h3 =>
  some (v3, h3))
noncomputable def E64 (rec : FuncId → List DV → Hp → aH) (n : Nat) (c : Code) (X : Nat → K) (k : K) : K := aP CF1 rec 8 n c X (aQ CF1 Tryz.f64) k
theorem eKe (rec : FuncId → List DV → Hp → aH) (n : Nat) : E64 rec n (cf Tryz.f64) x0 (aQ CF1 Tryz.f64) = (fun (env : aZ) (h : Hp) => t64 rec n (env 0) h) :=
 (by kernel_rfl)
theorem eCx (rec : FuncId → List DV → Hp → aH) (n : Nat) (args : List DV) (h : Hp) : aG CF1 rec n 64 args h = t64 rec n (args.getD 0 aY) h :=
 (by kernel_rfl : aG CF1 rec n 64 args h = E64 rec n (cf Tryz.f64) x0 (aQ CF1 Tryz.f64) (aI args) h).trans ((congrFun (congrFun (eKe rec n) (aI args)) h).trans (by kernel_rfl))
noncomputable def t73 (rec : FuncId → List DV → Hp → aH) (n : Nat) (x0 x1 x2 : DV) (h0 : Hp) : aH :=
 bnd (rec 107 [x0, x1, x2] h0) fun v1 h1 =>
 bnd (aE 0 v1 h1) fun v2 h2 =>
 bnd (aE 1 v1 h2) fun v3 h3 =>
 bnd (aD .neq v3 (.i .i64 (Int.ofNat 0)) h3) fun v4 h4 =>
 aU v4 (
  some (.t [(.i .i64 (Int.ofNat 0)), v3], h4)) (
  bnd (aX x0 h4) fun v5 h5 =>
  bnd (aB 0 v5 h5) fun v6 h6 =>
  bnd (aA v6 h6) fun v7 h7 =>
  bnd (aC 1 v7 v2 h7) fun v8 h8 =>
  bnd (aA v8 h8) fun v9 h9 =>
  some (.t [v9, (.i .i64 (Int.ofNat 0))], h9))
noncomputable def E73 (rec : FuncId → List DV → Hp → aH) (n : Nat) (c : Code) (X : Nat → K) (k : K) : K := aP CF1 rec 27 n c X (aQ CF1 Tryz.f73) k
theorem eKo (rec : FuncId → List DV → Hp → aH) (n : Nat) : E73 rec n (cf Tryz.f73) x0 (aQ CF1 Tryz.f73) = (fun (env : aZ) (h : Hp) => t73 rec n (env 0) (env 1) (env 2) h) :=
 (by kernel_rfl)
theorem dGc (rec : FuncId → List DV → Hp → aH) (n : Nat) (args : List DV) (h : Hp) : aG CF1 rec n 73 args h = t73 rec n (args.getD 0 aY) (args.getD 1 aY) (args.getD 2 aY) h :=
 (by kernel_rfl : aG CF1 rec n 73 args h = E73 rec n (cf Tryz.f73) x0 (aQ CF1 Tryz.f73) (aI args) h).trans ((congrFun (congrFun (eKo rec n) (aI args)) h).trans (by kernel_rfl))
noncomputable def t74 (rec : FuncId → List DV → Hp → aH) (n : Nat) (x0 x1 : DV) (h0 : Hp) : aH :=
 bnd (aD .eql x1 (.i .i64 (Int.ofNat 0)) h0) fun v1 h1 =>
 bnd (gD v1 false (some (x0, h1)) h1) fun v2 h2 =>
 bnd (gD v1 false (some (x1, h2)) h2) fun v3 h3 =>
 bnd (gD v1 false (rec 21 [v2, v3] h3) h3) fun v4 h4 =>
 bnd (aN v1 (.b true) v4 h4) fun v5 h5 =>
 some (v5, h5)
noncomputable def E74 (rec : FuncId → List DV → Hp → aH) (n : Nat) (c : Code) (X : Nat → K) (k : K) : K := aP CF1 rec 12 n c X (aQ CF1 Tryz.f74) k
theorem eLg (rec : FuncId → List DV → Hp → aH) (n : Nat) : E74 rec n (cf Tryz.f74) x0 (aQ CF1 Tryz.f74) = (fun (env : aZ) (h : Hp) => t74 rec n (env 0) (env 1) h) :=
 (by kernel_rfl)
theorem dWi (rec : FuncId → List DV → Hp → aH) (n : Nat) (args : List DV) (h : Hp) : aG CF1 rec n 74 args h = t74 rec n (args.getD 0 aY) (args.getD 1 aY) h :=
 (by kernel_rfl : aG CF1 rec n 74 args h = E74 rec n (cf Tryz.f74) x0 (aQ CF1 Tryz.f74) (aI args) h).trans ((congrFun (congrFun (eLg rec n) (aI args)) h).trans (by kernel_rfl))
noncomputable def t75 (rec : FuncId → List DV → Hp → aH) (n : Nat) (x0 : DV) (h0 : Hp) : aH :=
 bnd (rec 108 [x0, (.i .i64 (Int.ofNat 3)), (.i .i64 (Int.ofNat 131072))] h0) fun v1 h1 =>
 bnd (gP .not v1 h1) fun v2 h2 =>
 aU v2 (
  some (.t [(.i .i64 (Int.ofNat 0)), (.b false)], h2)) (
  bnd (dL .shl x0 (.i .u64 (Int.ofNat 1)) h2) fun v3 h3 =>
  some (.t [v3, (.b true)], h3))
noncomputable def E75 (rec : FuncId → List DV → Hp → aH) (n : Nat) (c : Code) (X : Nat → K) (k : K) : K := aP CF1 rec 9 n c X (aQ CF1 Tryz.f75) k
theorem eMq (rec : FuncId → List DV → Hp → aH) (n : Nat) : E75 rec n (cf Tryz.f75) x0 (aQ CF1 Tryz.f75) = (fun (env : aZ) (h : Hp) => t75 rec n (env 0) h) :=
 (by kernel_rfl)
theorem eAd (rec : FuncId → List DV → Hp → aH) (n : Nat) (args : List DV) (h : Hp) : aG CF1 rec n 75 args h = t75 rec n (args.getD 0 aY) h :=
 (by kernel_rfl : aG CF1 rec n 75 args h = E75 rec n (cf Tryz.f75) x0 (aQ CF1 Tryz.f75) (aI args) h).trans ((congrFun (congrFun (eMq rec n) (aI args)) h).trans (by kernel_rfl))
noncomputable def dKe (rec : FuncId → List DV → Hp → aH) (n : Nat) (x0 x1 : DV) (h0 : Hp) : aH :=
 bnd (rec 21 [x0, x1] h0) fun v1 h1 =>
 bnd (gP .not v1 h1) fun v2 h2 =>
 aU v2 (
  some ((.i .i64 (Int.ofNat 0)), h2)) (
  bnd (rec 64 [x1] h2) fun v3 h3 =>
  some (v3, h3))
noncomputable def eGh (rec : FuncId → List DV → Hp → aH) (n : Nat) (c : Code) (X : Nat → K) (k : K) : K := aP CF1 rec 11 n c X (aQ CF1 Tryz.f105) k
theorem eGk (rec : FuncId → List DV → Hp → aH) (n : Nat) : eGh rec n (cf Tryz.f105) x0 (aQ CF1 Tryz.f105) = (fun (env : aZ) (h : Hp) => dKe rec n (env 0) (env 1) h) :=
 (by kernel_rfl)
theorem dHg (rec : FuncId → List DV → Hp → aH) (n : Nat) (args : List DV) (h : Hp) : aG CF1 rec n 105 args h = dKe rec n (args.getD 0 aY) (args.getD 1 aY) h :=
 (by kernel_rfl : aG CF1 rec n 105 args h = eGh rec n (cf Tryz.f105) x0 (aQ CF1 Tryz.f105) (aI args) h).trans ((congrFun (congrFun (eGk rec n) (aI args)) h).trans (by kernel_rfl))
noncomputable def bKa (rec : FuncId → List DV → Hp → aH) (n : Nat) (x0 x1 x2 : DV) (h0 : Hp) : aH :=
 bnd (rec 105 [x0, x1] h0) fun v1 h1 =>
 bnd (aD .eql v1 (.i .i64 (Int.ofNat 0)) h1) fun v2 h2 =>
 aU v2 (
  some (.t [(.i .i64 (Int.ofNat 0)), (.i .i64 (Int.ofNat 1))], h2)) (
  bnd (aD .lss x2 (.i .i64 (Int.ofNat 0)) h2) fun v3 h3 =>
  bnd (gD v3 false (some (x2, h3)) h3) fun v4 h4 =>
  bnd (gD v3 false (some (x0, h4)) h4) fun v5 h5 =>
  bnd (gD v3 false (some (x1, h5)) h5) fun v6 h6 =>
  bnd (gD v3 false (rec 52 [v5, v6] h6) h6) fun v7 h7 =>
  bnd (gD v3 false (aD .geq v4 v7 h7) h7) fun v8 h8 =>
  bnd (aN v3 (.b true) v8 h8) fun v9 h9 =>
  aU v9 (
   some (.t [(.i .i64 (Int.ofNat 0)), (.i .i64 (Int.ofNat 5))], h9)) (
   bnd (aD .add v1 (.i .i64 (Int.ofNat 3)) h9) fun v10 h10 =>
   bnd (aD .add v10 x2 h10) fun v11 h11 =>
   some (.t [v11, (.i .i64 (Int.ofNat 0))], h11)))
noncomputable def eEz (rec : FuncId → List DV → Hp → aH) (n : Nat) (c : Code) (X : Nat → K) (k : K) : K := aP CF1 rec 29 n c X (aQ CF1 Tryz.f107) k
theorem eFp (rec : FuncId → List DV → Hp → aH) (n : Nat) : eEz rec n (cf Tryz.f107) x0 (aQ CF1 Tryz.f107) = (fun (env : aZ) (h : Hp) => bKa rec n (env 0) (env 1) (env 2) h) :=
 (by kernel_rfl)
theorem aJx (rec : FuncId → List DV → Hp → aH) (n : Nat) (args : List DV) (h : Hp) : aG CF1 rec n 107 args h = bKa rec n (args.getD 0 aY) (args.getD 1 aY) (args.getD 2 aY) h :=
 (by kernel_rfl : aG CF1 rec n 107 args h = eEz rec n (cf Tryz.f107) x0 (aQ CF1 Tryz.f107) (aI args) h).trans ((congrFun (congrFun (eFp rec n) (aI args)) h).trans (by kernel_rfl))
noncomputable def dKy (rec : FuncId → List DV → Hp → aH) (n : Nat) (x0 x1 x2 : DV) (h0 : Hp) : aH :=
 bnd (aD .geq x0 x1 h0) fun v1 h1 =>
 bnd (gD v1 true (some (x0, h1)) h1) fun v2 h2 =>
 bnd (gD v1 true (some (x2, h2)) h2) fun v3 h3 =>
 bnd (gD v1 true (aD .leq v2 v3 h3) h3) fun v4 h4 =>
 bnd (aN v1 v4 (.b false) h4) fun v5 h5 =>
 some (v5, h5)
noncomputable def dWo (rec : FuncId → List DV → Hp → aH) (n : Nat) (c : Code) (X : Nat → K) (k : K) : K := aP CF1 rec 15 n c X (aQ CF1 Tryz.f108) k
theorem eCe (rec : FuncId → List DV → Hp → aH) (n : Nat) : dWo rec n (cf Tryz.f108) x0 (aQ CF1 Tryz.f108) = (fun (env : aZ) (h : Hp) => dKy rec n (env 0) (env 1) (env 2) h) :=
 (by kernel_rfl)
theorem dPv (rec : FuncId → List DV → Hp → aH) (n : Nat) (args : List DV) (h : Hp) : aG CF1 rec n 108 args h = dKy rec n (args.getD 0 aY) (args.getD 1 aY) (args.getD 2 aY) h :=
 (by kernel_rfl : aG CF1 rec n 108 args h = dWo rec n (cf Tryz.f108) x0 (aQ CF1 Tryz.f108) (aI args) h).trans ((congrFun (congrFun (eCe rec n) (aI args)) h).trans (by kernel_rfl))
end Go.Dd

namespace Go.Dd
theorem qK {a b : Nat} : Nat.beq a b = decide (a = b) := by
 cases h : Nat.beq a b with
 | true => simp [Nat.eq_of_beq_eq_true h]
 | false =>
  have : a ≠ b := by intro e; subst e; simp at h
  simp [this]
theorem aXv {a b : Nat} : Nat.ble a b = decide (a ≤ b) := by
 cases h : Nat.ble a b with
 | true => simp [Nat.le_of_ble_eq_true h]
 | false =>
  have : ¬ a ≤ b := by intro e; rw [Nat.ble_eq_true_of_le e] at h; cases h
  simp [this]
theorem zF {a b : Nat} : Nat.blt a b = decide (a < b) := by
 show Nat.ble (a + 1) b = _
 rw [aXv]
 simp [Nat.succ_le_iff]
theorem aOo (w : Int) : (jN w ≠ 0 ↔ (w % 2 = 0 ∧ 3 ≤ w / 2 ∧ w / 2 ≤ 131072)) ∧ (jN w ≠ 0 → (jN w : Int) = w / 2) ∧ jN w ≤ 131072 := by
 cases w with
 | ofNat w =>
  simp only [jN, qK, aXv]
  have e1 : Nat.mod w 2 = w % 2 := rfl
  have e2 : Nat.div w 2 = w / 2 := rfl
  rw [e1, e2]
  by_cases hc : w % 2 = 0 ∧ 6 ≤ w ∧ w ≤ 262144
  ·obtain ⟨h1, h2, h3⟩ := hc
   simp only [h1, h2, h3, decide_true, Bool.and_self, cond_true]
   simp only [Int.ofNat_eq_natCast]
   refine ⟨⟨fun _ => ⟨by omega, by omega, by omega⟩, fun _ => by omega⟩, fun _ => by omega, by omega⟩
  ·have : (decide (w % 2 = 0) && (decide (6 ≤ w) && decide (w ≤ 262144))) = false := by
    rw [← Bool.not_eq_true]
    simpa using hc
   rw [this]
   simp only [cond_false, Int.ofNat_eq_natCast]
   refine ⟨⟨fun h => absurd rfl h, fun h => by omega⟩, fun h => absurd rfl h, by omega⟩
 | negSucc w =>
  simp only [jN]
  refine ⟨⟨fun h => absurd rfl h, fun h => by omega⟩, fun h => absurd rfl h, by omega⟩
theorem aQy (w : Int) : iK w = decide (w % 2 = 1 ∧ -1073741824 ≤ w / 2 ∧ w / 2 ≤ 1073741823) := by
 rw [Bool.eq_iff_iff, decide_eq_true_iff]
 cases w with
 | ofNat w =>
  simp only [iK, qK, zF, Bool.and_eq_true, decide_eq_true_eq]
  have e1 : Nat.mod w 2 = w % 2 := rfl
  rw [e1]
  simp only [Int.ofNat_eq_natCast]
  omega
 | negSucc w =>
  simp only [iK, qK, zF, Bool.and_eq_true, decide_eq_true_eq]
  have e1 : Nat.mod w 2 = w % 2 := rfl
  rw [e1]
  omega
theorem bKc (w : Int) : dGd w = w / 2 := by
 cases w with
 | ofNat w => show Int.ofNat (w / 2) = _; simp
 | negSucc w => show Int.negSucc (w / 2) = _; omega
theorem kI (a : Int) (h : -9223372036854775808 ≤ a ∧ a ≤ 9223372036854775807) : IntKind.i64.wrap a = a := by
 simp [IntKind.wrap, IntKind.signed, IntKind.bits, Int.bmod]
 omega
theorem gU (a : Int) : (BitVec.ofInt 64 a).toNat = (a % 18446744073709551616).toNat := by
 rw [BitVec.toNat_ofInt]
 rfl
theorem eHn (w : Int) : IntKind.i64.wrap (((BitVec.ofInt 64 w &&& BitVec.ofInt 64 1).toNat : Nat) : Int) = w % 2 := by
 rw [BitVec.toNat_and, gU, gU]
 rw [show ((1 : Int) % 18446744073709551616).toNat = 1 from rfl, Nat.and_one_is_mod]
 rw [kI _ (by omega)]
 omega
theorem eMo (w : Int) : IntKind.i64.wrap (((BitVec.ofInt 64 w &&& BitVec.ofInt 64 3).toNat : Nat) : Int) = w % 4 := by
 rw [BitVec.toNat_and, gU, gU]
 rw [show ((3 : Int) % 18446744073709551616).toNat = 2 ^ 2 - 1 from rfl, Nat.and_two_pow_sub_one_eq_mod]
 rw [kI _ (by omega)]
 omega
theorem dPp (a : Nat) (k b : Nat) (hb : b < 2 ^ k) (hs : a * 2 ^ k + b < 9223372036854775808) : IntKind.i64.wrap (((BitVec.ofInt 64 ((a * 2 ^ k : Nat) : Int) ||| BitVec.ofInt 64 (b : Int)).toNat : Nat) : Int) = ((a * 2 ^ k + b : Nat) : Int) := by
 have h1 : (BitVec.ofInt 64 ((a * 2 ^ k : Nat) : Int)).toNat = a * 2 ^ k := by rw [gU]; omega
 have h2 : (BitVec.ofInt 64 (b : Int)).toNat = b := by rw [gU]; omega
 rw [BitVec.toNat_or, h1, h2, Nat.mul_comm a, ← Nat.two_pow_add_eq_or_of_lt hb, Nat.mul_comm]
 exact kI _ (by omega)
theorem aPc (a : Int) (b : Int) (hb : 0 ≤ b) : a.fdiv b = a / b := Int.fdiv_eq_ediv_of_nonneg a hb
theorem jD (k : IntKind) (a b : Int) (h : Hp) : aD .eql (.i k a) (.i k b) h = some (.b (a == b), h) := by simp only [aD, if_true, gK]
theorem sD (k : IntKind) (a b : Int) (h : Hp) : aD .neq (.i k a) (.i k b) h = some (.b (a != b), h) := by simp only [aD, if_true, gK]
theorem jM (k : IntKind) (a b : Int) (h : Hp) : aD .lss (.i k a) (.i k b) h = some (.b (decide (a < b)), h) := by simp only [aD, if_true, gK]
theorem dHv (k : IntKind) (a b : Int) (h : Hp) : aD .leq (.i k a) (.i k b) h = some (.b (decide (a ≤ b)), h) := by simp only [aD, if_true, gK]
theorem aCq (k : IntKind) (a b : Int) (h : Hp) : aD .gtr (.i k a) (.i k b) h = some (.b (decide (a > b)), h) := by simp only [aD, if_true, gK]
theorem aCj (k : IntKind) (a b : Int) (h : Hp) : aD .geq (.i k a) (.i k b) h = some (.b (decide (a ≥ b)), h) := by simp only [aD, if_true, gK]
theorem sC (a b : Int) (h : Hp) (hr : -9223372036854775808 ≤ a + b ∧ a + b ≤ 9223372036854775807) : aD .add (.i .i64 a) (.i .i64 b) h = some (.i .i64 (a + b), h) := by simp only [aD, if_true, gK, kI _ hr]
theorem dTn (a b : Int) (h : Hp) (hr : -9223372036854775808 ≤ a - b ∧ a - b ≤ 9223372036854775807) : aD .sub (.i .i64 a) (.i .i64 b) h = some (.i .i64 (a - b), h) := by simp only [aD, if_true, gK, kI _ hr]
theorem bEw (w : Int) (h : Hp) : aD .and (.i .i64 w) (.i .i64 (Int.ofNat 1)) h = some (.i .i64 (w % 2), h) := by
 have : gK .and .i64 w (Int.ofNat 1) = some (.i .i64 (w % 2)) := by
  rw [← eHn w]; rfl
 simp only [aD, if_true, this]
theorem dDr (w : Int) (h : Hp) : aD .and (.i .i64 w) (.i .i64 (Int.ofNat 3)) h = some (.i .i64 (w % 4), h) := by
 have : gK .and .i64 w (Int.ofNat 3) = some (.i .i64 (w % 4)) := by
  rw [← eMo w]; rfl
 simp only [aD, if_true, this]
theorem uB (w : Int) (h : Hp) : dL .shr (.i .i64 w) (.i .u64 (Int.ofNat 1)) h = some (.i .i64 (w / 2), h) := by
 have : w.fdiv (2 ^ (min (Int.ofNat 1).toNat IntKind.i64.bits)) = w / 2 := aPc w (2 ^ 1) (by decide)
 simp only [dL, show ¬ ((Int.ofNat 1) < 0) by decide, if_false, this]
theorem dAu (w : Int) (h : Hp) : dL .shr (.i .i64 w) (.i .u64 (Int.ofNat 2)) h = some (.i .i64 (w / 4), h) := by
 have : w.fdiv (2 ^ (min (Int.ofNat 2).toNat IntKind.i64.bits)) = w / 4 := aPc w (2 ^ 2) (by decide)
 simp only [dL, show ¬ ((Int.ofNat 2) < 0) by decide, if_false, this]
theorem bHf (w : Int) (h : Hp) (hr : -4611686018427387904 ≤ w ∧ w ≤ 4611686018427387903) : dL .shl (.i .i64 w) (.i .u64 (Int.ofNat 1)) h = some (.i .i64 (2 * w), h) := by
 have : IntKind.i64.wrap (w * 2 ^ (min (Int.ofNat 1).toNat IntKind.i64.bits)) = 2 * w := by
  rw [show w * 2 ^ (min (Int.ofNat 1).toNat IntKind.i64.bits) = 2 * w from Int.mul_comm w 2]
  exact kI _ (by omega)
 simp only [dL, show ¬ ((Int.ofNat 1) < 0) by decide, if_false, this]
theorem dDt (w : Int) (h : Hp) (hr : -2305843009213693952 ≤ w ∧ w ≤ 2305843009213693951) : dL .shl (.i .i64 w) (.i .u64 (Int.ofNat 2)) h = some (.i .i64 (4 * w), h) := by
 have : IntKind.i64.wrap (w * 2 ^ (min (Int.ofNat 2).toNat IntKind.i64.bits)) = 4 * w := by
  rw [show w * 2 ^ (min (Int.ofNat 2).toNat IntKind.i64.bits) = 4 * w from Int.mul_comm w 4]
  exact kI _ (by omega)
 simp only [dL, show ¬ ((Int.ofNat 2) < 0) by decide, if_false, this]
theorem bZe (r : aH) (h : Hp) : gD (.b true) true r h = r := Eq.trans rfl rfl
theorem nW (r : aH) (h : Hp) : gD (.b false) false r h = r := Eq.trans rfl rfl
theorem jH (r : aH) (h : Hp) : gD (.b true) false r h = some (aY, h) := Eq.trans rfl rfl
theorem bEv (r : aH) (h : Hp) : gD (.b false) true r h = some (aY, h) := Eq.trans rfl rfl
theorem bO (v : DV) (h : Hp) (k : DV → Hp → aH) : bnd (some (v, h)) k = k v h := Eq.trans rfl rfl
theorem eM (x y : DV) (h : Hp) : aN (.b true) x y h = some (x, h) := Eq.trans rfl rfl
theorem eP (x y : DV) (h : Hp) : aN (.b false) x y h = some (y, h) := Eq.trans rfl rfl
theorem tJ (b : Bool) (h : Hp) : gP .not (.b b) h = some (.b (!b), h) := Eq.trans rfl rfl
theorem fM (a b : aH) : aU (.b true) a b = a := Eq.trans rfl rfl
theorem fP (a b : aH) : aU (.b false) a b = b := Eq.trans rfl rfl
theorem g0 (a : DV) (l : List DV) : (a :: l).getD 0 aY = a := Eq.trans rfl rfl
theorem g1 (a b : DV) (l : List DV) : (a :: b :: l).getD 1 aY = b := Eq.trans rfl rfl
theorem g2 (a b c : DV) (l : List DV) : (a :: b :: c :: l).getD 2 aY = c := Eq.trans rfl rfl
theorem g3 (a b c d : DV) (l : List DV) : (a :: b :: c :: d :: l).getD 3 aY = d := Eq.trans rfl rfl
theorem bDc (n : Nat) (a b c : Int) (h : Hp) : fV CF1 (n + 1) 108 [.i .i64 a, .i .i64 b, .i .i64 c] h = some (.b (decide (b ≤ a ∧ a ≤ c)), h) := by
 rw [cE 108 rfl, dPv]
 simp only [dKy, g0, g1, g2, aCj, bO]
 by_cases h1 : b ≤ a
 ·simp only [ge_iff_le, h1, decide_true, bZe, bO, dHv, eM, true_and]
 ·simp only [ge_iff_le, h1, decide_false, bEv, bO, eP, false_and]
theorem dHb (n : Nat) (w : Int) (h : Hp) : fV CF1 (n + 2) 54 [.i .i64 w] h = some (.b (iK w), h) := by
 rw [cE 54 rfl, eEe]
 simp only [t54, g0, bEw, bO, jD, aQy]
 by_cases h1 : w % 2 = 1
 ·have e : (w % 2 == Int.ofNat 1) = true := by simpa using h1
  rw [e]
  simp only [bZe, bO, uB, bDc, eM, h1, true_and]
  rfl
 ·have e : (w % 2 == Int.ofNat 1) = false := by simpa using h1
  rw [e]
  simp only [bEv, bO, eP, h1, false_and, decide_false]
theorem dYe (n : Nat) (w : Int) (h : Hp) : fV CF1 (n + 2) 63 [.i .i64 w] h = some (.b (!(Nat.beq (jN w) 0)), h) := by
 rw [cE 63 rfl, eBk]
 simp only [t63, g0, bEw, bO, jD, qK]
 have hp := (aOo w).1
 by_cases h1 : w % 2 = 0
 ·have e : (w % 2 == Int.ofNat 0) = true := by simpa using h1
  rw [e]
  simp only [bZe, bO, uB, bDc, eM]
  by_cases h2 : jN w = 0
  ·have : ¬ (Int.ofNat 3 ≤ w / 2 ∧ w / 2 ≤ Int.ofNat 131072) := fun h => (hp.2 ⟨h1, h⟩) h2
   simp only [h2, this, decide_true, Bool.not_true, decide_false]
  ·have : Int.ofNat 3 ≤ w / 2 ∧ w / 2 ≤ Int.ofNat 131072 := (hp.1 h2).2
   simp only [h2, this, decide_false, Bool.not_false, and_self, decide_true]
 ·have h2 : jN w = 0 := by
   by_cases h2 : jN w = 0
   ·exact h2
   ·exact absurd (hp.1 h2).1 h1
  have e : (w % 2 == Int.ofNat 0) = false := by simpa using h1
  rw [e]
  simp only [bEv, bO, eP, h2, decide_true, Bool.not_true]
theorem eCj (n : Nat) (w : Int) (h : Hp) : fV CF1 (n + 3) 64 [.i .i64 w] h = some (.i .i64 (jN w), h) := by
 rw [cE 64 rfl, eCx]
 simp only [t64, g0, dYe, bO, tJ, qK]
 by_cases h2 : jN w = 0
 ·simp only [h2, decide_true, Bool.not_true, Bool.not_false, fM]; rfl
 ·have hp := (aOo w).2.1 h2
  simp only [h2, decide_false, Bool.not_false, Bool.not_true, fP, uB, bO, hp]
theorem dXt (n : Nat) (w : Int) (h : Hp) : fV CF1 (n + 2) 60 [.i .i64 w] h = some (if -1073741824 ≤ w ∧ w ≤ 1073741823 then .t [.i .i64 (2 * w + 1), .b true] else .t [.i .i64 0, .b false], h) := by
 rw [cE 60 rfl, eEo]
 simp only [t60, g0, bDc, bO, tJ]
 by_cases h1 : -1073741824 ≤ w ∧ w ≤ 1073741823
 ·have h1' : Int.negSucc 1073741823 ≤ w ∧ w ≤ Int.ofNat 1073741823 := h1
  rw [if_pos h1]
  simp only [h1', decide_true, and_self, fP, Bool.not_true]
  rw [bHf w h (by omega)]
  have hb : gK .or .i64 (2 * w) (Int.ofNat 1) = some (.i .i64 (2 * w + 1)) := by
   have : IntKind.i64.wrap (((BitVec.ofInt 64 (2 * w) ||| BitVec.ofInt 64 (Int.ofNat 1)).toNat : Nat) : Int) = 2 * w + 1 := by
    rw [BitVec.toNat_or, gU, gU]
    rw [show ((Int.ofNat 1) % 18446744073709551616).toNat = 1 from rfl]
    obtain ⟨q, hq⟩ : ∃ q : Nat, ((2 * w) % 18446744073709551616).toNat = 2 ^ 1 * q := ⟨((2 * w) % 18446744073709551616).toNat / 2, by omega⟩
    rw [hq, ← Nat.two_pow_add_eq_or_of_lt (show 1 < 2 ^ 1 by omega)]
    rw [← hq]
    simp [IntKind.wrap, IntKind.signed, IntKind.bits, Int.bmod]
    omega
   rw [← this]; rfl
  simp only [bO, aD, if_true, hb]
 ·have h1' : ¬ (Int.negSucc 1073741823 ≤ w ∧ w ≤ Int.ofNat 1073741823) := h1
  rw [if_neg h1]
  simp only [h1', decide_false, fM, Bool.not_false]
  rfl
theorem eLl (n : Nat) (w : Int) (h : Hp) : fV CF1 (n + 3) 62 [.i .i64 w] h = some (if iK w then .i .i64 (w / 2) else .i .i64 0, h) := by
 rw [cE 62 rfl, dXx]
 simp only [t62, g0, dHb, bO, tJ]
 cases iK w with
 | false => rfl
 | true => simp only [Bool.not_true, fP, uB, bO, if_true]
theorem eKr (n : Nat) (a : Int) (h : Hp) : fV CF1 (n + 2) 75 [.i .i64 a] h = some (if 3 ≤ a ∧ a ≤ 131072 then .t [.i .i64 (2 * a), .b true] else .t [.i .i64 0, .b false], h) := by
 rw [cE 75 rfl, eAd]
 simp only [t75, g0, bDc, bO, tJ]
 by_cases h1 : 3 ≤ a ∧ a ≤ 131072
 ·have h1' : Int.ofNat 3 ≤ a ∧ a ≤ Int.ofNat 131072 := h1
  rw [if_pos h1]
  simp only [h1', decide_true, and_self, fP, Bool.not_true]
  rw [bHf a h (by omega)]
  rfl
 ·have h1' : ¬ (Int.ofNat 3 ≤ a ∧ a ≤ Int.ofNat 131072) := h1
  rw [if_neg h1]
  simp only [h1', decide_false, fM, Bool.not_false]
  rfl
end Go.Dd

namespace Go.Dd
structure ML (m : Pos) (M : MemV) (h : Hp) : Prop where
 row : h.bl.get m = some (.row .ex [.l M.wb 0 M.n M.n, .i .i64 (Int.ofNat M.fin), .i .i64 (Int.ofNat M.made), .m M.pb])
 words : h.bl.get M.wb = some (.row .ex (iH M.n M.t))
 places : ∃ es, h.bl.get M.pb = some (.mp es) ∧ ∀ a : Int, iJ (.int .i64) (.i .i64 a) es = some (if 0 ≤ a ∧ M.pl.get a.toNat ≠ 0 then some (.b true) else none)
 n_lt : M.n < 1000000
 fin_le : M.fin ≤ M.n
 made_lt : M.made < 2000000
 d1 : m ≠ M.wb
 d2 : m ≠ M.pb
 d3 : M.wb ≠ M.pb
theorem sI {m : Pos} {M : MemV} {h : Hp} (hm : qJ m h = some M) :
  h.bl.get m = some (.row .ex [.l M.wb 0 M.n M.n, .i .i64 (Int.ofNat M.fin), .i .i64 (Int.ofNat M.made), .m M.pb]) ∧ h.bl.get M.wb = some (.big M.n M.t) ∧ h.bl.get M.pb = some (.mi M.pl) ∧ M.n < 1000000 ∧ M.fin ≤ M.n ∧ M.made < 1000000 := by
 unfold qJ at hm
 split at hm <;> (try (cases hm; done))
 rename_i wb n c fin made pb hr
 split at hm <;> (try (cases hm; done))
 rename_i n' t pl h1 h2
 cases hb : (Nat.beq n n' && Nat.beq n c) with
 | false => rw [hb] at hm; cases hm
 | true =>
  rw [hb] at hm
  simp only [cond_true] at hm
  cases hc : (Nat.blt n 1000000 && (Nat.ble fin n && Nat.blt made 1000000)) with
  | false => rw [hc] at hm; cases hm
  | true =>
   rw [hc] at hm
   simp only [cond_true, bD] at hm
   subst hm
   simp only [qK, aXv, zF, Bool.and_eq_true, decide_eq_true_eq] at hb hc
   obtain ⟨rfl, rfl⟩ := hb
   exact ⟨hr, h1, h2, hc.1, hc.2.1, hc.2.2⟩
theorem fL {m : Pos} {M : MemV} {h h' : Hp} (hm : qJ m h = some M) (S : Sim false h h') : ML m M h' := by
 obtain ⟨h1, h2, h3, h4, h5, h6⟩ := sI hm
 refine ⟨S.row h1, ?_, ?_, h4, h5, by omega, fun e => by (rw [e, h2] at h1; cases h1), fun e => by (rw [e, h3] at h1; cases h1), fun e => by (rw [e, h3] at h2; cases h2)⟩
 ·obtain ⟨o', e1, e2⟩ := S.get _ _ h2
  have e2' : o' = .row .ex (iH M.n M.t) := by simpa [aF, tR] using e2
  rw [e1, e2']
 ·obtain ⟨o', e1, e2⟩ := S.get _ _ h3
  have e2' : ∃ es, o' = .mp es ∧ ∀ a : Int, iJ (.int .i64) (.i .i64 a) es = some (if 0 ≤ a ∧ M.pl.get a.toNat ≠ 0 then some (.b true) else none) := by simpa [aF, tR] using e2
  obtain ⟨es, rfl, e3⟩ := e2'
  exact ⟨es, e1, e3⟩
section
variable {m : Pos} {M : MemV} {h : Hp}
theorem iC (b : Pos) (o : Nat) (h : Hp) : aX (.p b o) h = some (.p b o, h) := Eq.trans rfl rfl
theorem dZ (k : Nat) (b : Pos) (o : Nat) (h : Hp) : aB k (.p b o) h = some (.p b (o + k), h) := Eq.trans rfl rfl
theorem ML.l0 (H : ML m M h) : aA (.p m (0 + 0)) h = some (.l M.wb 0 M.n M.n, h) := by
 simp [aA, cellD, rowOf, H.row, DV.one]
theorem ML.l1 (H : ML m M h) : aA (.p m (0 + 1)) h = some (.i .i64 (Int.ofNat M.fin), h) := by
 simp [aA, cellD, rowOf, H.row, DV.one]
theorem ML.l2 (H : ML m M h) : aA (.p m (0 + 2)) h = some (.i .i64 (Int.ofNat M.made), h) := by
 simp [aA, cellD, rowOf, H.row, DV.one]
theorem ML.l3 (H : ML m M h) : aA (.p m (0 + 3)) h = some (.m M.pb, h) := by
 simp [aA, cellD, rowOf, H.row, DV.one]
theorem lH {n : Nat} {t : WT} {i : Nat} (h : i < n) : (iH n t)[i]? = some (.i .i64 (t.get i)) := by
 simp [iH, h]
theorem ML.ix (H : ML m M h) {a : Nat} (ha : a < M.n) : aC 1 (.l M.wb 0 M.n M.n) (.i .i64 (a : Int)) h = some (.p M.wb a, h) := by
 have : (0 : Int) ≤ (a : Int) ∧ (a : Int) < (M.n : Int) := by omega
 simp [aC, this]
theorem ML.ld (H : ML m M h) {a : Nat} (ha : a < M.n) : aA (.p M.wb a) h = some (.i .i64 (M.t.get a), h) := by
 simp [aA, cellD, rowOf, H.words, lH ha, DV.one]
theorem bRy (o : Int) (pl : WT) : gN o pl = 0 ∨ (gN o pl = jN o ∧ jN o ≠ 0) := by
 unfold gN
 by_cases h0 : jN o = 0
 ·simp [h0, qK]
 ·simp only [qK, h0, decide_false, cond_false]
  split
  ·exact .inl rfl
  ·exact .inr ⟨rfl, h0⟩
theorem atN_pos {o : Int} {pl : WT} : (gN o pl ≠ 0) ↔ (jN o ≠ 0 ∧ pl.get (jN o) ≠ 0) := by
 unfold gN
 by_cases h0 : jN o = 0
 ·simp [h0, qK]
 ·simp only [qK, h0, decide_false, cond_false]
  split
  ·rename_i e; simp [e]
  ·rename_i e
   refine ⟨fun _ => ⟨h0, fun e' => e (by rw [e']; rfl)⟩, fun _ => h0⟩
theorem ML.lookup (H : ML m M h) (a : Nat) : gG (.int .i64) (.b false) false (.m M.pb) (.i .i64 (a : Int)) h = some (.b (decide (M.pl.get a ≠ 0)), h) := by
 obtain ⟨es, h1, h2⟩ := H.places
 have := h2 a
 simp only [Int.toNat_natCast] at this
 simp only [gG, jS, h1, this]
 by_cases hc : M.pl.get a = 0
 ·simp [hc]
 ·simp [hc]
theorem lP {r : aH} {v : DV} {h : Hp} (hr : r = some (v, h)) (hv : DV.beq v v = true) : bR r v = true := by
 rw [hr]; exact hv
theorem dXa (b : Pos) : DV.beq (.m b) (.m b) = true := by simp [DV.beq]
theorem bUr (b : Pos) (o n c : Nat) : DV.beq (.l b o n c) (.l b o n c) = true := by simp [DV.beq]
theorem dBs (H : ML m M h) (n : Nat) (w : Int) : fV CF1 (n + 4) 21 [.p m 0, .i .i64 w] h = some (.b (!(Nat.beq (gN w M.pl) 0)), h) := by
 rw [cE 21 rfl, dXc]
 simp only [t21, g0, g1, dYe, bO, qK]
 by_cases h0 : jN w = 0
 ·have : gN w M.pl = 0 := by
   rcases bRy w M.pl with e | ⟨e, e'⟩
   ·exact e
   ·exact absurd h0 e'
  simp only [h0, decide_true, Bool.not_true, bEv, bO, this]
  simp [bR, aY, DV.beq, eNk, cnd, bnd, aN]
 ·simp only [h0, decide_false, Bool.not_false, bZe, bO, iC, dZ, H.l3, eCj]
  rw [lP rfl (dXa _), Bool.and_self]
  simp only [cnd, H.lookup, bO, eM]
  by_cases h1 : M.pl.get (jN w) = 0
  ·have : gN w M.pl = 0 := by
    by_cases e : gN w M.pl = 0
    ·exact e
    ·exact absurd h1 (atN_pos.1 e).2
   simp [h1, this]
  ·have : gN w M.pl ≠ 0 := atN_pos.2 ⟨h0, h1⟩
   simp [h1, this]
theorem eIh (H : ML m M h) (n : Nat) : fV CF1 (n + 1) 22 [.p m 0] h = some (.i .i64 (Int.ofNat M.n), h) := by
 rw [cE 22 rfl, dZm]
 simp only [t22, g0, bO, iC, dZ, H.l0]
 rfl
theorem dVl (H : ML m M h) (n : Nat) : fV CF1 (n + 1) 29 [.p m 0] h = some (.i .i64 (Int.ofNat (M.n - M.fin)), h) := by
 rw [cE 29 rfl, eBv]
 have h1 := H.n_lt
 have h2 := H.fin_le
 have e : bJ (.l M.wb 0 M.n M.n) h = some (.i .i64 (M.n : Int), h) := rfl
 simp only [t29, g0, bO, iC, dZ, H.l0, H.l1, e]
 rw [dTn _ _ _ (by simp only [Int.ofNat_eq_natCast]; omega)]
 simp only [bO]
 congr 3
 simp only [Int.ofNat_eq_natCast]
 omega
theorem eGa (H : ML m M h) (n : Nat) (w : Int) : fV CF1 (n + 5) 20 [.p m 0, .i .i64 w] h = some (.b (aLj w M.pl), h) := by
 rw [cE 20 rfl, eBg]
 have hm : aLj w M.pl = (decide (w = 0) || (decide (w = 2) || (decide (w = 4) || (iK w || !(Nat.beq (gN w M.pl) 0))))) := by
  unfold aLj
  split
  ·simp
  ·simp
  ·simp
  ·rename_i h1 h2 h3
   have e1 : w ≠ 0 := fun e => h1 (by rw [e]; rfl)
   have e2 : w ≠ 2 := fun e => h2 (by rw [e]; rfl)
   have e3 : w ≠ 4 := fun e => h3 (by rw [e]; rfl)
   simp [e1, e2, e3]
 rw [hm]
 simp only [t20, g0, g1, jD, bO]
 have b0 : (w == Int.ofNat 0) = decide (w = 0) := rfl
 have b2 : (w == Int.ofNat 2) = decide (w = 2) := rfl
 have b4 : (w == Int.ofNat 4) = decide (w = 4) := rfl
 rw [b0]
 cases decide (w = 0) with
 | true => simp only [jH, bO, eM, Bool.true_or]
 | false =>
  simp only [nW, bO, jD, eP, b2, Bool.false_or]
  cases decide (w = 2) with
  | true => simp only [jH, bO, eM, Bool.true_or]
  | false =>
   simp only [nW, bO, jD, eP, b4, Bool.false_or]
   cases decide (w = 4) with
   | true => simp only [jH, bO, eM, Bool.true_or]
   | false =>
    simp only [nW, bO, dHb, eP, Bool.false_or]
    cases iK w with
    | true => simp only [jH, bO, eM, Bool.true_or]
    | false => simp only [nW, bO, dBs H, eP, Bool.false_or]
theorem eEk (H : ML m M h) (n : Nat) (w : Int) : fV CF1 (n + 5) 74 [.p m 0, .i .i64 w] h = some (.b (aBb w M.pl), h) := by
 rw [cE 74 rfl, dWi]
 have hm : aBb w M.pl = (decide (w = 0) || !(Nat.beq (gN w M.pl) 0)) := by
  unfold aBb
  split
  ·simp
  ·rename_i h1
   have e1 : w ≠ 0 := fun e => h1 (by rw [e]; rfl)
   simp [e1]
 rw [hm]
 have b0 : (w == Int.ofNat 0) = decide (w = 0) := rfl
 simp only [t74, g0, g1, jD, bO, b0]
 cases decide (w = 0) with
 | true => simp only [jH, bO, eM, Bool.true_or]
 | false => simp only [nW, bO, dBs H, eP, Bool.false_or]
theorem sT (H : ML m M h) (n : Nat) (w : Int) : fV CF1 (n + 5) 105 [.p m 0, .i .i64 w] h = some (.i .i64 (gN w M.pl), h) := by
 rw [cE 105 rfl, dHg]
 simp only [dKe, g0, g1, dBs H, bO, tJ, qK]
 rcases bRy w M.pl with e | ⟨e, e'⟩
 ·simp only [e, decide_true, Bool.not_true, Bool.not_false, fM]; rfl
 ·simp only [e, e', decide_false, Bool.not_false, Bool.not_true, fP, eCj, bO]
theorem uG {o : Int} {k : Nat → aH} {r : DV × Hp} (hh : mG M o k = some r) : gN o M.pl + 1 < M.n ∧ ∃ hd, M.t.get (gN o M.pl) = Int.ofNat hd ∧ hd < 1000000000000 ∧ k hd = some r := by
 unfold mG at hh
 cases hb : Nat.blt (Nat.add (gN o M.pl) 1) M.n with
 | false => rw [hb] at hh; cases hh
 | true =>
  rw [hb] at hh
  simp only [cond_true] at hh
  simp only [zF, decide_eq_true_eq] at hb
  split at hh <;> (try (cases hh; done))
  rename_i hd he
  cases hc : Nat.blt hd 1000000000000 with
  | false => rw [hc] at hh; cases hh
  | true =>
   rw [hc] at hh
   simp only [zF, decide_eq_true_eq] at hc
   exact ⟨hb, hd, he, hc, hh⟩
theorem eIs (H : ML m M h) (n : Nat) (o : Int) (ho : gN o M.pl + 1 < M.n) : fV CF1 (n + 6) 50 [.p m 0, .i .i64 o] h = some (.i .i64 (M.t.get (gN o M.pl + 1)), h) := by
 rw [cE 50 rfl, eBm]
 have hn := H.n_lt
 simp only [t50, g0, g1, bO, iC, dZ, H.l0, sT H]
 rw [lP rfl (bUr _ _ _ _), Bool.and_self]
 simp only [cnd]
 rw [sC _ _ _ (by simp only [Int.ofNat_eq_natCast]; omega)]
 have e : (gN o M.pl : Int) + Int.ofNat 1 = ((gN o M.pl + 1 : Nat) : Int) := by simp
 simp only [bO, e, H.ix ho, H.ld ho]
theorem dVh (H : ML m M h) (n : Nat) (o : Int) (ho : gN o M.pl < M.n) : fV CF1 (n + 6) 51 [.p m 0, .i .i64 o] h = some (.i .i64 (M.t.get (gN o M.pl) % 4), h) := by
 rw [cE 51 rfl, dWw]
 simp only [t51, g0, g1, bO, iC, dZ, H.l0, sT H]
 rw [lP rfl (bUr _ _ _ _), Bool.and_self]
 simp only [cnd, bO, H.ix ho, H.ld ho, dDr]
theorem eDq (H : ML m M h) (n : Nat) (o : Int) (ho : gN o M.pl < M.n) : fV CF1 (n + 6) 52 [.p m 0, .i .i64 o] h = some (.i .i64 (M.t.get (gN o M.pl) / 4), h) := by
 rw [cE 52 rfl, eBc]
 simp only [t52, g0, g1, bO, iC, dZ, H.l0, sT H]
 rw [lP rfl (bUr _ _ _ _), Bool.and_self]
 simp only [cnd, bO, H.ix ho, H.ld ho, dAu]
end
end Go.Dd

namespace Go.Dd
section
variable {m : Pos} {M : MemV} {h : Hp}
theorem bQu (H : ML m M h) {o i : Int} {bad : Nat → aH} {k : Nat → Nat → aH} {r : DV × Hp} (hf : kZ M o i bad k = some r) :
  (∃ e : Nat, e ≠ 0 ∧ bad e = some r ∧ ∀ n, fV CF1 (n + 7) 107 [.p m 0, .i .i64 o, .i .i64 i] h = some (.t [.i .i64 (Int.ofNat 0), .i .i64 (Int.ofNat e)], h)) ∨
  (∃ hd a : Nat, gN o M.pl ≠ 0 ∧ a < M.n ∧ gN o M.pl + 1 < M.n ∧ M.t.get (gN o M.pl) = Int.ofNat hd ∧ k hd a = some r ∧ ∀ n, fV CF1 (n + 7) 107 [.p m 0, .i .i64 o, .i .i64 i] h = some (.t [.i .i64 (a : Int), .i .i64 (Int.ofNat 0)], h)) := by
 have hn := H.n_lt
 unfold kZ at hf
 rw [qK] at hf
 by_cases h0 : gN o M.pl = 0
 ·simp only [h0, decide_true, cond_true] at hf
  refine .inl ⟨1, by omega, hf, fun n => ?_⟩
  rw [cE 107 rfl, aJx]
  simp only [bKa, g0, g1, g2, sT H, bO, jD, h0]
  rfl
 ·simp only [h0, decide_false, cond_false] at hf
  have e0 : ((gN o M.pl : Int) == Int.ofNat 0) = false := by simpa using h0
  cases i with
  | negSucc i =>
   refine .inl ⟨5, by omega, hf, fun n => ?_⟩
   rw [cE 107 rfl, aJx]
   have hlt : decide (Int.negSucc i < Int.ofNat 0) = true := decide_eq_true (Int.negSucc_lt_zero i)
   simp only [bKa, g0, g1, g2, sT H, bO, jD, e0, fP, jM, hlt, jH, eM, fM]
  | ofNat i =>
   dsimp only at hf
   obtain ⟨h1, hd, h2, h3, h4⟩ := uG hf
   rw [aXv] at h4
   have hlt : decide (Int.ofNat i < Int.ofNat 0) = false := by simp
   have h52 := fun n => eDq H n o (show gN o M.pl < M.n by omega)
   rw [h2] at h52
   by_cases hi : Nat.div hd 4 ≤ i
   ·simp only [hi, decide_true, cond_true] at h4
    refine .inl ⟨5, by omega, h4, fun n => ?_⟩
    rw [cE 107 rfl, aJx]
    have hge : decide (Int.ofNat i ≥ Int.ofNat hd / 4) = true := by
     have : hd / 4 ≤ i := hi
     simp only [decide_eq_true_eq, Int.ofNat_eq_natCast]
     omega
    simp only [bKa, g0, g1, g2, sT H, bO, jD, e0, fP, jM, hlt, nW, h52, aCj, hge, eP, fM]
   ·simp only [hi, decide_false, cond_false] at h4
    rw [zF] at h4
    by_cases ha : Nat.add (Nat.add (gN o M.pl) 3) i < M.n
    ·simp only [ha, decide_true, cond_true] at h4
     have ha' : gN o M.pl + 3 + i < M.n := ha
     refine .inr ⟨hd, _, h0, ha, h1, h2, h4, fun n => ?_⟩
     rw [cE 107 rfl, aJx]
     have hge : decide (Int.ofNat i ≥ Int.ofNat hd / 4) = false := by
      have : ¬ hd / 4 ≤ i := hi
      simp only [decide_eq_false_iff_not, Int.ofNat_eq_natCast]
      omega
     simp only [bKa, g0, g1, g2, sT H, bO, jD, e0, fP, jM, hlt, nW, h52, aCj, hge, eP]
     rw [sC _ _ _ (by simp only [Int.ofNat_eq_natCast]; omega)]
     simp only [bO]
     rw [sC _ _ _ (by simp only [Int.ofNat_eq_natCast]; omega)]
     simp only [bO]
     congr 4
    ·simp only [ha, decide_false, cond_false] at h4
     cases h4
theorem bVp (a b : DV) (h : Hp) : aE 0 (.t [a, b]) h = some (a, h) := Eq.trans rfl rfl
theorem cLe (a b : DV) (h : Hp) : aE 1 (.t [a, b]) h = some (b, h) := Eq.trans rfl rfl
theorem dFs {e : Nat} (he : e ≠ 0) : (Int.ofNat e != Int.ofNat 0) = true := by
 simpa using he
theorem ML.put (H : ML m M h) {a : Nat} (ha : a < M.n) (w : Int) : aJ 1 (.p M.wb a) (.i .i64 w) h = some (aY, ⟨h.next, Tr.set (.row .ex (iH M.n (M.t.set a w))) M.wb h.bl⟩) := by
 have hput : ∀ (n : Nat) (l : List DV) (x : DV), (∀ v ∈ l, v.one = true) → x.one = true → n < l.length → fT n l [x] = some (l.set n x) := by
  intro n
  induction n with
  | zero =>
   intro l x hl hx hlt
   cases l with
   | nil => simp at hlt
   | cons y l =>
    have hp : nS l [] = some l := by cases l <;> rfl
    simp [fT, nS, hl y (by simp), hx, hp]
  | succ n ih =>
   intro l x hl hx hlt
   cases l with
   | nil => simp at hlt
   | cons y l =>
    simp only [fT, List.set_cons_succ]
    rw [ih l x (fun v hv => hl v (by simp [hv])) hx (by simpa using hlt)]
    rfl
 have hb : ∀ v ∈ iH M.n M.t, v.one = true := by
  intro v hv
  simp only [iH, List.mem_map] at hv
  obtain ⟨i, _, rfl⟩ := hv
  rfl
 have hlen : (iH M.n M.t).length = M.n := by simp [iH]
 have hset : (iH M.n M.t).set a (.i .i64 w) = iH M.n (M.t.set a w) := by
  apply List.ext_getElem?
  intro i
  rw [List.getElem?_set]
  by_cases hi : i < M.n
  ·rw [lH hi, lH hi, WT.get_set M.t a w i (by have := H.n_lt; omega)]
   by_cases e : a = i
   ·subst e
    simp [hlen, hi]
   ·rw [if_neg e, if_neg (by omega)]
  ·have h1 : (iH M.n M.t)[i]? = none := List.getElem?_eq_none (by omega)
   have h2 : (iH M.n (M.t.set a w))[i]? = none := List.getElem?_eq_none (by simp [iH]; omega)
   rw [h2]
   split
   ·rename_i e; subst e; rw [if_neg (by omega)]
   ·exact h1
 simp only [aJ, dR, List.length_singleton, if_true, dF, H.words, Kind.writable]
 rw [hput a _ _ hb rfl (by omega), hset]
theorem eHr (H : ML m M h) {o i : Int} {k : Nat → aH} {kk : Nat → Nat → aH} {r : DV × Hp} (hf : kZ M o i k kk = some r) :
  (∃ e : Nat, k e = some r ∧ ∀ n, fV CF1 (n + 8) 73 [.p m 0, .i .i64 o, .i .i64 i] h = some (.t [.i .i64 (Int.ofNat 0), .i .i64 (Int.ofNat e)], h)) ∨
  (∃ hd a : Nat, kk hd a = some r ∧ ∀ n, fV CF1 (n + 8) 73 [.p m 0, .i .i64 o, .i .i64 i] h = some (.t [.i .i64 (M.t.get a), .i .i64 (Int.ofNat 0)], h)) := by
 rcases bQu H hf with ⟨e, he, h1, h2⟩ | ⟨hd, a, h0, h1, h2, h3, h4, h5⟩
 ·refine .inl ⟨e, h1, fun n => ?_⟩
  rw [cE 73 rfl, dGc]
  simp only [t73, g0, g1, g2, h2, bO, bVp, cLe, sD, dFs he, fM]
 ·refine .inr ⟨hd, a, h4, fun n => ?_⟩
  rw [cE 73 rfl, dGc]
  have e0 : (Int.ofNat 0 != Int.ofNat 0) = false := rfl
  simp only [t73, g0, g1, g2, h5, bO, bVp, cLe, sD, e0, fP, iC, dZ, H.l0, H.ix h1, H.ld h1]
end
theorem eN {args : List DV} {h : Hp} {k : MemV → List DV → aH} {r : DV × Hp} (hr : qD args h k = some r) :
  ∃ m rest M, args = .p m 0 :: rest ∧ qJ m h = some M ∧ k M rest = some r := by
 unfold qD at hr
 split at hr <;> (try (cases hr; done))
 rename_i m rest
 split at hr <;> (try (cases hr; done))
 rename_i M hM
 exact ⟨m, rest, M, rfl, hM, hr⟩
theorem dQm (n : Nat) (args : List DV) : SimP false (isF args) (fV CF1 (n + 12) 21 args) := fun h h' S v k e => by
 obtain ⟨m, rest, M, rfl, hM, e⟩ := eN e
 split at e <;> (try (cases e; done))
 simp only [bD, bM] at e
 obtain ⟨rfl, rfl⟩ := e
 exact ⟨h', dBs (fL hM S) (n + 8) _, S⟩
theorem cUj (n : Nat) (args : List DV) : SimP false (cEq args) (fV CF1 (n + 12) 20 args) := fun h h' S v k e => by
 obtain ⟨m, rest, M, rfl, hM, e⟩ := eN e
 split at e <;> (try (cases e; done))
 simp only [bD, bM] at e
 obtain ⟨rfl, rfl⟩ := e
 exact ⟨h', eGa (fL hM S) (n + 7) _, S⟩
theorem bQb (n : Nat) (args : List DV) : SimP false (aCa args) (fV CF1 (n + 12) 22 args) := fun h h' S v k e => by
 obtain ⟨m, rest, M, rfl, hM, e⟩ := eN e
 split at e <;> (try (cases e; done))
 simp only [bD, bM] at e
 obtain ⟨rfl, rfl⟩ := e
 exact ⟨h', eIh (fL hM S) (n + 11), S⟩
theorem cFd (n : Nat) (args : List DV) : SimP false (bHr args) (fV CF1 (n + 12) 29 args) := fun h h' S v k e => by
 obtain ⟨m, rest, M, rfl, hM, e⟩ := eN e
 split at e <;> (try (cases e; done))
 simp only [bD, bM] at e
 obtain ⟨rfl, rfl⟩ := e
 exact ⟨h', dVl (fL hM S) (n + 11), S⟩
theorem bKb (n : Nat) (args : List DV) : SimP false (nF args) (fV CF1 (n + 12) 50 args) := fun h h' S v k e => by
 obtain ⟨m, rest, M, rfl, hM, e⟩ := eN e
 split at e <;> (try (cases e; done))
 obtain ⟨h1, hd, h2, h3, e⟩ := uG e
 simp only [bD, bM] at e
 obtain ⟨rfl, rfl⟩ := e
 exact ⟨h', eIs (fL hM S) (n + 6) _ h1, S⟩
theorem aUj (n : Nat) (args : List DV) : SimP false (nK args) (fV CF1 (n + 12) 51 args) := fun h h' S v k e => by
 obtain ⟨m, rest, M, rfl, hM, e⟩ := eN e
 split at e <;> (try (cases e; done))
 obtain ⟨h1, hd, h2, h3, e⟩ := uG e
 simp only [bD, bM] at e
 obtain ⟨rfl, rfl⟩ := e
 refine ⟨h', ?_, S⟩
 rw [dVh (fL hM S) (n + 6) _ (by omega), h2]
 rfl
theorem aXq (n : Nat) (args : List DV) : SimP false (lY args) (fV CF1 (n + 12) 52 args) := fun h h' S v k e => by
 obtain ⟨m, rest, M, rfl, hM, e⟩ := eN e
 split at e <;> (try (cases e; done))
 obtain ⟨h1, hd, h2, h3, e⟩ := uG e
 simp only [bD, bM] at e
 obtain ⟨rfl, rfl⟩ := e
 refine ⟨h', ?_, S⟩
 rw [eDq (fL hM S) (n + 6) _ (by omega), h2]
 rfl
theorem cQi (n : Nat) (args : List DV) : SimP false (cGn args) (fV CF1 (n + 12) 73 args) := fun h h' S v k e => by
 obtain ⟨m, rest, M, rfl, hM, e⟩ := eN e
 split at e <;> (try (cases e; done))
 rename_i o i
 rcases eHr (fL hM S) e with ⟨er, e1, e2⟩ | ⟨hd, a, e1, e2⟩
 ·simp only [err, bD, bM] at e1
  obtain ⟨rfl, rfl⟩ := e1
  exact ⟨h', e2 (n + 4), S⟩
 ·simp only [bD, bM] at e1
  obtain ⟨rfl, rfl⟩ := e1
  exact ⟨h', e2 (n + 4), S⟩
theorem aPn (n : Nat) (args : List DV) : SimP false (iZ args) (fV CF1 (n + 12) 54 args) := fun h h' S v k e => by
 unfold iZ at e
 split at e <;> (try (cases e; done))
 simp only [bD, bM] at e
 obtain ⟨rfl, rfl⟩ := e
 exact ⟨h', dHb (n + 10) _ h', S⟩
theorem bKf (n : Nat) (args : List DV) : SimP false (mK args) (fV CF1 (n + 12) 62 args) := fun h h' S v k e => by
 unfold mK at e
 split at e <;> (try (cases e; done))
 rename_i w
 have hc := eLl (n + 9) w h'
 cases hs : iK w with
 | true =>
  rw [hs] at e hc
  simp only [cond_true, bD, bM] at e
  obtain ⟨rfl, rfl⟩ := e
  exact ⟨h', by rw [hc, bKc]; rfl, S⟩
 | false =>
  rw [hs] at e hc
  simp only [cond_false, bD, bM] at e
  obtain ⟨rfl, rfl⟩ := e
  exact ⟨h', by rw [hc]; rfl, S⟩
theorem bJa (n : Nat) (args : List DV) : SimP false (oJ args) (fV CF1 (n + 12) 60 args) := fun h h' S v k e => by
 unfold oJ at e
 split at e <;> (try (cases e; done))
 ·rename_i w
  have hc := dXt (n + 10) (Int.ofNat w) h'
  rw [zF] at e
  by_cases hw : w < 1073741824
  ·simp only [hw, decide_true, cond_true, bD, bM] at e
   obtain ⟨rfl, rfl⟩ := e
   rw [if_pos (by simp only [Int.ofNat_eq_natCast]; omega)] at hc
   refine ⟨h', ?_, S⟩
   rw [hc]
   have : 2 * Int.ofNat w + 1 = Int.ofNat (Nat.succ (Nat.mul w 2)) := by
    have : Nat.mul w 2 = w * 2 := rfl
    rw [this]
    simp only [Int.ofNat_eq_natCast]; omega
   rw [this]
  ·simp only [hw, decide_false, cond_false, bD, bM] at e
   obtain ⟨rfl, rfl⟩ := e
   rw [if_neg (by simp only [Int.ofNat_eq_natCast]; omega)] at hc
   exact ⟨h', by rw [hc]; rfl, S⟩
 ·rename_i w
  have hc := dXt (n + 10) (Int.negSucc w) h'
  rw [zF] at e
  by_cases hw : w < 1073741824
  ·simp only [hw, decide_true, cond_true, bD, bM] at e
   obtain ⟨rfl, rfl⟩ := e
   rw [if_pos (by omega)] at hc
   refine ⟨h', ?_, S⟩
   rw [hc]
   have : 2 * Int.negSucc w + 1 = Int.negSucc (Nat.mul w 2) := by
    have : Nat.mul w 2 = w * 2 := rfl
    rw [this]; omega
   rw [this]
  ·simp only [hw, decide_false, cond_false, bD, bM] at e
   obtain ⟨rfl, rfl⟩ := e
   rw [if_neg (by omega)] at hc
   exact ⟨h', by rw [hc]; rfl, S⟩
end Go.Dd

namespace Go.Dd
def Oth (m wb pb : Pos) (h h1 : Hp) : Prop := h1.next = h.next ∧ ∀ b, b ≠ m → b ≠ wb → b ≠ pb → h1.bl.get b = h.bl.get b
theorem Oth.refl (m wb pb : Pos) (h : Hp) : Oth m wb pb h h := ⟨rfl, fun _ _ _ _ => rfl⟩
theorem Oth.trans {m wb pb : Pos} {a b c : Hp} (h : Oth m wb pb a b) (k : Oth m wb pb b c) : Oth m wb pb a c := ⟨k.1.trans h.1, fun x h1 h2 h3 => (k.2 x h1 h2 h3).trans (h.2 x h1 h2 h3)⟩
section
variable {m : Pos} {M : MemV} {h : Hp}
def bYt (M : MemV) : Ob := .row .ex [.l M.wb 0 M.n M.n, .i .i64 (Int.ofNat M.fin), .i .i64 (Int.ofNat M.made), .m M.pb]
theorem ML.setM (H : ML m M h) (M' : MemV) (e1 : M'.wb = M.wb) (e2 : M'.pb = M.pb) (e3 : M'.n = M.n) (e4 : M'.t = M.t) (e5 : M'.pl = M.pl) (h1 : M'.fin ≤ M.n) (h2 : M'.made < 2000000) :
  ML m M' ⟨h.next, Tr.set (bYt M') m h.bl⟩ ∧ Oth m M.wb M.pb h ⟨h.next, Tr.set (bYt M') m h.bl⟩ := by
 refine ⟨⟨by rw [eMs]; rfl, ?_, ?_, by rw [e3]; exact H.n_lt, by rw [e3]; exact h1, h2, by rw [e1]; exact H.d1, by rw [e2]; exact H.d2, by rw [e1, e2]; exact H.d3⟩, rfl, fun b h1 _ _ => eMr _ _ _ _ h1⟩
 ·rw [e1, e3, e4, eMr _ _ _ _ (Ne.symm H.d1)]; exact H.words
 ·rw [e2, e5, eMr _ _ _ _ (Ne.symm H.d2)]; exact H.places
theorem ML.st1 (H : ML m M h) {x : Nat} (hx : x ≤ M.n) : ∃ h1, aJ 1 (.p m (0 + 1)) (.i .i64 (Int.ofNat x)) h = some (aY, h1) ∧ ML m { M with fin := x } h1 ∧ Oth m M.wb M.pb h h1 := by
 obtain ⟨a, b⟩ := H.setM { M with fin := x } rfl rfl rfl rfl rfl hx H.made_lt
 exact ⟨_, by simp [aJ, dR, dF, H.row, Kind.writable, fT, nS, DV.one, bYt], a, b⟩
theorem ML.st2 (H : ML m M h) {x : Nat} (hx : x < 2000000) : ∃ h1, aJ 1 (.p m (0 + 2)) (.i .i64 (Int.ofNat x)) h = some (aY, h1) ∧ ML m { M with made := x } h1 ∧ Oth m M.wb M.pb h h1 := by
 obtain ⟨a, b⟩ := H.setM { M with made := x } rfl rfl rfl rfl rfl H.fin_le hx
 exact ⟨_, by simp [aJ, dR, dF, H.row, Kind.writable, fT, nS, DV.one, bYt], a, b⟩
theorem ML.setW (H : ML m M h) (t : WT) : ML m { M with t := t } ⟨h.next, Tr.set (.row .ex (iH M.n t)) M.wb h.bl⟩ ∧ Oth m M.wb M.pb h ⟨h.next, Tr.set (.row .ex (iH M.n t)) M.wb h.bl⟩ := by
 refine ⟨⟨?_, by rw [eMs], ?_, H.n_lt, H.fin_le, H.made_lt, H.d1, H.d2, H.d3⟩, rfl, fun b _ h1 _ => eMr _ _ _ _ h1⟩
 ·rw [eMr _ _ _ _ H.d1]; exact H.row
 ·rw [eMr _ _ _ _ (Ne.symm H.d3)]; exact H.places
theorem ML.put' (H : ML m M h) {a : Nat} (ha : a < M.n) (w : Int) : ∃ h1, aJ 1 (.p M.wb a) (.i .i64 w) h = some (aY, h1) ∧ ML m { M with t := M.t.set a w } h1 ∧ Oth m M.wb M.pb h h1 :=
 ⟨_, H.put ha w, (H.setW _).1, (H.setW _).2⟩
theorem bMv {a : Int} {es : List (DV × DV)} : ∀ (b : Int) {r r' : Option DV}, iJ (.int .i64) (.i .i64 a) es = some r → iJ (.int .i64) (.i .i64 b) es = some r' →
  iJ (.int .i64) (.i .i64 b) (rP (.int .i64) (.i .i64 a) (.b true) es) = some (if b = a then some (.b true) else r') := by
 induction es with
 | nil =>
  intro b r r' h1 h2
  simp only [iJ, bD] at h2
  subst h2
  simp only [rP, iJ, yV, if_true]
  by_cases e : b = a
  ·simp [e]
  ·have : (b == a) = false := by simpa using e
   simp [e, this]
 | cons e es ih =>
  intro b r r' h1 h2
  simp only [iJ] at h1 h2
  have hk : ∃ c, e.1 = .i .i64 c := by
   obtain ⟨x, y⟩ := e
   cases x <;> simp [yV] at h1
   rename_i k c
   cases k <;> simp at h1
   exact ⟨c, rfl⟩
  obtain ⟨c, hc⟩ := hk
  simp only [hc, yV, if_true] at h1 h2
  simp only [rP, hc, yV, if_true]
  by_cases hac : a = c
  ·subst hac
   simp only [beq_self_eq_true] at h1 ⊢
   simp only [iJ, yV, if_true]
   by_cases hba : b = a
   ·subst hba; simp
   ·have : (b == a) = false := by simpa using hba
    simp only [this] at h2 ⊢
    rw [h2]; simp [hba]
  ·have hac' : (a == c) = false := by simpa using hac
   simp only [hac'] at h1 ⊢
   simp only [iJ, hc, yV, if_true]
   by_cases hbc : b = c
   ·subst hbc
    simp only [beq_self_eq_true, bD] at h2 ⊢
    rw [if_neg (fun e => hac e.symm), h2]
   ·have hbc' : (b == c) = false := by simpa using hbc
    simp only [hbc'] at h2 ⊢
    exact ih b h1 h2
theorem ML.place (H : ML m M h) {a : Nat} (ha : a < 16000000) : ∃ h1, gI (.int .i64) (.m M.pb) (.i .i64 (a : Int)) (.b true) h = some (aY, h1) ∧ ML m { M with pl := M.pl.set a 1 } h1 ∧ Oth m M.wb M.pb h h1 := by
 obtain ⟨es, h1, h2⟩ := H.places
 refine ⟨⟨h.next, Tr.set (.mp (rP (.int .i64) (.i .i64 (a : Int)) (.b true) es)) M.pb h.bl⟩, by simp [gI, h1, h2 a], ⟨?_, ?_, ⟨_, by rw [eMs], fun b => ?_⟩, H.n_lt, H.fin_le, H.made_lt, H.d1, H.d2, H.d3⟩, rfl, fun b _ _ h1 => eMr _ _ _ _ h1⟩
 ·rw [eMr _ _ _ _ H.d2]; exact H.row
 ·rw [eMr _ _ _ _ H.d3]; exact H.words
 ·rw [bMv b (h2 a) (h2 b)]
  congr 1
  by_cases e : b = (a : Int)
  ·subst e
   simp [WT.get_set _ _ _ _ ha]
  ·rw [if_neg e]
   by_cases hb : 0 ≤ b
   ·have : b.toNat ≠ a := by omega
    rw [WT.get_set _ _ _ _ ha, if_neg this]
   ·simp [hb]
theorem cUf {h' h1 : Hp} {M' : MemV} (S : Sim false h h') (hM : qJ m h = some M) (H1 : ML m M' h1) (e1 : M'.wb = M.wb) (e2 : M'.pb = M.pb) (e3 : M'.n = M.n) (O : Oth m M.wb M.pb h' h1) :
  Sim false ⟨h.next, Tr.set (bYt M') m (Tr.set (.mi M'.pl) M.pb (Tr.set (.big M.n M'.t) M.wb h.bl))⟩ h1 := by
 have H := fL hM S
 refine ⟨O.1.trans S.next, fun b o hb => ?_⟩
 by_cases b1 : b = m
 ·subst b1
  simp only [eMs, bD] at hb
  subst hb
  exact ⟨_, H1.row, rfl⟩
 ·simp only [eMr _ _ _ _ b1] at hb
  by_cases b2 : b = M.pb
  ·subst b2
   simp only [eMs, bD] at hb
   subst hb
   obtain ⟨es, p1, p2⟩ := H1.places
   rw [e2] at p1
   exact ⟨_, p1, by simp only [tR]; exact ⟨es, rfl, p2⟩⟩
  ·simp only [eMr _ _ _ _ b2] at hb
   by_cases b3 : b = M.wb
   ·subst b3
    simp only [eMs, bD] at hb
    subst hb
    have := H1.words
    rw [e1, e3] at this
    exact ⟨_, this, by simp [tR]⟩
   ·simp only [eMr _ _ _ _ b3] at hb
    rw [O.2 b b1 b3 b2]
    exact S.get b o hb
theorem bLp {h' h1 : Hp} {t : WT} (S : Sim false h h') (hM : qJ m h = some M) (H1 : ML m { M with t := t } h1) (O : Oth m M.wb M.pb h' h1) (hm : h1.bl.get m = h'.bl.get m) (hp : h1.bl.get M.pb = h'.bl.get M.pb) :
  Sim false ⟨h.next, Tr.set (.big M.n t) M.wb h.bl⟩ h1 := by
 refine ⟨O.1.trans S.next, fun b o hb => ?_⟩
 by_cases b3 : b = M.wb
 ·subst b3
  simp only [eMs, bD] at hb
  subst hb
  exact ⟨_, H1.words, by simp [tR]⟩
 ·simp only [eMr _ _ _ _ b3] at hb
  by_cases b1 : b = m
  ·subst b1; rw [hm]; exact S.get _ o hb
  ·by_cases b2 : b = M.pb
   ·subst b2; rw [hp]; exact S.get _ o hb
   ·rw [O.2 b b1 b3 b2]
    exact S.get b o hb
end
theorem aPj {m : Pos} {M : MemV} {h h' : Hp} (S : Sim false h h') (hM : qJ m h = some M) {a : Nat} (ha : a < M.n) (w : Int) {v : DV} {k : Hp} (hp : rC M a w h = some (v, k)) :
  v = .i .i64 (Int.ofNat 0) ∧ ∃ h1, aJ 1 (.p M.wb a) (.i .i64 w) h' = some (aY, h1) ∧ Sim false k h1 := by
 have H := fL hM S
 simp only [rC, bD, bM] at hp
 obtain ⟨rfl, rfl⟩ := hp
 refine ⟨rfl, _, H.put ha w, bLp S hM (H.setW _).1 (H.setW _).2 ?_ ?_⟩
 ·exact eMr _ _ _ _ H.d1
 ·exact eMr _ _ _ _ (Ne.symm H.d3)
theorem cZt (n : Nat) (args : List DV) : SimP false (aQd args) (fV CF1 (n + 12) 47 args) := fun h h' S v k e => by
 obtain ⟨m, rest, M, rfl, hM, e⟩ := eN e
 split at e <;> (try (cases e; done))
 rename_i o i w _
 have H := fL hM S
 rw [cE 47 rfl, dWq]
 simp only [t47, bAs, g0, g1, g2, g3]
 rcases bQu H e with ⟨er, he, e1, e2⟩ | ⟨hd, a, h0, h1, h2, h3, e1, e2⟩
 ·simp only [bD, bM] at e1
  obtain ⟨rfl, rfl⟩ := e1
  refine ⟨h', ?_, S⟩
  simp only [e2 (n + 4), bO, bVp, cLe, aOg, sD, dFs he, fM]
 ·have e0 : (Int.ofNat 0 != Int.ofNat 0) = false := rfl
  have h51 := dVh H (n + 5) o (show gN o M.pl < M.n by omega)
  rw [h3] at h51
  simp only [e2 (n + 4), bO, bVp, cLe, aOg, sD, e0, fP, bCv, h51, jD]
  have hmod : Int.ofNat hd % 4 = Int.ofNat (Nat.mod hd 4) := rfl
  have h4 : tI (fV CF1 (n + 11)) (n + 11) (.p m 0) (.i .i64 w) (.i .i64 (a : Int)) h' = bnd (aJ 1 (.p M.wb a) (.i .i64 w) h') fun _ h5 => some (.i .i64 (Int.ofNat 0), h5) := by
   simp only [tI, iC, dZ, bO, H.l0, H.ix h1]
  have hput : rC M a w h = some (v, k) → ∃ h1, tI (fV CF1 (n + 11)) (n + 11) (.p m 0) (.i .i64 w) (.i .i64 (a : Int)) h' = some (v, h1) ∧ Sim false k h1 := by
   intro hp
   obtain ⟨rfl, h1', p1, p2⟩ := aPj S hM h1 w hp
   exact ⟨h1', by rw [h4, p1]; rfl, p2⟩
  rw [hmod]
  split at e1
  ·rename_i hz
   rw [hz]
   have : (Int.ofNat 0 == Int.ofNat 0) = true := rfl
   simp only [this, fM, eGa H, bO, tJ]
   cases hmay : aLj w M.pl with
   | true =>
    rw [hmay] at e1
    simp only [cond_true] at e1
    simp only [Bool.not_true, fP]
    exact hput e1
   | false =>
    rw [hmay] at e1
    simp only [cond_false, bD, bM] at e1
    obtain ⟨rfl, rfl⟩ := e1
    exact ⟨h', rfl, S⟩
  ·rename_i hz
   rw [hz]
   have q0 : (Int.ofNat 2 == Int.ofNat 0) = false := rfl
   have q2 : (Int.ofNat 2 == Int.ofNat 2) = true := rfl
   simp only [q0, fP, bO, q2, fM, jM]
   cases w with
   | negSucc c =>
    simp only [bD, bM] at e1
    obtain ⟨rfl, rfl⟩ := e1
    have hlt : decide (Int.negSucc c < Int.ofNat 0) = true := decide_eq_true (Int.negSucc_lt_zero c)
    simp only [hlt, jH, bO, eM, fM]
    exact ⟨h', rfl, S⟩
   | ofNat c =>
    dsimp only at e1
    have hlt : decide (Int.ofNat c < Int.ofNat 0) = false := by simp
    simp only [hlt, nW, bO, eP, aCq]
    rw [aXv] at e1
    by_cases hc : c ≤ 255
    ·simp only [hc, decide_true, cond_true] at e1
     have hgt : decide (Int.ofNat c > Int.ofNat 255) = false := by
      simp only [decide_eq_false_iff_not, Int.ofNat_eq_natCast]; omega
     simp only [hgt, fP]
     exact hput e1
    ·simp only [hc, decide_false, cond_false, bD, bM] at e1
     obtain ⟨rfl, rfl⟩ := e1
     have hgt : decide (Int.ofNat c > Int.ofNat 255) = true := by
      simp only [decide_eq_true_eq, Int.ofNat_eq_natCast]; omega
     simp only [hgt, fM]
     exact ⟨h', rfl, S⟩
  ·rename_i hz0 hz2
   have q0 : (Int.ofNat (Nat.mod hd 4) == Int.ofNat 0) = false := by
    simp only [beq_eq_false_iff_ne, ne_eq, Int.ofNat_eq_natCast]
    intro e; exact hz0 (by exact_mod_cast e)
   have q2 : (Int.ofNat (Nat.mod hd 4) == Int.ofNat 2) = false := by
    simp only [beq_eq_false_iff_ne, ne_eq, Int.ofNat_eq_natCast]
    intro e; exact hz2 (by exact_mod_cast e)
   simp only [q0, fP, bO, q2, fP]
   exact hput e1
theorem aCo (n : Nat) (args : List DV) : SimP false (lD args) (fV CF1 (n + 12) 44 args) := fun h h' S v k e => by
 obtain ⟨m, rest, M, rfl, hM, e⟩ := eN e
 split at e <;> (try (cases e; done))
 rename_i o c _
 have H := fL hM S
 rw [cE 44 rfl, eEw]
 simp only [t44, g0, g1, g2, sT H, bO, jD]
 rw [qK] at e
 by_cases h0 : gN o M.pl = 0
 ·simp only [h0, decide_true, Bool.true_or, cond_true, bD, bM] at e
  obtain ⟨rfl, rfl⟩ := e
  have : ((0 : Nat) : Int) = Int.ofNat 0 := rfl
  have q : (((gN o M.pl : Nat) : Int) == Int.ofNat 0) = true := by rw [h0]; rfl
  simp only [q, jH, bO, eM, fM]
  exact ⟨h', rfl, S⟩
 ·have q : (((gN o M.pl : Nat) : Int) == Int.ofNat 0) = false := by simpa using h0
  simp only [q, nW, bO, eP, eEk H, tJ]
  cases hc : aBb c M.pl with
  | false =>
   rw [hc] at e
   simp only [h0, decide_false, Bool.not_false, Bool.false_or, cond_true, bD, bM] at e
   obtain ⟨rfl, rfl⟩ := e
   simp only [Bool.not_false, fM]
   exact ⟨h', rfl, S⟩
  | true =>
   rw [hc] at e
   simp only [h0, decide_false, Bool.not_true, Bool.false_or, cond_false] at e
   rw [zF] at e
   by_cases ha : Nat.add (gN o M.pl) 1 < M.n
   ·simp only [ha, decide_true, cond_true] at e
    have ha' : gN o M.pl + 1 < M.n := ha
    have hn := H.n_lt
    simp only [Bool.not_true, fP, iC, dZ, bO, H.l0]
    rw [sC _ _ _ (by simp only [Int.ofNat_eq_natCast]; omega)]
    have ee : (gN o M.pl : Int) + Int.ofNat 1 = ((gN o M.pl + 1 : Nat) : Int) := by simp
    obtain ⟨rfl, h1', p1, p2⟩ := aPj S hM ha' c e
    simp only [bO, ee, H.ix ha', p1]
    exact ⟨h1', rfl, p2⟩
   ·simp only [ha, decide_false, cond_false] at e
    cases e
end Go.Dd

namespace Go.Dd
theorem kF (a b : Nat) (h : Hp) (hr : a + b < 4611686018427387904) : aD .add (.i .i64 (Int.ofNat a)) (.i .i64 (Int.ofNat b)) h = some (.i .i64 (Int.ofNat (a + b)), h) := by
 rw [sC _ _ _ (by simp only [Int.ofNat_eq_natCast]; omega)]
 rfl
theorem dQh (c f : Nat) (h : Hp) (hc : c ≤ 256) (hf : f ≤ 2) : aD .or (.i .i64 (4 * Int.ofNat c)) (.i .i64 (Int.ofNat f)) h = some (.i .i64 (Int.ofNat (c * 4 + f)), h) := by
 have hb : gK .or .i64 (4 * Int.ofNat c) (Int.ofNat f) = some (.i .i64 (Int.ofNat (c * 4 + f))) := by
  have := dPp c 2 f (by omega) (by omega)
  have e1 : ((c * 2 ^ 2 : Nat) : Int) = 4 * Int.ofNat c := by simp only [Int.ofNat_eq_natCast]; omega
  have e2 : ((c * 2 ^ 2 + f : Nat) : Int) = Int.ofNat (c * 4 + f) := rfl
  rw [e1, e2] at this
  rw [← this]; rfl
 simp only [aD, if_true, hb]
theorem aBy (t : WT) : ∀ (c a j : Nat), a + c < 16000000 → (oG t c a).get j = if a ≤ j ∧ j < a + c then 0 else t.get j
 | 0, a, j, h => by rw [if_neg (by omega)]; rfl
 | c + 1, a, j, h => by
  have e : oG t (c + 1) a = (oG t c (a + 1)).set a (.ofNat 0) := rfl
  rw [e, WT.get_set _ _ _ _ (by omega), aBy t c (a + 1) j (by omega)]
  by_cases h1 : j = a
  ·rw [if_pos h1, if_pos (by omega)]; rfl
  ·rw [if_neg h1]
   by_cases h2 : a + 1 ≤ j ∧ j < a + 1 + c
   ·rw [if_pos h2, if_pos (by omega)]
   ·rw [if_neg h2, if_neg (by omega)]
theorem bEg : ∀ (l vs : List DV), (∀ v ∈ l, v.one = true) → (∀ v ∈ vs, v.one = true) → vs.length ≤ l.length → ∃ l', nS l vs = some l'
 | l, [], _, _, _ => ⟨l, by cases l <;> rfl⟩
 | [], v :: vs, _, _, h => by simp at h
 | x :: l, v :: vs, h1, h2, h3 => by
  obtain ⟨l', e⟩ := bEg l vs (fun u hu => h1 u (by simp [hu])) (fun u hu => h2 u (by simp [hu])) (by simpa using h3)
  exact ⟨v :: l', by simp [nS, h1 x (by simp), h2 v (by simp), e]⟩
theorem aQr : ∀ (o : Nat) (l vs : List DV), (∀ v ∈ l, v.one = true) → (∀ v ∈ vs, v.one = true) → o + vs.length ≤ l.length → ∃ l', fT o l vs = some l'
 | 0, l, vs, h1, h2, h3 => by
  obtain ⟨l', e⟩ := bEg l vs h1 h2 (by omega)
  exact ⟨l', e⟩
 | o + 1, [], vs, h1, h2, h3 => by simp at h3
 | o + 1, x :: l, vs, h1, h2, h3 => by
  obtain ⟨l', e⟩ := aQr o l vs (fun u hu => h1 u (by simp [hu])) h2 (by simp at h3; omega)
  exact ⟨x :: l', by simp [fT, e]⟩
section
variable {m : Pos} {M : MemV} {h : Hp}
theorem cDw {n : Nat} {t : WT} : ∀ v ∈ iH n t, v.one = true := by
 intro v hv
 simp only [iH, List.mem_map] at hv
 obtain ⟨i, _, rfl⟩ := hv
 rfl
theorem ML.ix' (H : ML m M h) {a : Nat} (ha : a < M.n) : aC 1 (.l M.wb 0 M.n M.n) (.i .i64 (Int.ofNat a)) h = some (.p M.wb a, h) := H.ix ha
theorem zU (c : Nat) : (List.replicate c [DV.i .i64 (Int.ofNat 0)]).flatten = List.replicate c (.i .i64 (Int.ofNat 0)) := by
 induction c with
 | zero => rfl
 | succ c ih => simp [List.replicate_succ, ih]
theorem ML.clear (H : ML m M h) {a c : Nat} (hac : a + c ≤ M.n) : ∃ v h1, cT 1 (.l M.wb 0 M.n M.n) (some (.i .i64 (Int.ofNat a))) (some (.i .i64 (Int.ofNat (a + c)))) h = some (v, h) ∧
  jZ [.i .i64 (Int.ofNat 0)] v h = some (.t [], h1) ∧ ML m { M with t := oG M.t c a } h1 ∧ Oth m M.wb M.pb h h1 := by
 have hn := H.n_lt
 have e1 : iI (.i .i64 (Int.ofNat (a + c))) M.n = some (a + c) := by
  have : (0 : Int) ≤ Int.ofNat (a + c) ∧ Int.ofNat (a + c) ≤ (M.n : Int) := by simp only [Int.ofNat_eq_natCast]; omega
  simp only [iI, this, and_self, if_true]
  rfl
 have e2 : iI (.i .i64 (Int.ofNat a)) (a + c) = some a := by
  have : (0 : Int) ≤ Int.ofNat a ∧ Int.ofNat a ≤ ((a + c : Nat) : Int) := by simp only [Int.ofNat_eq_natCast]; omega
  simp only [iI, this, and_self, if_true]
  rfl
 refine ⟨.l M.wb (if M.n = a then 0 else 0 + a * 1) (a + c - a) (M.n - a), ?_⟩
 have hs : cT 1 (.l M.wb 0 M.n M.n) (some (.i .i64 (Int.ofNat a))) (some (.i .i64 (Int.ofNat (a + c)))) h = some (.l M.wb (if M.n = a then 0 else 0 + a * 1) (a + c - a) (M.n - a), h) := by
  simp only [cT, hiD, loD, e1, e2, H.words]
 by_cases hc : c = 0
 ·subst hc
  refine ⟨h, hs, by simp [jZ], H, Oth.refl _ _ _ _⟩
 ·obtain ⟨l', hl'⟩ := aQr a (iH M.n M.t) (List.replicate c (.i .i64 (Int.ofNat 0))) cDw (fun v hv => by rw [List.eq_of_mem_replicate hv]; rfl) (by simp [iH]; omega)
  obtain ⟨p1, p2, p3, p4, p5⟩ := lN _ _ _ _ hl'
  have hll : l' = iH M.n (oG M.t c a) := by
   apply List.ext_getElem?
   intro j
   by_cases hj : j < M.n
   ·rw [lH hj, aBy _ _ _ _ (by omega)]
    by_cases hin : a ≤ j ∧ j < a + c
    ·rw [if_pos hin]
     obtain ⟨q1, _⟩ := p4 (j - a) (.i .i64 (Int.ofNat 0)) (by rw [List.getElem?_replicate, if_pos (by omega)])
     rw [show a + (j - a) = j from by omega] at q1
     exact q1
    ·rw [if_neg hin, p5 j (by rw [List.length_replicate]; omega), lH hj]
   ·rw [List.getElem?_eq_none (by rw [p1]; simp [iH]; omega), List.getElem?_eq_none (by simp [iH]; omega)]
  refine ⟨⟨h.next, Tr.set (.row .ex (iH M.n (oG M.t c a))) M.wb h.bl⟩, hs, ?_, (H.setW _).1, (H.setW _).2⟩
  have hna : M.n ≠ a := by omega
  rw [if_neg hna]
  simp only [jZ, show a + c - a = c from by omega, hc, if_false, zU, dF, H.words, Kind.writable, if_true, Nat.zero_add, Nat.mul_one, hl', hll]
end
noncomputable def bEt (rec : FuncId → List DV → Hp → aH) (x0 x3 v26 : DV) (h0 : Hp) : aH :=
 bnd (aX x0 h0) fun v64 h64 =>
 bnd (aB 1 v64 h64) fun v65 h65 =>
 bnd (aA v65 h65) fun v66 h66 =>
 bnd (aD .add x3 (.i .i64 (Int.ofNat 3)) h66) fun v67 h67 =>
 bnd (aD .add v66 v67 h67) fun v68 h68 =>
 bnd (aX x0 h68) fun v69 h69 =>
 bnd (aB 1 v69 h69) fun v70 h70 =>
 bnd (aJ 1 v70 v68 h70) fun _ h71 =>
 bnd (aX x0 h71) fun v72 h72 =>
 bnd (aB 3 v72 h72) fun v73 h73 =>
 bnd (aA v73 h73) fun v74 h74 =>
 bnd (gI (.int .i64) v74 v26 (.b true) h74) fun _ h75 =>
 bnd (rec 75 [v26] h75) fun v76 h76 =>
 bnd (aE 0 v76 h76) fun v77 h77 =>
 bnd (aE 1 v76 h77) fun v78 h78 =>
 some (.t [v77, (.i .i64 (Int.ofNat 0))], h78)
noncomputable def bGt (rec : FuncId → List DV → Hp → aH) (x0 x3 v26 : DV) (h0 : Hp) : aH :=
 bnd (aX x0 h0) fun v56 h56 =>
 bnd (aB 0 v56 h56) fun v57 h57 =>
 bnd (aA v57 h57) fun v58 h58 =>
 bnd (aD .add v26 (.i .i64 (Int.ofNat 3)) h58) fun v59 h59 =>
 bnd (aD .add v26 (.i .i64 (Int.ofNat 3)) h59) fun v60 h60 =>
 bnd (aD .add v60 x3 h60) fun v61 h61 =>
 bnd (cT 1 v58 (some v59) (some v61) h61) fun v62 h62 =>
 bnd (jZ [(.i .i64 (Int.ofNat 0))] v62 h62) fun _ h63 =>
 bEt rec x0 x3 v26 h63
noncomputable def bCh (rec : FuncId → List DV → Hp → aH) (x0 x1 x2 x3 v26 : DV) (h0 : Hp) : aH :=
 bnd (aX x0 h0) fun v34 h34 =>
 bnd (aB 0 v34 h34) fun v35 h35 =>
 bnd (aA v35 h35) fun v36 h36 =>
 bnd (aX x0 h36) fun v37 h37 =>
 bnd (aB 0 v37 h37) fun v38 h38 =>
 bnd (aA v38 h38) fun v39 h39 =>
 bnd (aD .add v26 (.i .i64 (Int.ofNat 1)) h39) fun v40 h40 =>
 bnd (aX x0 h40) fun v41 h41 =>
 bnd (aB 0 v41 h41) fun v42 h42 =>
 bnd (aA v42 h42) fun v43 h43 =>
 bnd (aD .add v26 (.i .i64 (Int.ofNat 2)) h43) fun v44 h44 =>
 bnd (dL .shl x3 (.i .u64 (Int.ofNat 2)) h44) fun v45 h45 =>
 bnd (aD .or v45 x2 h45) fun v46 h46 =>
 bnd (aX x0 h46) fun v47 h47 =>
 bnd (aB 2 v47 h47) fun v48 h48 =>
 bnd (aA v48 h48) fun v49 h49 =>
 bnd (aC 1 v36 v26 h49) fun v50 h50 =>
 bnd (aJ 1 v50 v46 h50) fun v51 h51 =>
 bnd (aC 1 v39 v40 h51) fun v52 h52 =>
 bnd (aJ 1 v52 x1 h52) fun v53 h53 =>
 bnd (aC 1 v43 v44 h53) fun v54 h54 =>
 bnd (aJ 1 v54 v49 h54) fun v55 h55 =>
 bGt rec x0 x3 v26 h55
noncomputable def aHj (rec : FuncId → List DV → Hp → aH) (x0 x1 x2 x3 : DV) (h0 : Hp) : aH :=
 bnd (aX x0 h0) fun v24 h24 =>
 bnd (aB 1 v24 h24) fun v25 h25 =>
 bnd (aA v25 h25) fun v26 h26 =>
 bnd (aX x0 h26) fun v27 h27 =>
 bnd (aB 2 v27 h27) fun v28 h28 =>
 bnd (aA v28 h28) fun v29 h29 =>
 bnd (aD .add v29 (.i .i64 (Int.ofNat 1)) h29) fun v30 h30 =>
 bnd (aX x0 h30) fun v31 h31 =>
 bnd (aB 2 v31 h31) fun v32 h32 =>
 bnd (aJ 1 v32 v30 h32) fun _ h33 =>
 bCh rec x0 x1 x2 x3 v26 h33
theorem dGz (rec : FuncId → List DV → Hp → aH) (n : Nat) (x0 x1 x2 x3 : DV) (h0 : Hp) : t30 rec n x0 x1 x2 x3 h0 = (
 bnd (rec 74 [x0, x1] h0) fun v1 h1 =>
 bnd (gP .not v1 h1) fun v2 h2 =>
 bnd (gD v2 false (some (x2, h2)) h2) fun v3 h3 =>
 bnd (gD v2 false (aD .lss v3 (.i .i64 (Int.ofNat 0)) h3) h3) fun v4 h4 =>
 bnd (aN v2 (.b true) v4 h4) fun v5 h5 =>
 bnd (gD v5 false (some (x2, h5)) h5) fun v6 h6 =>
 bnd (gD v5 false (aD .gtr v6 (.i .i64 (Int.ofNat 2)) h6) h6) fun v7 h7 =>
 bnd (aN v5 (.b true) v7 h7) fun v8 h8 =>
 bnd (gD v8 false (some (x3, h8)) h8) fun v9 h9 =>
 bnd (gD v8 false (aD .lss v9 (.i .i64 (Int.ofNat 0)) h9) h9) fun v10 h10 =>
 bnd (aN v8 (.b true) v10 h10) fun v11 h11 =>
 bnd (gD v11 false (some (x3, h11)) h11) fun v12 h12 =>
 bnd (gD v11 false (aD .gtr v12 (.i .i64 (Int.ofNat 256)) h12) h12) fun v13 h13 =>
 bnd (aN v11 (.b true) v13 h13) fun v14 h14 =>
 aU v14 (
 some (.t [(.i .i64 (Int.ofNat 0)), (.i .i64 (Int.ofNat 1))], h14)) (
 bnd (rec 29 [x0] h14) fun v15 h15 =>
 bnd (aD .add x3 (.i .i64 (Int.ofNat 3)) h15) fun v16 h16 =>
 bnd (aD .lss v15 v16 h16) fun v17 h17 =>
 bnd (gD v17 false (some (x0, h17)) h17) fun v18 h18 =>
 bnd (gD v17 false (aX v18 h18) h18) fun v19 h19 =>
 bnd (gD v17 false (aB 2 v19 h19) h19) fun v20 h20 =>
 bnd (gD v17 false (aA v20 h20) h20) fun v21 h21 =>
 bnd (gD v17 false (aD .geq v21 (.i .i64 (Int.ofNat 1099511627776)) h21) h21) fun v22 h22 =>
 bnd (aN v17 (.b true) v22 h22) fun v23 h23 =>
 aU v23 (
 some (.t [(.i .i64 (Int.ofNat 0)), (.i .i64 (Int.ofNat 4))], h23)) (
 aHj rec x0 x1 x2 x3 h23))) := rfl
section
variable {m : Pos} {M : MemV} {h : Hp}
theorem bOx (H : ML m M h) {c : Nat} (hr : M.fin + (c + 3) ≤ M.n) (ha : 3 ≤ M.fin ∧ M.fin ≤ 131072) (n : Nat) :
  ∃ h1, bEt (fV CF1 (n + 11)) (.p m 0) (.i .i64 (Int.ofNat c)) (.i .i64 (Int.ofNat M.fin)) h = some (.t [.i .i64 (Int.ofNat (Nat.mul M.fin 2)), .i .i64 (Int.ofNat 0)], h1) ∧
   ML m { M with fin := M.fin + (c + 3), pl := M.pl.set M.fin 1 } h1 ∧ Oth m M.wb M.pb h h1 := by
 have hn := H.n_lt
 simp only [bEt, iC, dZ, bO, H.l1, kF c 3 _ (show c + 3 < 4611686018427387904 by omega), kF M.fin (c + 3) _ (show M.fin + (c + 3) < 4611686018427387904 by omega)]
 obtain ⟨h6, s6, H6, O6⟩ := H.st1 (x := M.fin + (c + 3)) hr
 simp only [s6, bO, H6.l3]
 obtain ⟨h7, s7, H7, O7⟩ := H6.place (a := M.fin) (by omega)
 rw [show gI (.int .i64) (.m M.pb) (.i .i64 (Int.ofNat M.fin)) (.b true) h6 = some (aY, h7) from s7]
 have hp : 3 ≤ Int.ofNat M.fin ∧ Int.ofNat M.fin ≤ 131072 := by simp only [Int.ofNat_eq_natCast]; omega
 have e2 : 2 * Int.ofNat M.fin = Int.ofNat (Nat.mul M.fin 2) := by
  have : Nat.mul M.fin 2 = M.fin * 2 := rfl
  rw [this]; simp only [Int.ofNat_eq_natCast]; omega
 have h75 := eKr (n + 9) (Int.ofNat M.fin) h7
 rw [if_pos hp, e2] at h75
 simp only [bO, h75, bVp, cLe]
 exact ⟨h7, rfl, H7, O6.trans O7⟩
theorem cFs (H : ML m M h) {c : Nat} (hr : M.fin + (c + 3) ≤ M.n) (n : Nat) :
  ∃ h1, bGt (fV CF1 (n + 11)) (.p m 0) (.i .i64 (Int.ofNat c)) (.i .i64 (Int.ofNat M.fin)) h = bEt (fV CF1 (n + 11)) (.p m 0) (.i .i64 (Int.ofNat c)) (.i .i64 (Int.ofNat M.fin)) h1 ∧
   ML m { M with t := oG M.t c (M.fin + 3) } h1 ∧ Oth m M.wb M.pb h h1 := by
 have hn := H.n_lt
 obtain ⟨vv, h5, s5, s5', H5, O5⟩ := H.clear (a := M.fin + 3) (c := c) (show M.fin + 3 + c ≤ M.n by omega)
 refine ⟨h5, ?_, H5, O5⟩
 simp only [bGt, iC, dZ, bO, H.l0, kF M.fin 3 _ (show M.fin + 3 < 4611686018427387904 by omega), kF (M.fin + 3) c _ (show M.fin + 3 + c < 4611686018427387904 by omega), s5, s5']
theorem bTd (H : ML m M h) {cls : Int} {c f : Nat} (hcc : c ≤ 256) (hf : f ≤ 2) (hr : M.fin + (c + 3) ≤ M.n) (n : Nat) :
  ∃ h1, bCh (fV CF1 (n + 11)) (.p m 0) (.i .i64 cls) (.i .i64 (Int.ofNat f)) (.i .i64 (Int.ofNat c)) (.i .i64 (Int.ofNat M.fin)) h = bGt (fV CF1 (n + 11)) (.p m 0) (.i .i64 (Int.ofNat c)) (.i .i64 (Int.ofNat M.fin)) h1 ∧
   ML m { M with t := ((M.t.set M.fin (Int.ofNat (c * 4 + f))).set (M.fin + 1) cls).set (M.fin + 2) (Int.ofNat M.made) } h1 ∧ Oth m M.wb M.pb h h1 := by
 have hn := H.n_lt
 obtain ⟨h2, s2, H2, O2⟩ := H.put' (a := M.fin) (show M.fin < M.n by omega) (Int.ofNat (c * 4 + f))
 obtain ⟨h3, s3, H3, O3⟩ := H2.put' (a := M.fin + 1) (show M.fin + 1 < M.n by omega) cls
 obtain ⟨h4, s4, H4, O4⟩ := H3.put' (a := M.fin + 2) (show M.fin + 2 < M.n by omega) (Int.ofNat M.made)
 have i1 := H.ix' (a := M.fin) (by omega)
 have i2 : aC 1 (.l M.wb 0 M.n M.n) (.i .i64 (Int.ofNat (M.fin + 1))) h2 = some (.p M.wb (M.fin + 1), h2) := H2.ix' (a := M.fin + 1) (show M.fin + 1 < M.n by omega)
 have i3 : aC 1 (.l M.wb 0 M.n M.n) (.i .i64 (Int.ofNat (M.fin + 2))) h3 = some (.p M.wb (M.fin + 2), h3) := H3.ix' (a := M.fin + 2) (show M.fin + 2 < M.n by omega)
 have s3' : aJ 1 (.p M.wb (M.fin + 1)) (.i .i64 cls) h2 = some (aY, h3) := s3
 have s4' : aJ 1 (.p M.wb (M.fin + 2)) (.i .i64 (Int.ofNat M.made)) h3 = some (aY, h4) := s4
 refine ⟨h4, ?_, H4, (O2.trans O3).trans O4⟩
 simp only [bCh, iC, dZ, bO, H.l0, H.l2, kF M.fin 1 _ (show M.fin + 1 < 4611686018427387904 by omega), kF M.fin 2 _ (show M.fin + 2 < 4611686018427387904 by omega),
  dDt (Int.ofNat c) _ (show -2305843009213693952 ≤ Int.ofNat c ∧ Int.ofNat c ≤ 2305843009213693951 by simp only [Int.ofNat_eq_natCast]; omega), dQh c f _ hcc hf, i1, s2, i2, s3', i3, s4']
end
theorem bMc {m : Pos} {M : MemV} {h h' : Hp} (S : Sim false h h') (hM : qJ m h = some M) {cls : Int} {c f : Nat} (hcc : c ≤ 256) (hf : f ≤ 2) (hr : M.fin + (c + 3) ≤ M.n) (ha : 3 ≤ M.fin ∧ M.fin ≤ 131072) (n : Nat) :
  ∃ h1, aHj (fV CF1 (n + 11)) (.p m 0) (.i .i64 cls) (.i .i64 (Int.ofNat f)) (.i .i64 (Int.ofNat c)) h' = some (.t [.i .i64 (Int.ofNat (Nat.mul M.fin 2)), .i .i64 (Int.ofNat 0)], h1) ∧
   Sim false ⟨h.next, Tr.set (.row .ex [.l M.wb 0 M.n M.n, .i .i64 (Int.ofNat (M.fin + (c + 3))), .i .i64 (Int.ofNat (M.made + 1)), .m M.pb]) m
    (Tr.set (.mi (M.pl.set M.fin 1)) M.pb
     (Tr.set (.big M.n (oG (((M.t.set M.fin (Int.ofNat (c * 4 + f))).set (M.fin + 1) cls).set (M.fin + 2) (Int.ofNat (M.made + 1))) c (M.fin + 3))) M.wb h.bl))⟩ h1 := by
 have H := fL hM S
 have hmd : M.made < 1000000 := (sI hM).2.2.2.2.2
 obtain ⟨h1, s1, H1, O1⟩ := H.st2 (x := M.made + 1) (by omega)
 obtain ⟨h2, s2, H2, O2⟩ := bTd H1 (cls := cls) hcc hf hr n
 obtain ⟨h3, s3, H3, O3⟩ := cFs H2 hr n
 obtain ⟨h4, s4, H4, O4⟩ := bOx H3 hr ha n
 have e : aHj (fV CF1 (n + 11)) (.p m 0) (.i .i64 cls) (.i .i64 (Int.ofNat f)) (.i .i64 (Int.ofNat c)) h' = bCh (fV CF1 (n + 11)) (.p m 0) (.i .i64 cls) (.i .i64 (Int.ofNat f)) (.i .i64 (Int.ofNat c)) (.i .i64 (Int.ofNat M.fin)) h1 := by
  simp only [aHj, iC, dZ, bO, H.l1, H.l2, kF M.made 1 _ (show M.made + 1 < 4611686018427387904 by omega), s1]
 refine ⟨h4, e.trans (s2.trans (s3.trans s4)), ?_⟩
 dsimp only at H4
 have H5 : ML m ⟨M.wb, M.n, M.fin + (c + 3), M.made + 1, M.pb, oG (((M.t.set M.fin (Int.ofNat (c * 4 + f))).set (M.fin + 1) cls).set (M.fin + 2) (Int.ofNat (M.made + 1))) c (M.fin + 3), M.pl.set M.fin 1⟩ h4 := H4
 exact cUf S hM H5 rfl rfl rfl (((O1.trans O2).trans O3).trans O4)
theorem cHx (n : Nat) (args : List DV) : SimP false (tB args) (fV CF1 (n + 12) 30 args) := fun h h' S v k e => by
 unfold tB at e
 split at e <;> (try (cases e; done))
 rename_i m cls fmt cnt
 split at e <;> (try (cases e; done))
 rename_i M hM
 have H := fL hM S
 have hn := H.n_lt
 have hfn := H.fin_le
 rw [cE 30 rfl, dXb, dGz]
 simp only [g0, g1, g2, g3, eEk H, bO, tJ]
 have herr : ∀ er : Nat, err er h = some (v, k) → ∃ h1, (some (.t [.i .i64 (Int.ofNat 0), .i .i64 (Int.ofNat er)], h') : aH) = some (v, h1) ∧ Sim false k h1 := by
  intro er he
  simp only [err, bD, bM] at he
  obtain ⟨rfl, rfl⟩ := he
  exact ⟨h', rfl, S⟩
 cases hc : aBb cls M.pl with
 | false =>
  rw [hc] at e
  simp only [Bool.not_false, cond_true] at e
  simp only [Bool.not_false, jH, bO, eM, fM]
  exact herr 1 e
 | true =>
  rw [hc] at e
  simp only [Bool.not_true, cond_false] at e
  simp only [Bool.not_true, nW, bO, eP, jM]
  cases fmt with
  | negSucc f =>
   have hlt : decide (Int.negSucc f < Int.ofNat 0) = true := decide_eq_true (Int.negSucc_lt_zero f)
   simp only [hlt, jH, bO, eM, fM]
   exact herr 1 e
  | ofNat f =>
   have hlt : decide (Int.ofNat f < Int.ofNat 0) = false := by simp
   simp only [hlt, nW, bO, eP, aCq]
   by_cases hf : f ≤ 2
   ·have hgt : decide (Int.ofNat f > Int.ofNat 2) = false := by simp only [decide_eq_false_iff_not, Int.ofNat_eq_natCast]; omega
    simp only [hgt, nW, bO, eP, jM]
    cases cnt with
    | negSucc c =>
     have hlt : decide (Int.negSucc c < Int.ofNat 0) = true := decide_eq_true (Int.negSucc_lt_zero c)
     simp only [hlt, jH, bO, eM, fM]
     exact herr 1 e
    | ofNat c =>
     have hlt : decide (Int.ofNat c < Int.ofNat 0) = false := by simp
     simp only [hlt, nW, bO, eP, aCq]
     dsimp only at e
     simp only [aXv, zF, hf, decide_true, Bool.true_and] at e
     by_cases hcc : c ≤ 256
     ·have hgt : decide (Int.ofNat c > Int.ofNat 256) = false := by simp only [decide_eq_false_iff_not, Int.ofNat_eq_natCast]; omega
      simp only [hgt, fP, dVl H, bO, kF c 3 _ (by omega), jM]
      simp only [hcc, decide_true, cond_true] at e
      have hsub : Nat.sub M.n M.fin = M.n - M.fin := rfl
      have hadd : Nat.add c 3 = c + 3 := rfl
      rw [hsub, hadd] at e
      by_cases hr : M.n - M.fin < c + 3
      ·simp only [hr, decide_true, cond_true] at e
       have hl : decide (Int.ofNat (M.n - M.fin) < Int.ofNat (c + 3)) = true := by simp only [decide_eq_true_eq, Int.ofNat_eq_natCast]; omega
       simp only [hl, jH, bO, eM, fM]
       exact herr 4 e
      ·simp only [hr, decide_false, cond_false] at e
       have hl : decide (Int.ofNat (M.n - M.fin) < Int.ofNat (c + 3)) = false := by simp only [decide_eq_false_iff_not, Int.ofNat_eq_natCast]; omega
       simp only [hl, nW, bO, eP, iC, dZ, H.l2, aCj]
       have hg : decide (Int.ofNat M.made ≥ Int.ofNat 1099511627776) = false := by
        have hmd : M.made < 1000000 := (sI hM).2.2.2.2.2
        simp only [decide_eq_false_iff_not, Int.ofNat_eq_natCast]; omega
       simp only [hg, fP]
       by_cases ha : 3 ≤ M.fin ∧ M.fin ≤ 131072
       ·simp only [ha.1, ha.2, decide_true, Bool.and_self, cond_true, bD, bM] at e
        obtain ⟨rfl, rfl⟩ := e
        exact bMc S hM hcc hf (by omega) ha n
       ·have : (decide (3 ≤ M.fin) && decide (M.fin ≤ 131072)) = false := by
         rw [← Bool.not_eq_true]
         simpa using ha
        rw [this] at e
        simp only [cond_false] at e
        cases e
     ·have hgt : decide (Int.ofNat c > Int.ofNat 256) = true := by simp only [decide_eq_true_eq, Int.ofNat_eq_natCast]; omega
      simp only [hcc, decide_false, cond_false] at e
      simp only [hgt, fM]
      exact herr 1 e
   ·have hgt : decide (Int.ofNat f > Int.ofNat 2) = true := by simp only [decide_eq_true_eq, Int.ofNat_eq_natCast]; omega
    simp only [hgt, jH, bO, eM, fM]
    cases cnt with
    | negSucc c => exact herr 1 e
    | ofNat c =>
     dsimp only at e
     simp only [aXv, hf, decide_false, Bool.false_and, cond_false] at e
     exact herr 1 e
theorem aVl (n : Nat) (args : List DV) : SimP false (aUc args) (fV CF1 (n + 12) 41 args) := fun h h' S v k e => by
 unfold aUc at e
 split at e <;> (try (cases e; done))
 ·rename_i w
  rw [cE 41 rfl, dFz]
  simp only [t41, g0, jM, bO]
  simp only [zF] at e
  by_cases h1 : w < 16
  ·simp only [h1, decide_true, Bool.true_or, cond_true, bD, bM] at e
   obtain ⟨rfl, rfl⟩ := e
   have hl : decide (Int.ofNat w < Int.ofNat 16) = true := by simp only [decide_eq_true_eq, Int.ofNat_eq_natCast]; omega
   simp only [hl, jH, bO, eM, fM]
   exact ⟨h', rfl, S⟩
  ·have hl : decide (Int.ofNat w < Int.ofNat 16) = false := by simp only [decide_eq_false_iff_not, Int.ofNat_eq_natCast]; omega
   simp only [hl, nW, bO, eP, aCq]
   by_cases h2 : 131072 < w
   ·simp only [h2, decide_true, Bool.or_true, cond_true, bD, bM] at e
    obtain ⟨rfl, rfl⟩ := e
    have hg : decide (Int.ofNat w > Int.ofNat 131072) = true := by simp only [decide_eq_true_eq, Int.ofNat_eq_natCast]; omega
    simp only [hg, fM]
    exact ⟨h', rfl, S⟩
   ·simp only [h1, h2, decide_false, Bool.or_self, cond_false, bD, bM] at e
    obtain ⟨rfl, rfl⟩ := e
    have hg : decide (Int.ofNat w > Int.ofNat 131072) = false := by simp only [decide_eq_false_iff_not, Int.ofNat_eq_natCast]; omega
    simp only [hg, fP]
    have hms : cJ 1 8 [.i .i64 (Int.ofNat 0)] (.i .i64 (Int.ofNat w)) (.i .i64 (Int.ofNat w)) h' = some (.l h'.next 0 w w, ⟨h'.next.succ, Tr.set (.row .ex (iH w .e)) h'.next h'.bl⟩) := by
     have hc : (0 : Int) ≤ Int.ofNat w ∧ Int.ofNat w ≤ Int.ofNat w ∧ (Int.ofNat w).toNat * 8 ≤ 2 ^ 30 ∧ (Int.ofNat w).toNat * 1 ≤ 2 ^ 24 ∧ Int.ofNat w < 2 ^ 32 := by
      have : (Int.ofNat w).toNat = w := rfl
      rw [this]
      simp only [Int.ofNat_eq_natCast]
      omega
     have hz : (List.replicate (Int.ofNat w).toNat [DV.i .i64 (Int.ofNat 0)]).flatten = iH w .e := by
      have : (Int.ofNat w).toNat = w := rfl
      rw [this, zU]
      apply List.ext_getElem?
      intro j
      by_cases hj : j < w
      ·rw [lH hj, List.getElem?_replicate, if_pos hj]; rfl
      ·rw [List.getElem?_replicate, if_neg hj, List.getElem?_eq_none (by simp [iH]; omega)]
     simp only [cJ, hc, and_self, if_true, hz]
     rfl
    simp only [hms, bO, dX]
    have hb : ∀ x y h, bL [.l0, .i .i64 (Int.ofNat 0), .i .i64 (Int.ofNat 0), .m0] [(0, 1, .l x 0 w w), (1, 1, .i .i64 (Int.ofNat 3)), (3, 1, .m y)] h = some (.a [.l x 0 w w, .i .i64 (Int.ofNat 3), .i .i64 (Int.ofNat 0), .m y], h) := fun x y h => rfl
    simp only [hb, bO, bQ, dR, bS]
    have hnx := S.next
    refine ⟨_, by rw [hnx]; rfl, ?_⟩
    refine ⟨rfl, fun b o hb => ?_⟩
    show ∃ o', (Tr.set _ (bN 2 h.next) (Tr.set _ (bN 1 h.next) (Tr.set _ h.next h'.bl))).get b = some o' ∧ _
    by_cases b1 : b = bN 2 h.next
    ·subst b1
     simp only [eMs, bD] at hb ⊢
     subst hb
     exact ⟨_, rfl, rfl⟩
    ·simp only [eMr _ _ _ _ b1] at hb ⊢
     by_cases b2 : b = bN 1 h.next
     ·subst b2
      simp only [eMs, bD] at hb ⊢
      subst hb
      exact ⟨_, rfl, by simp only [tR]; exact ⟨[], rfl, fun a => by simp [iJ, WT.get_e]⟩⟩
     ·simp only [eMr _ _ _ _ b2] at hb ⊢
      by_cases b3 : b = h.next
      ·subst b3
       simp only [eMs, bD] at hb ⊢
       subst hb
       exact ⟨_, rfl, by simp [tR]⟩
      ·simp only [eMr _ _ _ _ b3] at hb ⊢
       exact S.get b o hb
 ·rename_i w
  simp only [bD, bM] at e
  obtain ⟨rfl, rfl⟩ := e
  rw [cE 41 rfl, dFz]
  have hl : decide (Int.negSucc w < Int.ofNat 16) = true := by simp only [decide_eq_true_eq]; have := Int.negSucc_lt_zero w; simp only [Int.ofNat_eq_natCast]; omega
  simp only [t41, g0, jM, bO, hl, jH, eM, fM]
  exact ⟨h', rfl, S⟩
end Go.Dd

namespace Go.Dd
theorem aFf {gg : Bool} (args : List DV) : SimP gg (mI args) (mI args) := fun h h' S v k e => by
 unfold mI at e ⊢
 split at e <;> (try (cases e; done))
 rename_i l c
 cases hc : Nat.blt c 256 with
 | false => rw [hc] at e; cases e
 | true =>
  rw [hc] at e
  simp only [cond_true, bD, bM] at e
  obtain ⟨rfl, rfl⟩ := e
  exact ⟨h', rfl, S⟩
theorem xI {gg : Bool} (q : Pos) (l1 : DV) (cs : List DV) : SimP gg (jC q l1 cs) (jC q l1 cs) := fun h h' S v k e => by
 unfold jC at e ⊢
 split at e <;> (try (cases e; done))
 ·simp only [bD, bM] at e ⊢
  obtain ⟨rfl, rfl⟩ := e
  exact ⟨_, ⟨by rw [S.next], rfl⟩, by rw [S.next]; exact S.setR _ _ _ _⟩
 ·rename_i b o len cap
  cases hc : (Nat.ble cap len && !(kY b q)) with
  | false => rw [hc] at e; cases e
  | true =>
   rw [hc] at e
   simp only [cnd] at e ⊢
   split at e <;> (try (cases e; done))
   rename_i es l old hb hold
   rw [S.row hb, S.cellsAt hold]
   dsimp only
   split at e <;> (try (cases e; done))
   rename_i hr
   rw [if_pos hr]
   simp only [bD, bM] at e ⊢
   obtain ⟨rfl, rfl⟩ := e
   refine ⟨_, ⟨by rw [S.next], rfl⟩, ?_⟩
   rw [S.next]
   exact (S.setR .sp (bV o l) b h.next).setR _ _ _ _
theorem aXe {gg : Bool} (c q : Pos) : SimP gg (rT c q) (rT c q) := by
 intro h h' S
 unfold rT
 refine SimR.bnd (iO _ h h' S) fun l1 _ _ _ => ?_
 refine SimR.bnd (eMu (jP l1) h h' S) fun n _ _ _ => ?_
 refine SimR.bnd (jL _ _ h h' S) fun x _ _ _ => ?_
 split
 ·refine eNm id ?_
  have S2 : Sim gg ⟨h.next.succ.succ, h.bl⟩ ⟨h'.next.succ.succ, h'.bl⟩ := ⟨by show h'.next.succ.succ = _; rw [S.next], S.get⟩
  refine SimR.bnd (xI _ _ _ _ _ S2) fun l2 h3 h3' T3 => ?_
  exact SimR.bnd (jJ _ _ _ h3 h3' T3) fun u h4 h4' T4 => SimR.some T4 _
 ·exact SimR.none _
theorem bFy {gg : Bool} (n : Nat) (f : FuncId) (args : List DV) : SimP gg (tK CF0 n f args) (tK CF0 n f args) :=
 cCk (gg := gg) (P := Go.Proofs.Tryz.prog) (I2 := fun _ => none) (I1 := fun _ => none) 0 (fun _ _ => rfl) (fun _ _ h => by cases h) n f args
theorem aFl {gg : Bool} (args : List DV) : SimP gg (mA args) (mA args) := by
 unfold mA
 intro h h' S
 split
 ·rename_i c lit
  dsimp only
  rw [show h'.next = h.next from S.next]
  refine SimR.bnd (aKg _ h h' S) fun b h1 h1' T1 => ?_
  refine SimR.bnd (iO _ h1 h1' T1) fun ls h2 h2' T2 => ?_
  refine SimR.bnd (bFy _ _ _ h2 h2' T2) fun i h3 h3' T3 => ?_
  refine SimR.bnd (eMu (mP _ _ _) h3 h3' T3) fun t h4 h4' T4 => ?_
  exact aIr (aXe _ _ h4 h4' T4) (SimR.some T4 _)
 ·exact SimR.none _
theorem aGl {gg : Bool} (c q : Pos) : SimP gg (lE c q) (lE c q) := by
 intro h h' S
 unfold lE
 refine SimR.bnd (iO _ h h' S) fun l1 _ _ _ => ?_
 refine SimR.bnd (jL _ _ h h' S) fun x _ _ _ => ?_
 split
 ·refine eNm id ?_
  have S2 : Sim gg ⟨h.next.succ, h.bl⟩ ⟨h'.next.succ, h'.bl⟩ := ⟨by show h'.next.succ = _; rw [S.next], S.get⟩
  refine SimR.bnd (xI _ _ _ _ _ S2) fun l2 h3 h3' T3 => ?_
  exact SimR.bnd (jJ _ _ _ h3 h3' T3) fun _ h4 h4' T4 => SimR.bnd (iO _ h4 h4' T4) fun l3 _ _ _ => SimR.bnd (eMu (jP l3) h4 h4' T4) fun n3 _ _ _ => SimR.bnd (eMu (mP _ _ _) h4 h4' T4) fun v _ _ _ => SimR.some T4 _
 ·exact SimR.none _
theorem xK (e : aZ) (h : Hp) : aQ CF0 Go.Proofs.Tryz.f174 e h = some (e 4, h) := by kernel_rfl
theorem jK {C : Cfg} {rec : FuncId → List DV → Hp → aH} {g : FuncId} (h : C.I g = none) (args : List DV) : bX C rec g args = rec g args := by
 funext k
 unfold bX
 rw [h]
theorem aBn {gg : Bool} (g : FuncId) (args : List DV) : SimP gg (bX ⟨Go.Proofs.Tryz.prog, CF0.I⟩ (tK CF0 60) g args) (bX ⟨Go.Proofs.Tryz.prog, CF0.I⟩ (tK CF0 60) g args) := by
 have e : bX ⟨Go.Proofs.Tryz.prog, CF0.I⟩ (tK CF0 60) g args = tK CF0 60 g args := by
  exact jK (C := ⟨Go.Proofs.Tryz.prog, CF0.I⟩) (g := g) rfl args
 rw [e]
 exact bFy 60 g args
theorem sE {gg : Bool} (args : List DV) : SimP gg (fJ args) (fJ args) := by
 have hX : ∀ j, SimK gg (x0 j) (x0 j) := fun j env h h' S => SimR.none _
 have hR : SimK gg (aQ CF0 Go.Proofs.Tryz.f174) (aQ CF0 Go.Proofs.Tryz.f174) := fun env h h' S => by rw [xK, xK]; exact SimR.some S _
 have hK : SimK gg mQ mQ := fun env h h' S => by
  unfold mQ
  split
  ·exact aGl _ _ h h' S
  ·exact SimR.none _
 have h2 := dP (gg := gg) (P := Go.Proofs.Tryz.prog) (I2 := CF0.I) (I1 := CF0.I) (rec2 := tK CF0 60) (rec1 := tK CF0 60) (fun g args => aBn g args) 47 60 0 (cL (cR (cf Go.Proofs.Tryz.f174))) x0 x0 (aQ CF0 Go.Proofs.Tryz.f174) (aQ CF0 Go.Proofs.Tryz.f174) mQ mQ hX hR hK
 exact dP (gg := gg) (P := Go.Proofs.Tryz.prog) (I2 := CF0.I) (I1 := CF0.I) (rec2 := tK CF0 60) (rec1 := tK CF0 60) (fun g args => aBn g args) 47 60 0 (cL (cf Go.Proofs.Tryz.f174)) x0 x0 (aQ CF0 Go.Proofs.Tryz.f174) (aQ CF0 Go.Proofs.Tryz.f174) _ _ hX hR h2 (aI args)
theorem aPt (g : FuncId) (F : List DV → Hp → aH) (hg : aAz g = some F) (n : Nat) (args : List DV) : SimP false (F args) (fV CF1 (n + 12) g args) := by
 unfold aAz at hg
 have hb : ∀ k, Nat.beq g k = true → g = k := fun k h => Nat.eq_of_beq_eq_true h
 cases h1 : Nat.beq g 20 with
 | true => rw [h1] at hg; cases hg; rw [hb _ h1]; exact cUj n args
 | false =>
 cases h2 : Nat.beq g 21 with
 | true => rw [h1, h2] at hg; cases hg; rw [hb _ h2]; exact dQm n args
 | false =>
 cases h3 : Nat.beq g 22 with
 | true => rw [h1, h2, h3] at hg; cases hg; rw [hb _ h3]; exact bQb n args
 | false =>
 cases h4 : Nat.beq g 29 with
 | true => rw [h1, h2, h3, h4] at hg; cases hg; rw [hb _ h4]; exact cFd n args
 | false =>
 cases h5 : Nat.beq g 30 with
 | true => rw [h1, h2, h3, h4, h5] at hg; cases hg; rw [hb _ h5]; exact cHx n args
 | false =>
 cases h6 : Nat.beq g 41 with
 | true => rw [h1, h2, h3, h4, h5, h6] at hg; cases hg; rw [hb _ h6]; exact aVl n args
 | false =>
 cases h7 : Nat.beq g 44 with
 | true => rw [h1, h2, h3, h4, h5, h6, h7] at hg; cases hg; rw [hb _ h7]; exact aCo n args
 | false =>
 cases h8 : Nat.beq g 47 with
 | true => rw [h1, h2, h3, h4, h5, h6, h7, h8] at hg; cases hg; rw [hb _ h8]; exact cZt n args
 | false =>
 cases h9 : Nat.beq g 50 with
 | true => rw [h1, h2, h3, h4, h5, h6, h7, h8, h9] at hg; cases hg; rw [hb _ h9]; exact bKb n args
 | false =>
 cases h10 : Nat.beq g 51 with
 | true => rw [h1, h2, h3, h4, h5, h6, h7, h8, h9, h10] at hg; cases hg; rw [hb _ h10]; exact aUj n args
 | false =>
 cases h11 : Nat.beq g 52 with
 | true => rw [h1, h2, h3, h4, h5, h6, h7, h8, h9, h10, h11] at hg; cases hg; rw [hb _ h11]; exact aXq n args
 | false =>
 cases h12 : Nat.beq g 54 with
 | true => rw [h1, h2, h3, h4, h5, h6, h7, h8, h9, h10, h11, h12] at hg; cases hg; rw [hb _ h12]; exact aPn n args
 | false =>
 cases h13 : Nat.beq g 60 with
 | true => rw [h1, h2, h3, h4, h5, h6, h7, h8, h9, h10, h11, h12, h13] at hg; cases hg; rw [hb _ h13]; exact bJa n args
 | false =>
 cases h14 : Nat.beq g 62 with
 | true => rw [h1, h2, h3, h4, h5, h6, h7, h8, h9, h10, h11, h12, h13, h14] at hg; cases hg; rw [hb _ h14]; exact bKf n args
 | false =>
 cases h15 : Nat.beq g 73 with
 | true => rw [h1, h2, h3, h4, h5, h6, h7, h8, h9, h10, h11, h12, h13, h14, h15] at hg; cases hg; rw [hb _ h15]; exact cQi n args
 | false => rw [h1, h2, h3, h4, h5, h6, h7, h8, h9, h10, h11, h12, h13, h14, h15] at hg; cases hg
theorem cFv (n : Nat) (f : FuncId) (args : List DV) : SimP false (fV CF n f args) (fV CF1 (n + 12) f args) := by
 have key := aFx (I := itm) (q := rgB) (gg := false) (P := Go.Proofs.Tryz.prog) (I2 := CF.I) (I1 := CF1.I) 12 (fun g hg => by
  show (bif Nat.beq g 266 then some mI else bif Nat.beq g 242 then some mA else bif Nat.beq g 174 then some fJ else none) = none
  change (bif Nat.beq g 266 then some mI else bif Nat.beq g 242 then some mA else bif Nat.beq g 174 then some fJ else aAz g) = none at hg
  cases h1 : Nat.beq g 266 with
  | true => rw [h1] at hg; cases hg
  | false =>
   cases h2 : Nat.beq g 242 with
   | true => rw [h1, h2] at hg; cases hg
   | false =>
    cases h3 : Nat.beq g 174 with
    | true => rw [h1, h2, h3] at hg; cases hg
    | false => rfl) (fun g F hg n args => by
  change (bif Nat.beq g 266 then some mI else bif Nat.beq g 242 then some mA else bif Nat.beq g 174 then some fJ else aAz g) = some F at hg
  have hcall : bX ⟨Go.Proofs.Tryz.prog, CF1.I⟩ (fV ⟨Go.Proofs.Tryz.prog, CF1.I⟩ (n + 12)) g args = fun h => match (bif Nat.beq g 266 then some mI else bif Nat.beq g 242 then some mA else bif Nat.beq g 174 then some fJ else none : Option (List DV → Hp → aH)) with
   | some F => F args h
   | none => fV ⟨Go.Proofs.Tryz.prog, CF1.I⟩ (n + 12) g args h := rfl
  rw [hcall]
  cases h1 : Nat.beq g 266 with
  | true => rw [h1] at hg; cases hg; exact aFf args
  | false =>
   cases h2 : Nat.beq g 242 with
   | true => rw [h1, h2] at hg; cases hg; exact aFl args
   | false =>
    cases h3 : Nat.beq g 174 with
    | true => rw [h1, h2, h3] at hg; cases hg; exact sE args
    | false =>
     rw [h1, h2, h3] at hg
     exact aPt g F hg n args) n f args
 exact key
end Go.Dd

namespace Go.Dd
open Go.Proofs
theorem aBm {m : Pos} {M : MemV} {h h' : Hp} (S : Sim true h h') (hm : qJ m h = some M) : qJ m h' = some M := by
 have hget : ∀ b o, h.bl.get b = some o → h'.bl.get b = some o := fun b o hb => by
  obtain ⟨o', h1, h2⟩ := S.get b o hb
  rw [h1, gT h2]
 unfold qJ at hm ⊢
 split at hm <;> (try (cases hm; done))
 rename_i wb n c fin made pb hr
 split at hm <;> (try (cases hm; done))
 rename_i n' t pl h1 h2
 simp only [hget _ _ hr, hget _ _ h1, hget _ _ h2]
 exact hm
theorem fI {args : List DV} {k : Hp → MemV → List DV → aH} (hk : ∀ M r, SimP true (fun h => k h M r) (fun h => k h M r)) : SimP true (fun h => qD args h (k h)) (fun h => qD args h (k h)) := fun h h' S v g e => by
 obtain ⟨m, rest, M, rfl, hM, e⟩ := eN e
 obtain ⟨g', e1, e2⟩ := hk M rest h h' S v g e
 refine ⟨g', ?_, e2⟩
 show (match qJ m h' with
  | some M => k h' M rest
  | none => none) = some (v, g')
 rw [aBm S hM]
 exact e1
theorem mC {M : MemV} {o : Int} {k k' : Nat → aH} (h : ∀ n, SimR true (k n) (k' n)) : SimR true (mG M o k) (mG M o k') := by
 unfold mG
 cases Nat.blt (Nat.add (gN o M.pl) 1) M.n with
 | false => exact SimR.none _
 | true =>
  simp only [cond_true]
  cases M.t.get (gN o M.pl) with
  | negSucc a => exact SimR.none _
  | ofNat hd =>
   dsimp only
   cases Nat.blt hd 1000000000000 with
   | false => exact SimR.none _
   | true => exact h hd
theorem sY {M : MemV} {o i : Int} {b b' : Nat → aH} {k k' : Nat → Nat → aH} (hb : ∀ n, SimR true (b n) (b' n)) (h : ∀ n m, SimR true (k n m) (k' n m)) : SimR true (kZ M o i b k) (kZ M o i b' k') := by
 unfold kZ
 cases Nat.beq (gN o M.pl) 0 with
 | true => exact hb 1
 | false =>
  simp only [cond_false]
  cases i with
  | negSucc i => exact hb 5
  | ofNat i =>
   dsimp only
   refine mC fun hd => ?_
   cases Nat.ble (Nat.div hd 4) i with
   | true => exact hb 5
   | false =>
    simp only [cond_false]
    cases Nat.blt (Nat.add (Nat.add (gN o M.pl) 3) i) M.n with
    | false => exact SimR.none _
    | true => exact h _ _
theorem jT {h h' : Hp} (S : Sim true h h') (o : Ob) (b n : Pos) : Sim true ⟨n, Tr.set o b h.bl⟩ ⟨n, Tr.set o b h'.bl⟩ := S.set (iV o) b n
theorem nN {M : MemV} {a : Nat} {w : Int} : SimP true (rC M a w) (rC M a w) := fun h h' S v g e => by
 simp only [rC, bD, bM] at e ⊢
 obtain ⟨rfl, rfl⟩ := e
 exact ⟨_, ⟨rfl, rfl⟩, by rw [S.next]; exact jT S _ _ _⟩
theorem bSn (g : FuncId) (F : List DV → Hp → aH) (hg : aAz g = some F) (args : List DV) : SimP true (F args) (F args) := by
 have hmay : SimP true (cEq args) (cEq args) := fI (k := fun h M r => match r with
  | [.i .i64 w] => some (.b (aLj w M.pl), h)
  | _ => none) fun M r h h' S => by dsimp only; split <;> first | exact SimR.some S _ | exact SimR.none _
 have his : SimP true (isF args) (isF args) := fI (k := fun h M r => match r with
  | [.i .i64 w] => some (.b (!(Nat.beq (gN w M.pl) 0)), h)
  | _ => none) fun M r h h' S => by dsimp only; split <;> first | exact SimR.some S _ | exact SimR.none _
 have hsize : SimP true (aCa args) (aCa args) := fI (k := fun h M r => match r with
  | [] => some (.i .i64 (.ofNat M.n), h)
  | _ => none) fun M r h h' S => by dsimp only; split <;> first | exact SimR.some S _ | exact SimR.none _
 have hroom : SimP true (bHr args) (bHr args) := fI (k := fun h M r => match r with
  | [] => some (.i .i64 (.ofNat (Nat.sub M.n M.fin)), h)
  | _ => none) fun M r h h' S => by dsimp only; split <;> first | exact SimR.some S _ | exact SimR.none _
 have hclass : SimP true (nF args) (nF args) := fI (k := fun h M r => match r with
  | [.i .i64 o] => mG M o fun _ => some (.i .i64 (M.t.get (Nat.add (gN o M.pl) 1)), h)
  | _ => none) fun M r h h' S => by dsimp only; split <;> first | exact mC (fun _ => SimR.some S _) | exact SimR.none _
 have hformat : SimP true (nK args) (nK args) := fI (k := fun h M r => match r with
  | [.i .i64 o] => mG M o fun hd => some (.i .i64 (.ofNat (Nat.mod hd 4)), h)
  | _ => none) fun M r h h' S => by dsimp only; split <;> first | exact mC (fun _ => SimR.some S _) | exact SimR.none _
 have hfields : SimP true (lY args) (lY args) := fI (k := fun h M r => match r with
  | [.i .i64 o] => mG M o fun hd => some (.i .i64 (.ofNat (Nat.div hd 4)), h)
  | _ => none) fun M r h h' S => by dsimp only; split <;> first | exact mC (fun _ => SimR.some S _) | exact SimR.none _
 have hget : SimP true (cGn args) (cGn args) := fI (k := fun h M r => match r with
  | [.i .i64 o, .i .i64 i] => kZ M o i (fun e => err e h) fun _ a => some (.t [.i .i64 (M.t.get a), .i .i64 (.ofNat 0)], h)
  | _ => none) fun M r h h' S => by dsimp only; split <;> first | exact sY (fun _ => SimR.some S _) (fun _ _ => SimR.some S _) | exact SimR.none _
 have hput : SimP true (aQd args) (aQd args) := fI (k := fun h M r => match r with
  | [.i .i64 o, .i .i64 i, .i .i64 w] => kZ M o i (fun e => some (.i .i64 (.ofNat e), h)) fun hd a =>
   match Nat.mod hd 4 with
   | 0 => bif aLj w M.pl then rC M a w h else some (.i .i64 (.ofNat 6), h)
   | 2 => (match w with
    | .ofNat c => bif Nat.ble c 255 then rC M a w h else some (.i .i64 (.ofNat 6), h)
    | .negSucc _ => some (.i .i64 (.ofNat 6), h))
   | _ => rC M a w h
  | _ => none) fun M r h h' S => by
   dsimp only
   split
   ·rename_i o i w
    refine sY (fun _ => SimR.some S _) fun hd a => ?_
    split
    ·cases aLj w M.pl with
     | true => exact nN h h' S
     | false => exact SimR.some S _
    ·cases w with
     | negSucc c => exact SimR.some S _
     | ofNat c =>
      dsimp only
      cases Nat.ble c 255 with
      | true => exact nN h h' S
      | false => exact SimR.some S _
    ·exact nN h h' S
   ·exact SimR.none _
 have hsetc : SimP true (lD args) (lD args) := fI (k := fun h M r => match r with
  | [.i .i64 o, .i .i64 c] => bif Nat.beq (gN o M.pl) 0 || !(aBb c M.pl) then some (.i .i64 (.ofNat 1), h) else
   (bif Nat.blt (Nat.add (gN o M.pl) 1) M.n then rC M (Nat.add (gN o M.pl) 1) c h else none)
  | _ => none) fun M r h h' S => by
   dsimp only
   split
   ·rename_i o c
    cases Nat.beq (gN o M.pl) 0 || !(aBb c M.pl) with
    | true => exact SimR.some S _
    | false =>
     simp only [cond_false]
     cases Nat.blt (Nat.add (gN o M.pl) 1) M.n with
     | true => exact nN h h' S
     | false => exact SimR.none _
   ·exact SimR.none _
 have hmake : SimP true (tB args) (tB args) := fun h h' S => by
  unfold tB
  split
  ·rename_i m cls fmt cnt
   intro v g e
   split at e
   ·cases e
   ·rename_i M hM
    rw [aBm S hM]
    dsimp only
    revert e
    have herr : ∀ n, SimR true (err n h) (err n h') := fun n => SimR.some S _
    suffices hs : SimR true _ _ from fun e => hs v g e
    cases !(aBb cls M.pl) with
    | true => exact herr 1
    | false =>
     simp only [cond_false]
     cases fmt with
     | negSucc f => exact herr 1
     | ofNat f =>
      cases cnt with
      | negSucc c => exact herr 1
      | ofNat c =>
       dsimp only
       cases Nat.ble f 2 && Nat.ble c 256 with
       | false => exact herr 1
       | true =>
        simp only [cond_true]
        cases Nat.blt (Nat.sub M.n M.fin) (Nat.add c 3) with
        | true => exact herr 4
        | false =>
         simp only [cond_false]
         cases Nat.ble 3 M.fin && Nat.ble M.fin 131072 with
         | false => exact SimR.none _
         | true =>
          simp only [cond_true]
          intro v g e
          simp only [bD, bM] at e ⊢
          obtain ⟨rfl, rfl⟩ := e
          refine ⟨_, ⟨rfl, rfl⟩, ?_⟩
          rw [S.next]
          exact jT (jT (jT S _ _ h.next) _ _ h.next) _ _ h.next
  ·exact SimR.none _
 have hnew : SimP true (aUc args) (aUc args) := fun h h' S => by
  unfold aUc
  split
  ·rename_i n
   cases Nat.blt n 16 || Nat.blt 131072 n with
   | true => exact SimR.some S _
   | false =>
    simp only [cond_false]
    intro v g e
    simp only [bD, bM] at e ⊢
    obtain ⟨rfl, rfl⟩ := e
    rw [S.next]
    exact ⟨_, ⟨rfl, rfl⟩, jT (jT (jT S _ _ h.next) _ _ h.next) _ _ _⟩
  ·exact SimR.some S _
  ·exact SimR.none _
 have hpure : ∀ F : Hp → aH, (∀ h h', Sim true h h' → SimR true (F h) (F h')) → SimP true F F := fun F hF => hF
 have hsm : SimP true (iZ args) (iZ args) := fun h h' S => by unfold iZ; split <;> first | exact SimR.some S _ | exact SimR.none _
 have hva : SimP true (mK args) (mK args) := fun h h' S => by
  unfold mK
  split
  ·rename_i w
   cases iK w <;> exact SimR.some S _
  ·exact SimR.none _
 have hsl : SimP true (oJ args) (oJ args) := fun h h' S => by
  unfold oJ
  split
  ·rename_i n; cases Nat.blt n 1073741824 <;> exact SimR.some S _
  ·rename_i n; cases Nat.blt n 1073741824 <;> exact SimR.some S _
  ·exact SimR.none _
 unfold aAz at hg
 cases h1 : Nat.beq g 20 with
 | true => rw [h1] at hg; cases hg; exact hmay
 | false =>
 cases h2 : Nat.beq g 21 with
 | true => rw [h1, h2] at hg; cases hg; exact his
 | false =>
 cases h3 : Nat.beq g 22 with
 | true => rw [h1, h2, h3] at hg; cases hg; exact hsize
 | false =>
 cases h4 : Nat.beq g 29 with
 | true => rw [h1, h2, h3, h4] at hg; cases hg; exact hroom
 | false =>
 cases h5 : Nat.beq g 30 with
 | true => rw [h1, h2, h3, h4, h5] at hg; cases hg; exact hmake
 | false =>
 cases h6 : Nat.beq g 41 with
 | true => rw [h1, h2, h3, h4, h5, h6] at hg; cases hg; exact hnew
 | false =>
 cases h7 : Nat.beq g 44 with
 | true => rw [h1, h2, h3, h4, h5, h6, h7] at hg; cases hg; exact hsetc
 | false =>
 cases h8 : Nat.beq g 47 with
 | true => rw [h1, h2, h3, h4, h5, h6, h7, h8] at hg; cases hg; exact hput
 | false =>
 cases h9 : Nat.beq g 50 with
 | true => rw [h1, h2, h3, h4, h5, h6, h7, h8, h9] at hg; cases hg; exact hclass
 | false =>
 cases h10 : Nat.beq g 51 with
 | true => rw [h1, h2, h3, h4, h5, h6, h7, h8, h9, h10] at hg; cases hg; exact hformat
 | false =>
 cases h11 : Nat.beq g 52 with
 | true => rw [h1, h2, h3, h4, h5, h6, h7, h8, h9, h10, h11] at hg; cases hg; exact hfields
 | false =>
 cases h12 : Nat.beq g 54 with
 | true => rw [h1, h2, h3, h4, h5, h6, h7, h8, h9, h10, h11, h12] at hg; cases hg; exact hsm
 | false =>
 cases h13 : Nat.beq g 60 with
 | true => rw [h1, h2, h3, h4, h5, h6, h7, h8, h9, h10, h11, h12, h13] at hg; cases hg; exact hsl
 | false =>
 cases h14 : Nat.beq g 62 with
 | true => rw [h1, h2, h3, h4, h5, h6, h7, h8, h9, h10, h11, h12, h13, h14] at hg; cases hg; exact hva
 | false =>
 cases h15 : Nat.beq g 73 with
 | true => rw [h1, h2, h3, h4, h5, h6, h7, h8, h9, h10, h11, h12, h13, h14, h15] at hg; cases hg; exact hget
 | false => rw [h1, h2, h3, h4, h5, h6, h7, h8, h9, h10, h11, h12, h13, h14, h15] at hg; cases hg
theorem aQf (g : FuncId) (F : List DV → Hp → aH) (hg : CF.I g = some F) (args : List DV) : SimP true (F args) (F args) := by
 change (bif Nat.beq g 266 then some mI else bif Nat.beq g 242 then some mA else bif Nat.beq g 174 then some fJ else aAz g) = some F at hg
 cases h1 : Nat.beq g 266 with
 | true => rw [h1] at hg; cases hg; exact aFf args
 | false =>
  cases h2 : Nat.beq g 242 with
  | true => rw [h1, h2] at hg; cases hg; exact aFl args
  | false =>
   cases h3 : Nat.beq g 174 with
   | true => rw [h1, h2, h3] at hg; cases hg; exact sE args
   | false =>
    rw [h1, h2, h3] at hg
    exact bSn g F hg args
theorem bMf (n : Nat) (f : FuncId) (args : List DV) : SimP true (eD n f args) (eD n f args) := by
 rw [aCl]
 exact aFx (I := itm) (q := rgB) (gg := true) (P := Tryz.prog) (I2 := CF.I) (I1 := CF.I) 0 (fun g h => h) (fun g F hg n args => by
  have : bX ⟨Tryz.prog, CF.I⟩ (fV ⟨Tryz.prog, CF.I⟩ (n + 0)) g args = F args := by
   funext h
   unfold bX
   rw [show (⟨Tryz.prog, CF.I⟩ : Cfg).I g = some F from hg]
  rw [this]
  exact aQf g F hg args) n f args
theorem lJ (n : Nat) (g : FuncId) (args : List DV) : SimP true (bX CF (eD n) g args) (bX CF (eD n) g args) := by
 unfold bX
 cases hg : CF.I g with
 | none => exact bMf n g args
 | some F => exact aQf g F hg args
end Go.Dd

namespace Go.Dd
open Go.Proofs
abbrev K4T := DV → DV → DV → DV → Hp → aH
noncomputable abbrev R9 : RT := eD 899
noncomputable def XL : Nat → K := xs x0 7 (fun env h => fH R9 899 (env 5) h)
noncomputable def krN : K := aQ CF Tryz.f10
noncomputable def cEh : Code := cL (cL (cR (cL (cR (cR (cR (cR (cR (cR (cf Tryz.f10))))))))))
noncomputable def kb (kk : K4T) : K := fun env h => kk (env 5) (env 155) (env 156) (env 157) h
noncomputable def aQb (a b c d : DV) : aZ := fun t => bif Nat.beq t 5 then a else bif Nat.beq t 155 then b else bif Nat.beq t 156 then c else bif Nat.beq t 157 then d else .u
theorem aEf (kk : K4T) (a b c d : DV) (h : Hp) : kK R9 899 kk a b c d h = aP CF R9 179 899 cEh XL krN (kb kk) (aQb a b c d) h :=
 (congrFun (congrFun (bFb R9 899 kk) (aQb a b c d)) h).symm
theorem aRj (e : aZ) (h : Hp) : krN e h = some (.t [e 2, e 3], h) := by kernel_rfl
def eKa (r : aH) : Prop := ∃ a b c d h, r = some (.t [a, b, c, d], h)
theorem cGg (a b c d : DV) (h : Hp) : (∃ a' b' c' d' h', ∀ kk : K4T, kK R9 899 kk a b c d h = kk a' b' c' d' h') ∨ (∃ r, ¬ eKa r ∧ ∀ kk : K4T, kK R9 899 kk a b c d h = r) := by
 obtain ⟨O, hO⟩ := zT (C := CF) (rec := R9) (nt := 179) 899 cEh
 have key : ∀ kk : K4T, kK R9 899 kk a b c d h = Out.go (O (aQb a b c d) h) XL krN (kb kk) := fun kk => (aEf kk a b c d h).trans (hO _ _ _ _ _)
 cases ho : O (aQb a b c d) h with
 | none => exact .inr ⟨none, (by rintro ⟨_, _, _, _, _, e⟩; cases e), fun kk => by rw [key kk, ho]; rfl⟩
 | some o =>
  cases o with
  | n e h' => exact .inl ⟨e 5, e 155, e 156, e 157, h', fun kk => by rw [key kk, ho]; rfl⟩
  | r e h' => exact .inr ⟨some (.t [e 2, e 3], h'), (by rintro ⟨_, _, _, _, _, q⟩; cases q), fun kk => by rw [key kk, ho]; exact aRj e h'⟩
  | x i e h' =>
   refine .inr ⟨XL i e h', ?_, fun kk => by rw [key kk, ho]; rfl⟩
   rintro ⟨_, _, _, _, _, q⟩
   unfold XL xs at q
   cases hi : Nat.beq i 7 with
   | true => rw [hi] at q; cases q
   | false => rw [hi] at q; cases q
theorem xC (n : Nat) (kk : K4T) : itN (n + 1) kk = kK R9 899 (itN n kk) := rfl
theorem bTp : ∀ (n : Nat) (a b c d : DV) (h : Hp) (a' b' c' d' : DV) (h' : Hp), itN n bSm a b c d h = some (.t [a', b', c', d'], h') → ∀ kk : K4T, itN n kk a b c d h = kk a' b' c' d' h'
 | 0, a, b, c, d, h, a', b', c', d', h', e, kk => by
  have e' : (some (.t [a, b, c, d], h) : aH) = some (.t [a', b', c', d'], h') := e
  simp only [bD, bM, DV.t.injEq, List.cons.injEq, and_true] at e'
  obtain ⟨⟨rfl, rfl, rfl, rfl⟩, rfl⟩ := e'
  rfl
 | n + 1, a, b, c, d, h, a', b', c', d', h', e, kk => by
  rw [xC] at e ⊢
  rcases cGg a b c d h with ⟨a1, b1, c1, d1, h1, hs⟩ | ⟨r, hr, hs⟩
  ·rw [hs] at e ⊢
   exact bTp n a1 b1 c1 d1 h1 a' b' c' d' h' e kk
  ·rw [hs] at e
   exact absurd ⟨_, _, _, _, _, e⟩ hr
theorem cBv (kk : K4T) (hk : ∀ a b c d, SimP true (kk a b c d) (kk a b c d)) : ∀ (n : Nat) (a b c d : DV), SimP true (itN n kk a b c d) (itN n kk a b c d)
 | 0, a, b, c, d => hk a b c d
 | n + 1, a, b, c, d => by
  have ih := cBv kk hk n
  rw [xC]
  have hX : ∀ j, SimK true (XL j) (XL j) := by
   intro j env h h' S
   unfold XL xs
   cases Nat.beq j 7 with
   | true => exact SimR.some S _
   | false => exact SimR.none _
  have hR : SimK true krN krN := fun env h h' S => by rw [aRj, aRj]; exact SimR.some S _
  have hK : SimK true (kb (itN n kk)) (kb (itN n kk)) := fun env => ih _ _ _ _
  have hc := dP (gg := true) (P := Tryz.prog) (I2 := CF.I) (I1 := CF.I) (rec2 := R9) (rec1 := R9) (fun g args => lJ 899 g args) 179 899 0 cEh XL XL krN krN (kb (itN n kk)) (kb (itN n kk)) hX hR hK (aQb a b c d)
  intro h h' S
  rw [aEf, aEf]
  exact hc h h' S
theorem wV (m : Nat) : ∀ n, kP R9 899 (m + n) = itN n (kP R9 899 m)
 | 0 => rfl
 | n + 1 => by
  rw [xC, ← wV m n]
  rfl
theorem chunk {k n nx nx' : Nat} {L L' : List (Pos × Ob)} (hc : mB (nT k n (dB nx L)) (lI (k + n)) nx' L' = true) (m : Nat) {h : Hp} (S : Sim true (dB nx L) h) :
  ∃ h', Sim true (dB nx' L') h' ∧ kP R9 899 (m + n) (.p (aM 7) 0) (.l (aM 431) 0 75 75) (.i .i64 (.ofNat 75)) (.i .i64 (.ofNat k)) h =
   kP R9 899 m (.p (aM 7) 0) (.l (aM 431) 0 75 75) (.i .i64 (.ofNat 75)) (.i .i64 (.ofNat (k + n))) h' := by
 obtain ⟨g, e1, e2⟩ := bFn hc
 obtain ⟨g', f1, f2⟩ := cBv bSm (fun a b c d h h' S => SimR.some S _) n _ _ _ _ (dB nx L) h S _ _ e1
 refine ⟨g', e2.trans f2, ?_⟩
 rw [wV]
 exact bTp n _ _ _ _ _ _ _ _ _ _ f1 _
theorem bKn (k : K) : aP CF R9 179 899 (cf Tryz.f10) x0 krN k = aP CF R9 179 899 dCb x0 krN (aP CF R9 179 899 bPt x0 krN (aP CF R9 179 899 eGl x0 krN k)) := by kernel_rfl
theorem dPf : aP CF R9 179 899 eGl x0 krN krN = fun env h => fH R9 899 (env 5) h := cIt R9 899
theorem dDj : aP CF R9 179 899 bPt x0 krN (fun env h => fH R9 899 (env 5) h) = fun env h => bHp R9 899 (env 5) (env 155) (env 156) (env 157) h :=
 (by kernel_rfl : aP CF R9 179 899 bPt x0 krN (fun env h => fH R9 899 (env 5) h) = D10 R9 899 (cL (cR (cL (cR (cR (cR (cR (cR (cR (cf Tryz.f10)))))))))) (xs x0 7 (fun (env : aZ) (h : Hp) => fH R9 899 (env 5) h)) (fun (env : aZ) (h : Hp) => fH R9 899 (env 5) h)).trans (bPi R9 899)
theorem dJq (x : DV) (h : Hp) : aG CF R9 899 10 [x] h = aP CF R9 179 899 (cf Tryz.f10) x0 krN krN (aI [x]) h := by kernel_rfl
theorem cTa : ∃ e h', Sim true (dB 432 (nP 20000 553 84 18 [1076, 1096, 6, 24, 42, 60, 78, 96, 114, 132, 150, 168, 186, 204, 222, 240, 258, 276] [(10, 0), (19, 0), (46, 0), (55, 0), (64, 0), (91, 0), (100, 0), (109, 0), (118, 0), (127, 0), (145, 0)] 0)) h' ∧ e 5 = .p (aM 7) 0 ∧ e 155 = .l (aM 431) 0 75 75 ∧ e 156 = .i .i64 (.ofNat 75) ∧ e 157 = .i .i64 (.ofNat 0) ∧
  ∀ X kr k, aP CF R9 179 899 dCb X kr k (aI [.i .i64 (.ofNat 20000)]) hS = k e h' := by
 obtain ⟨O, hO⟩ := zT (C := CF) (rec := R9) (nt := 179) 899 dCb
 obtain ⟨g, e1, e2⟩ := bFn he0
 have e1' : Out.go (O (aI [.i .i64 (.ofNat 20000)]) hS) (fun _ _ _ => none) (fun _ _ => none) eAt = some (.t (lI 0), g) := (hO _ _ _ _ _).symm.trans e1
 cases ho : O (aI [.i .i64 (.ofNat 20000)]) hS with
 | none => rw [ho] at e1'; cases e1'
 | some o =>
  rw [ho] at e1'
  cases o with
  | x i e h' => cases e1'
  | r e h' => cases e1'
  | n e h' =>
   have q : (some (.t [e 5, e 155, e 156, e 157], h') : aH) = some (.t (lI 0), g) := e1'
   simp only [lI, bD, bM, DV.t.injEq, List.cons.injEq, and_true] at q
   obtain ⟨⟨q1, q2, q3, q4⟩, q5⟩ := q
   exact ⟨e, h', by rw [q5]; exact e2, q1, q2, q3, q4, fun X kr k => by rw [hO, ho]; rfl⟩
theorem dNf : ∃ g, eD 900 10 [.i .i64 (.ofNat 20000)] hS = some (.t [.p (aM 7) 0, .i .i64 (.ofNat 0)], g) ∧ Sim true (dB 26855 (nP 20000 4321 583 80 [8370, 1096, 6, 24, 42, 60, 78, 96, 114, 132, 150, 168, 186, 204, 222, 240, 258, 276] [] 75)) g := by
 obtain ⟨e, h0, S0, p1, p2, p3, p4, hpre⟩ := cTa
 obtain ⟨h1, S1, c1⟩ := chunk hc0 894 S0
 obtain ⟨h2, S2, c2⟩ := chunk hc5 889 S1
 obtain ⟨h3, S3, c3⟩ := chunk eLi 884 S2
 obtain ⟨h4, S4, c4⟩ := chunk eJa 879 S3
 obtain ⟨h5, S5, c5⟩ := chunk eKp 874 S4
 obtain ⟨h6, S6, c6⟩ := chunk eHj 869 S5
 obtain ⟨h7, S7, c7⟩ := chunk eJs 864 S6
 obtain ⟨h8, S8, c8⟩ := chunk eHw 859 S7
 obtain ⟨h9, S9, c9⟩ := chunk eGs 854 S8
 obtain ⟨h10, S10, c10⟩ := chunk eLs 849 S9
 obtain ⟨h11, S11, c11⟩ := chunk eHy 844 S10
 obtain ⟨h12, S12, c12⟩ := chunk eMb 839 S11
 obtain ⟨h13, S13, c13⟩ := chunk eLc 834 S12
 obtain ⟨h14, S14, c14⟩ := chunk eJq 829 S13
 obtain ⟨h15, S15, c15⟩ := chunk eLx 824 S14
 refine ⟨h15, ?_, S15⟩
 have e0 : eD 900 10 [.i .i64 (.ofNat 20000)] hS = aG CF R9 899 10 [.i .i64 (.ofNat 20000)] hS := yM 10 rfl 899 _ _
 rw [e0, dJq, bKn, dPf, dDj, hpre]
 show bHp R9 899 (e 5) (e 155) (e 156) (e 157) h0 = _
 rw [p1, p2, p3, p4]
 show kP R9 899 899 _ _ _ _ h0 = _
 refine c1.trans ?_
 refine c2.trans ?_
 refine c3.trans ?_
 refine c4.trans ?_
 refine c5.trans ?_
 refine c6.trans ?_
 refine c7.trans ?_
 refine c8.trans ?_
 refine c9.trans ?_
 refine c10.trans ?_
 refine c11.trans ?_
 refine c12.trans ?_
 refine c13.trans ?_
 refine c14.trans ?_
 refine c15.trans ?_
 rw [show (824 : Nat) = 823 + 1 from rfl]
 show kK R9 899 (kP R9 899 823) _ _ _ _ h15 = _
 unfold kK
 have hl : decide (Int.ofNat 75 < Int.ofNat 75) = false := rfl
 simp only [jM, bO, hl, fP]
 rfl
end Go.Dd

namespace Go.Dd
open Go.Proofs
noncomputable def HLN : List (Pos × Ob) := nP 20000 4321 583 80 [8370, 1096, 6, 24, 42, 60, 78, 96, 114, 132, 150, 168, 186, 204, 222, 240, 258, 276] [] 75
noncomputable def hN : Hp := dB 26855 HLN
noncomputable def gB (l : List (Pos × Ob)) (t : Tr Ob) : Tr Ob := List.rec (motive := fun _ => Tr Ob) t (fun x _ ih => Tr.set x.2 x.1 ih) l
noncomputable def aFe (p : List DV → Bool) (v0 : DV) (nx0 : Nat) (HL : List (Pos × Ob)) (args : List DV) (h : Hp) : aH :=
 bif p args && kY h.next (aM 1) then some (v0, ⟨aM nx0, gB HL h.bl⟩) else none
noncomputable def aOr (args : List DV) : Bool := match args with
 | [.i .i64 (.ofNat m)] => Nat.beq m 20000
 | _ => false
noncomputable def cDe : List DV → Hp → aH := aFe aOr (.t [.p (aM 7) 0, .i .i64 (.ofNat 0)]) 26855 HLN
noncomputable def aBa (n : Nat) : RT := fun g args h => bif Nat.beq g 10 then cDe args h else eD n g args h
noncomputable def okB (r : aH) : Bool := match r with
 | some (.b x, _) => x
 | _ => false
theorem dTd : okB (s16 (aBa 900) 900 hS) = true := by kernel_rfl
end Go.Dd

namespace Go.Dd
open Go.Proofs
abbrev iD (n : Int) : DV := .i .i64 n
section
end
end Go.Dd

namespace Go.Dd
open Go.Proofs
section
end
end Go.Dd

namespace Go.Dd
open Go.Proofs
section
end
end Go.Dd

namespace Go.Dd
open Go.Proofs
section
end
end Go.Dd

namespace Go.Dd
open Go.Proofs
noncomputable def dLw (p : Nat → Bool) (l : List Nat) : Bool := List.rec (motive := fun _ => Bool) true (fun x _ ih => p x && ih) l
theorem aPi {p : Nat → Bool} : ∀ {l : List Nat}, dLw p l = true → ∀ a ∈ l, p a = true
 | [], _, a, h => by cases h
 | x :: l, hl, a, h => by
  change (p x && dLw p l) = true at hl
  simp only [Bool.and_eq_true] at hl
  simp only [List.mem_cons] at h
  rcases h with rfl | h
  ·exact hl.1
  ·exact aPi hl.2 a h
end Go.Dd

namespace Go.Dd
open Go.Proofs
theorem rg0 (rec : FuncId → List DV → Hp → aH) (k : K) (env : aZ) (h : Hp) : gM CF0 rec 49 (fF (cL (cf Tryz.f242))) (fF (cL (cf Tryz.f242))).toList k env h = (
 bnd (bQ (env 1) h) fun v1 h1 =>
 k (bG (bG env (some 3) v1) (some 4) (.i .i64 (Int.ofNat 0))) h1) := by kernel_rfl
theorem rg1 (rec : FuncId → List DV → Hp → aH) (k : K) (env : aZ) (h : Hp) : gM CF0 rec 49 (fF (cL (cR (cf Tryz.f242)))) (fF (cL (cR (cf Tryz.f242)))).toList k env h = (
 bnd (aX (env 0) h) fun v1 h1 =>
 bnd (aB 0 v1 h1) fun v2 h2 =>
 bnd (aB 4 v2 h2) fun v3 h3 =>
 bnd (aA v3 h3) fun v4 h4 =>
 bnd (rec 187 [v4, (.f 277 [] [(env 3)])] h4) fun v5 h5 =>
 k (bG (bG (bG (bG (bG (bG (bG (bG env (some 6) (env 0)) (some 7) v1) (some 8) v2) (some 9) v3) (some 10) v4) (some 11) (.f 277 [] [(env 3)])) (some 12) v5) (some 5) v5) h5) := by kernel_rfl
theorem rg2 (rec : FuncId → List DV → Hp → aH) (k : K) (env : aZ) (h : Hp) : gM CF0 rec 49 (fF (cL (cL (cR (cR (cf Tryz.f242)))))) (fF (cL (cL (cR (cR (cf Tryz.f242)))))).toList k env h = (
 bnd (aD .lss (env 5) (.i .i64 (Int.ofNat 0)) h) fun v1 h1 =>
 k (bG (bG env (some 13) (env 5)) (some 14) v1) h1) := by kernel_rfl
theorem rg3 (rec : FuncId → List DV → Hp → aH) (k : K) (env : aZ) (h : Hp) : gM CF0 rec 49 (fF (cL (cL (cR (cL (cR (cR (cf Tryz.f242)))))))) (fF (cL (cL (cR (cL (cR (cR (cf Tryz.f242)))))))).toList k env h = (
 bnd (aX (env 0) h) fun v1 h1 =>
 bnd (aB 0 v1 h1) fun v2 h2 =>
 bnd (aB 4 v2 h2) fun v3 h3 =>
 bnd (aA v3 h3) fun v4 h4 =>
 bnd (bJ v4 h4) fun v5 h5 =>
 k (bG (bG (bG (bG (bG (bG (bG env (some 15) (env 0)) (some 16) v1) (some 17) v2) (some 18) v3) (some 19) v4) (some 20) v5) (some 5) v5) h5) := by kernel_rfl
theorem rg5 (rec : FuncId → List DV → Hp → aH) (k : K) (env : aZ) (h : Hp) : gM CF0 rec 49 (fF (cL (cL (cR (cR (cL (cR (cL (cR (cR (cf Tryz.f242))))))))))) (fF (cL (cL (cR (cR (cL (cR (cL (cR (cR (cf Tryz.f242))))))))))).toList k env h = (
 bnd (aX (env 0) h) fun v1 h1 =>
 bnd (aB 0 v1 h1) fun v2 h2 =>
 bnd (aB 4 v2 h2) fun v3 h3 =>
 bnd (aA v3 h3) fun v4 h4 =>
 bnd (bJ v4 h4) fun v5 h5 =>
 bnd (aO [(.i .i64 (Int.ofNat 0)), (.s []), (.i .i64 (Int.ofNat 0)), .l0] 1 [(0, 4, (.a [(.i .i64 (Int.ofNat 0)), (.s []), (.i .i64 (Int.ofNat 0)), .l0]))] h5) fun v6 h6 =>
 bnd (aW 4 56 v4 v6 h6) fun v7 h7 =>
 bnd (aX (env 0) h7) fun v8 h8 =>
 bnd (aB 0 v8 h8) fun v9 h9 =>
 bnd (aB 4 v9 h9) fun v10 h10 =>
 bnd (aJ 1 v10 v7 h10) fun _ h11 =>
 k (bG (bG (bG (bG (bG (bG (bG (bG (bG (bG (bG env (some 23) (env 0)) (some 24) v1) (some 25) v2) (some 26) v3) (some 27) v4) (some 28) v5) (some 29) v6) (some 30) v7) (some 31) v8) (some 32) v9) (some 33) v10) h11) := by kernel_rfl
theorem rg6 (rec : FuncId → List DV → Hp → aH) (k : K) (env : aZ) (h : Hp) : gM CF0 rec 49 (fF (cR (cL (cR (cR (cL (cR (cL (cR (cR (cf Tryz.f242))))))))))) (fF (cR (cL (cR (cR (cL (cR (cL (cR (cR (cf Tryz.f242))))))))))).toList k env h = (
 bnd (aL 4 (env 3) h) fun v1 h1 =>
 bnd (aC 4 (env 30) (env 28) h1) fun v2 h2 =>
 bnd (aJ 4 v2 v1 h2) fun _ h3 =>
 k (bG (bG env (some 34) v1) (some 35) v2) h3) := by kernel_rfl
theorem rg7 (rec : FuncId → List DV → Hp → aH) (k : K) (env : aZ) (h : Hp) : gQ CF0 rec 49 (fF (cR (cR (cR (cL (cR (cL (cR (cR (cf Tryz.f242)))))))))) k env h = (
 bnd (aX (env 0) (resv 1 h)) fun v1 h1 =>
 bnd (aB 0 v1 h1) fun v2 h2 =>
 bnd (aB 4 v2 h2) fun v3 h3 =>
 bnd (aA v3 h3) fun v4 h4 =>
 bnd (aL 4 (env 3) h4) fun v5 h5 =>
 bnd (bB (bN 0 h.next) [(.i .i64 (Int.ofNat 0)), (.s []), (.i .i64 (Int.ofNat 0)), .l0] 1 [(0, 4, v5)] h5) fun v6 h6 =>
 bnd (aW 4 56 v4 v6 h6) fun v7 h7 =>
 bnd (aX (env 0) h7) fun v8 h8 =>
 bnd (aB 0 v8 h8) fun v9 h9 =>
 bnd (aB 4 v9 h9) fun v10 h10 =>
 bnd (aJ 1 v10 v7 h10) fun v11 h11 =>
 k (bG (bG (bG (bG (bG (bG (bG (bG (bG (bG (bG (bG env (some 36) (env 0)) (some 37) (env 0)) (some 38) v1) (some 39) v2) (some 40) v3) (some 41) v4) (some 42) v5) (some 43) v6) (some 44) v7) (some 45) v8) (some 46) v9) (some 47) v10) h11) := by kernel_rfl
theorem rg8 (rec : FuncId → List DV → Hp → aH) (k : K) (env : aZ) (h : Hp) : gM CF0 rec 49 (fF (cL (cR (cR (cR (cf Tryz.f242)))))) (fF (cL (cR (cR (cR (cf Tryz.f242)))))).toList k env h = (
 k (bG (bG env (some 48) (env 5)) (some 4) (env 5)) h) := by kernel_rfl
end Go.Dd

namespace Go.Dd
open Go.Proofs
theorem HR.sub {G : Gd} {ρ : cN} {h h' : Hp} {w : World} (S : Sim true h h') (H : HR G ρ h' w) : HR G ρ h w := by
 have hg : ∀ b o, h.bl.get b = some o → h'.bl.get b = some o := fun b o hb => by
  obtain ⟨o', h1, h2⟩ := S.get b o hb
  rw [h1, gT h2]
 have hc : ∀ b a, Claims ρ h b a → Claims ρ h' b a := fun b a ⟨k, l, L, h1, h2, h3⟩ => ⟨k, l, L, hg _ _ h1, h2, h3⟩
 have hro : ∀ b a, Claims ρ h b a → ¬ isRo h b → ¬ isRo h' b := fun b a ⟨k, l, L, h1, h2, h3⟩ hn ⟨l', hl⟩ => by
  rw [hg _ _ h1] at hl
  simp only [bD, Ob.row.injEq] at hl
  exact hn ⟨l, by rw [h1, hl.1]⟩
 exact ⟨H.gl, H.sz, by rw [← S.next]; exact H.nx, fun b a h1 ⟨l, h2⟩ => H.ro b a (hc b a h1) ⟨l, hg _ _ h2⟩, fun b o hb => H.dom b o (hg b o hb), fun b L hb => by rw [← S.next]; exact H.lt b L hb,
  fun b k l L i v h1 => H.cell b k l L i v (hg _ _ h1), fun b l L es j h1 => H.spare b l L es j (hg _ _ h1), fun b a h1 h2 => H.free b a (hc b a h1) (hro b a h1 h2),
  fun b b' a h1 h2 h3 => H.inj b b' a (hc b a h1) (hc b' a h2) (hro b a h1 h3),
  fun b l L h1 => H.ex b l L (h1.elim (fun q => .inl (hg _ _ q)) (fun q => .inr (hg _ _ q))), fun b es l i v h1 => H.grone b es l i v (hg _ _ h1),
  fun b o L h1 h2 => H.itr b o L h1 (hg _ _ h2), fun b o b' o' L L' h1 h2 h3 h4 => H.itj b o b' o' L L' h1 h2 (hg _ _ h3) (hg _ _ h4)⟩
theorem rY : ∀ p : Pos, kY p p = true
 | .h => rfl
 | .o p => rY p
 | .i p => rY p
theorem bIn {p q : Pos} (h : kY p q = false) : p ≠ q := fun e => by subst e; rw [rY] at h; cases h
open Classical in
noncomputable def kk (N : aZ → Hp → Prop) : K := fun env h => if N env h then some (aY, h) else none
theorem oH {N : aZ → Hp → Prop} {env : aZ} {h : Hp} (hn : N env h) : ∃ r, kk N env h = some r := ⟨_, if_pos hn⟩
theorem bZb {N : aZ → Hp → Prop} {env : aZ} {h : Hp} {r} (hn : kk N env h = some r) : N env h := by
 unfold kk at hn
 split at hn
 ·assumption
 ·cases hn
section
variable {C : Cfg} {rec : FuncId → List DV → Hp → aH} {nt : Nat} {X : Nat → aZ → Hp → Prop} {R N : aZ → Hp → Prop} {env : aZ} {h : Hp}
theorem wpS {a b : Code} (H : rL C rec nt a X R (rL C rec nt b X R N) env h) : rL C rec nt (.seq a b) X R N env h := H
theorem aPo {id : Nat} {ops : Array Oper} (H : ∃ r, gM C rec nt ops ops.toList (kk fun e h => nB h → N e h) env h = some r) : rL C rec nt (.region id ops false) X R N env h := by
 obtain ⟨r, hr⟩ := H
 obtain ⟨env', h', h1, h2⟩ := mO _ _ _ _ _ hr
 simp only [rL, Bool.false_eq_true, if_false]
 exact ⟨env', h', h1, bZb h2⟩
theorem eIz {id : Nat} {ops : Array Oper} (hd : eE C.P ops = true) (H : ∃ r, gQ C rec nt ops (kk fun e h => nB h → N e h) env h = some r) : rL C rec nt (.region id ops true) X R N env h := by
 obtain ⟨r, hr⟩ := H
 simp only [rL, if_true]
 exact .inr ⟨hd, _, r, hr, fun env' h' h1 h2 => bZb h1 h2⟩
theorem eKb {id : Nat} {ops : Array Oper} (H : aFz C rec nt ops (fun e h => nB h → N e h) ops.size (Array.replicate ops.size false) env h) : rL C rec nt (.region id ops true) X R N env h := by
 simp only [rL, if_true]
 exact .inl H
theorem wpC {c : Operand} {a b : Code} {t : Bool} (hc : opr env c = .b t) (H : (t = true → rL C rec nt a X R N env h) ∧ (t = false → rL C rec nt b X R N env h)) : rL C rec nt (.cond c a b) X R N env h := by
 cases t with
 | true => exact .inl ⟨hc, H.1 rfl⟩
 | false => exact .inr ⟨hc, H.2 rfl⟩
end
noncomputable def eKw : Code := cL (cR (cL (cR (cL (cR (cR (cf Tryz.f242)))))))
noncomputable def R4 : Array Oper := fF eKw
theorem dWl : cf Tryz.f242 = .seq (.region 0 (fF (cL (cf Tryz.f242))) false) (.seq (.region 1 (fF (cL (cR (cf Tryz.f242)))) false) (.seq (.seq (.region 2 (fF (cL (cL (cR (cR (cf Tryz.f242)))))) false)
 (.cond (.tmp 14) (.seq (.region 3 (fF (cL (cL (cR (cL (cR (cR (cf Tryz.f242)))))))) false) (.seq (.region 4 R4 true) (.cond (.tmp 22)
  (.seq (.region 5 (fF (cL (cL (cR (cR (cL (cR (cL (cR (cR (cf Tryz.f242))))))))))) false) (.region 6 (fF (cR (cL (cR (cR (cL (cR (cL (cR (cR (cf Tryz.f242))))))))))) false))
  (.region 7 (fF (cR (cR (cR (cL (cR (cL (cR (cR (cf Tryz.f242)))))))))) true)))) .skip)) (.seq (.region 8 (fF (cL (cR (cR (cR (cf Tryz.f242)))))) false) .ret))) := by kernel_rfl
noncomputable def o4 (i : Nat) : Oper := (R4.toList[i]?).getD (Oper.mk none (.move (.tmp 0)) 0 "" #[] none)
theorem eMn : R4[0]? = some (o4 0) := by kernel_rfl
theorem dZy : R4[1]? = some (o4 1) := by kernel_rfl
theorem eEd : R4[2]? = some (o4 2) := by kernel_rfl
theorem eHa : R4[3]? = some (o4 3) := by kernel_rfl
theorem eLt (rec : FuncId → List DV → Hp → aH) (env : aZ) (h : Hp) : bH CF0 rec R4 (o4 0) env h = bS [.b false] h := by kernel_rfl
theorem dYd (rec : FuncId → List DV → Hp → aH) (env : aZ) (h : Hp) : bH CF0 rec R4 (o4 1) env h = aJ 1 (env 21) (.b true) h := by kernel_rfl
theorem eAp (rec : FuncId → List DV → Hp → aH) (env : aZ) (h : Hp) : bH CF0 rec R4 (o4 2) env h = aJ 1 (env 21) (.b false) h := by kernel_rfl
theorem eMf (rec : FuncId → List DV → Hp → aH) (env : aZ) (h : Hp) : bH CF0 rec R4 (o4 3) env h = aA (env 21) h := by kernel_rfl
theorem eAw : (o4 0).dst = some 21 := by kernel_rfl
theorem cWg : (o4 1).dst = none := by kernel_rfl
theorem cOz : (o4 2).dst = none := by kernel_rfl
theorem eDr : (o4 3).dst = some 22 := by kernel_rfl
theorem z4 : Array.replicate R4.size false = #[false, false, false, false] := by kernel_rfl
theorem y4 : R4.size = 4 := by kernel_rfl
theorem eGy : Region.ready .any R4 #[false, false, false, false] = [0] := by kernel_rfl
theorem eGj : Region.ready .any R4 #[true, false, false, false] = [1, 2] := by kernel_rfl
theorem eIq : Region.ready .any R4 #[true, true, false, false] = [2] := by kernel_rfl
theorem eHp : Region.ready .any R4 #[true, false, true, false] = [1] := by kernel_rfl
theorem eLj : Region.ready .any R4 #[true, true, true, false] = [3] := by kernel_rfl
theorem eIb : Region.ready .any R4 #[true, true, true, true] = [] := by kernel_rfl
theorem eKt : (#[false, false, false, false] : Array Bool).setIfInBounds 0 true = #[true, false, false, false] := by kernel_rfl
theorem eLm : (#[true, false, false, false] : Array Bool).setIfInBounds 1 true = #[true, true, false, false] := by kernel_rfl
theorem eIm : (#[true, false, false, false] : Array Bool).setIfInBounds 2 true = #[true, false, true, false] := by kernel_rfl
theorem eGw : (#[true, true, false, false] : Array Bool).setIfInBounds 2 true = #[true, true, true, false] := by kernel_rfl
theorem eHi : (#[true, false, true, false] : Array Bool).setIfInBounds 1 true = #[true, true, true, false] := by kernel_rfl
theorem eKv : (#[true, true, true, false] : Array Bool).setIfInBounds 3 true = #[true, true, true, true] := by kernel_rfl
theorem dCc {C : Cfg} {rec : FuncId → List DV → Hp → aH} {nt f i : Nat} {ops : Array Oper} {jB : aZ → Hp → Prop} {listed l' : Array Bool} {env : aZ} {h h' : Hp} {o : Oper} {v : DV} (hr : Region.ready .any ops listed = [i])
  (ho : ops[i]? = some o) (hf : dD nt o.dst = true) (hs : bH C rec ops o env h = some (v, h')) (hl : listed.setIfInBounds i true = l') (hn : aFz C rec nt ops jB f l' (bG env o.dst v) h') : aFz C rec nt ops jB (f + 1) listed env h := by
 refine ⟨fun e => ?_, fun j hj => ?_⟩
 ·rw [hr] at e; cases e
 ·rw [hr] at hj
  simp only [List.mem_singleton] at hj
  subst hj
  exact ⟨o, v, h', ho, hf, hs, by rw [hl]; exact hn⟩
structure After (h h' : Hp) : Prop where
 next : h'.next = h.next.succ
 get : ∀ b, b ≠ h.next → h'.bl.get b = h.bl.get b
theorem eMl {rec : FuncId → List DV → Hp → aH} {jB : aZ → Hp → Prop} {env : aZ} {h : Hp} (H : ∀ x h', After h h' → jB (bG (bG env (some 21) (.p h.next 0)) (some 22) (.b x)) h') :
  aFz CF0 rec 49 R4 jB R4.size (Array.replicate R4.size false) env h := by
 rw [z4, y4]
 have st : ∀ (n : Pos) (bl : Tr Ob) (x y : Bool), bl.get h.next = some (.row .ex [.b y]) → aJ 1 (.p h.next 0) (.b x) ⟨n, bl⟩ = some (aY, ⟨n, Tr.set (.row .ex [.b x]) h.next bl⟩) := fun n bl x y e => by
  simp only [aJ, dR, dF, e, Kind.writable, List.length_singleton, if_true, fT, nS, DV.one, Bool.and_self, Option.map_some]
 have ld : ∀ (n : Pos) (bl : Tr Ob) (x : Bool), bl.get h.next = some (.row .ex [.b x]) → aA (.p h.next 0) ⟨n, bl⟩ = some (.b x, ⟨n, bl⟩) := fun n bl x e => by
  simp only [aA, cellD, rowOf, e, List.getElem?_cons_zero, DV.one, if_true]
 have g0 : ∀ (t : Tr Ob) (x : Bool), (Tr.set (.row .ex [.b x]) h.next t).get h.next = some (.row .ex [.b x]) := fun t x => eMs _ _ _
 have go : ∀ (t : Tr Ob) (x : Bool) (b : Pos), b ≠ h.next → (Tr.set (.row .ex [.b x]) h.next t).get b = t.get b := fun t x b e => eMr _ _ _ _ e
 have fin : ∀ (t : Tr Ob) (x : Bool), (∀ b, b ≠ h.next → t.get b = h.bl.get b) → t.get h.next = some (.row .ex [.b x]) →
   aFz CF0 rec 49 R4 jB 1 #[true, true, true, false] (bG env (some 21) (.p h.next 0)) ⟨h.next.succ, t⟩ := fun t x e1 e2 => by
  refine dCc eLj eHa (by rw [eDr]; rfl) ((eMf _ _ _).trans (ld _ _ x e2)) eKv ?_
  rw [eDr]
  exact ⟨eIb, H x _ ⟨rfl, e1⟩⟩
 refine dCc eGy eMn (by rw [eAw]; rfl) (eLt _ _ _) eKt ?_
 rw [eAw]
 refine ⟨fun e => (by rw [eGj] at e; cases e), fun j hj => ?_⟩
 rw [eGj] at hj
 simp only [List.mem_cons, List.not_mem_nil, or_false] at hj
 rcases hj with rfl | rfl
 ·refine ⟨_, _, _, dZy, by rw [cWg]; rfl, (dYd _ _ _).trans (st _ _ true false (g0 _ _)), ?_⟩
  rw [eLm, cWg]
  refine dCc eIq eEd (by rw [cOz]; rfl) ((eAp _ _ _).trans (st _ _ false true (g0 _ _))) eGw ?_
  rw [cOz]
  exact fin _ false (fun b e => by rw [go _ _ _ e, go _ _ _ e, go _ _ _ e]) (g0 _ _)
 ·refine ⟨_, _, _, eEd, by rw [cOz]; rfl, (eAp _ _ _).trans (st _ _ false false (g0 _ _)), ?_⟩
  rw [eIm, cOz]
  refine dCc eHp dZy (by rw [cWg]; rfl) ((dYd _ _ _).trans (st _ _ true false (g0 _ _))) eHi ?_
  rw [cWg]
  exact fin _ true (fun b e => by rw [go _ _ _ e, go _ _ _ e, go _ _ _ e]) (g0 _ _)
end Go.Dd

namespace Go.Dd
open Go.Proofs
theorem yP {h h' g : Hp} {x v : DV} (hg : ∀ b o, h.bl.get b = some o → h'.bl.get b = some o) (e : aA x h = some (v, g)) : aA x h' = some (v, h') := by
 have S : Sim true ⟨h'.next, h.bl⟩ h' := ⟨rfl, fun b o hb => ⟨o, hg b o hb, iV o⟩⟩
 have e' : aA x ⟨h'.next, h.bl⟩ = some (v, ⟨h'.next, h.bl⟩) := by
  unfold aA at e ⊢
  split at e <;> (try (cases e; done))
  rename_i b o
  change (match cellD b o ⟨h'.next, h.bl⟩ with
   | some v => some (v, (⟨h'.next, h.bl⟩ : Hp))
   | none => none) = _
  change (match cellD b o ⟨h'.next, h.bl⟩ with
   | some v => some (v, h)
   | none => none) = _ at e
  split at e <;> (try (cases e; done))
  rename_i u hu
  simp only [bD, bM] at e
  rw [e.1]
 obtain ⟨k, e1, e2⟩ := iO x _ _ S v _ e'
 obtain ⟨rfl, _⟩ := (show k = h' ∧ True by
  unfold aA at e1
  split at e1 <;> (try (cases e1; done))
  split at e1 <;> (try (cases e1; done))
  simp only [bD, bM] at e1
  exact ⟨e1.2.symm, trivial⟩)
 exact e1
theorem aOy {h h' g : Hp} {n : Nat} {x v : DV} (hg : ∀ b o, h.bl.get b = some o → h'.bl.get b = some o) (e : aL n x h = some (v, g)) : aL n x h' = some (v, h') := by
 have S : Sim true ⟨h'.next, h.bl⟩ h' := ⟨rfl, fun b o hb => ⟨o, hg b o hb, iV o⟩⟩
 have e' : aL n x ⟨h'.next, h.bl⟩ = some (v, ⟨h'.next, h.bl⟩) := by
  unfold aL at e ⊢
  split at e <;> (try (cases e; done))
  rename_i b o
  change (match cellsAt b o n ⟨h'.next, h.bl⟩ with
   | some v => some (DV.a v, (⟨h'.next, h.bl⟩ : Hp))
   | none => none) = _
  change (match cellsAt b o n ⟨h'.next, h.bl⟩ with
   | some v => some (DV.a v, h)
   | none => none) = _ at e
  split at e <;> (try (cases e; done))
  rename_i u hu
  simp only [bD, bM] at e
  rw [← e.1]
 obtain ⟨k, e1, e2⟩ := jL n x _ _ S v _ e'
 obtain ⟨rfl, _⟩ := (show k = h' ∧ True by
  unfold aL at e1
  split at e1 <;> (try (cases e1; done))
  split at e1 <;> (try (cases e1; done))
  simp only [bD, bM] at e1
  exact ⟨e1.2.symm, trivial⟩)
 exact e1
theorem aOh {q : Pos} {l1 v : DV} {cs : List DV} {h k : Hp} (e : jC q l1 cs h = some (v, k)) : ∃ (n : Nat) (old : List DV) (t : Tr Ob), v = .l h.next 0 (n + 1) (n + 1) ∧ (∀ g, bJ l1 g = some (.i .i64 (n : Int), g)) ∧
  old.length = n * 4 ∧ (∀ v ∈ old, v.one = true) ∧ k = ⟨h.next.succ, Tr.set (.row (.gr 4) (old ++ cs)) h.next t⟩ ∧ t.get q = h.bl.get q ∧ (∀ b, t.get b ≠ none → h.bl.get b ≠ none) ∧
  ∀ zs, jC q l1 zs h = some (v, ⟨h.next.succ, Tr.set (.row (.gr 4) (old ++ zs)) h.next t⟩) := by
 unfold jC at e
 split at e <;> (try (cases e; done))
 ·simp only [bD, bM] at e
  obtain ⟨rfl, rfl⟩ := e
  exact ⟨0, [], h.bl, rfl, fun g => rfl, rfl, by simp, rfl, rfl, fun b hb => hb, fun zs => rfl⟩
 ·rename_i b o len cap
  cases hc : (Nat.ble cap len && !(kY b q)) with
  | false => rw [hc] at e; cases e
  | true =>
   rw [hc] at e
   simp only [cnd] at e
   split at e <;> (try (cases e; done))
   rename_i es l old hb hold
   split at e <;> (try (cases e; done))
   rename_i hr
   simp only [bD, bM] at e
   obtain ⟨rfl, rfl⟩ := e
   have hq : q ≠ b := by
    simp only [Bool.and_eq_true, Bool.not_eq_true'] at hc
    exact Ne.symm (bIn hc.2)
   have hl : old.length = len * 4 ∧ ∀ v ∈ old, v.one = true := by
    unfold cellsAt at hold
    split at hold <;> (try (cases hold; done))
    obtain ⟨h1, _, _, h4⟩ := lX _ _ _ hold
    exact ⟨h1, h4⟩
   refine ⟨len, old, Tr.set (.row .sp (bV o l)) b h.bl, rfl, fun g => rfl, hl.1, hl.2, rfl, eMr _ _ _ _ hq, fun x hx => ?_, fun zs => ?_⟩
   ·by_cases e : x = b
    ·rw [e, hb]; simp
    ·rwa [eMr _ _ _ _ e] at hx
   ·unfold jC
    dsimp only
    rw [hc]
    simp only [cnd, hb, hold, if_pos hr]
theorem aJn {q : Pos} {l1 x v : DV} {cs : List DV} {h h' k : Hp} (S : Sim true h h') (hx : aAy 4 x h' = some (1, cs)) (e : jC q l1 cs h = some (v, k)) : ∃ k', aW 4 56 l1 x h' = some (v, k') ∧ Sim true k k' := by
 unfold jC at e
 split at e <;> (try (cases e; done))
 ·simp only [bD, bM] at e
  obtain ⟨rfl, rfl⟩ := e
  refine ⟨⟨h'.next.succ, Tr.set (.row (.gr 4) cs) h'.next h'.bl⟩, ?_, ?_⟩
  ·unfold aW
   rw [hx]
   dsimp only
   rw [if_neg (by simp), if_pos (by decide), S.next]
  ·rw [S.next]; exact S.setR _ _ _ _
 ·rename_i b o len cap
  cases hc : (Nat.ble cap len && !(kY b q)) with
  | false => rw [hc] at e; cases e
  | true =>
   rw [hc] at e
   simp only [cnd] at e
   split at e <;> (try (cases e; done))
   rename_i es l old hb hold
   split at e <;> (try (cases e; done))
   rename_i hr
   simp only [bD, bM] at e
   obtain ⟨rfl, rfl⟩ := e
   have hle : cap ≤ len := by
    simp only [Bool.and_eq_true] at hc
    exact Nat.le_of_ble_eq_true hc.1
   refine ⟨⟨h'.next.succ, Tr.set (.row (.gr 4) (old ++ cs)) h'.next (Tr.set (.row .sp (bV o l)) b h'.bl)⟩, ?_, ?_⟩
   ·unfold aW
    rw [hx]
    dsimp only
    rw [if_neg (by omega), S.row hb, S.cellsAt hold]
    dsimp only
    rw [if_pos hr.2.2, if_pos ⟨hr.1, hr.2.1⟩, S.next]
   ·rw [S.next]
    exact (S.setR .sp (bV o l) b h.next).setR _ _ _ _
theorem aIe : ∀ (old zs cs : List DV), zs.length = cs.length → (∀ v ∈ zs, v.one = true) → (∀ v ∈ cs, v.one = true) → fT old.length (old ++ zs) cs = some (old ++ cs)
 | [], zs, cs, hl, hz, hc => by
  show nS zs cs = some cs
  induction cs generalizing zs with
  | nil => cases zs with
   | nil => rfl
   | cons z zs => simp at hl
  | cons c cs ih => cases zs with
   | nil => simp at hl
   | cons z zs =>
    simp only [nS, hz z (by simp), hc c (by simp), Bool.and_self, if_true]
    rw [ih zs (by simpa using hl) (fun v hv => hz v (by simp [hv])) (fun v hv => hc v (by simp [hv]))]
    rfl
 | x :: old, zs, cs, hl, hz, hc => by
  show (fT old.length (old ++ zs) cs).map (x :: ·) = _
  rw [aIe old zs cs hl hz hc]
  rfl
end Go.Dd

namespace Go.Dd
open Go.Proofs
theorem bNe : (Tryz.prog.funcs.toList.all fun fn => !(fn.name == "runtime.NumGoroutine")) = true := by kernel_rfl
theorem Try_ok : POk Tryz.prog where
 mixed := by kernel_rfl
 names := by
  intro f fn hf
  have h := List.all_eq_true.1 bNe fn (by
   obtain ⟨hlt, rfl⟩ := Array.getElem?_eq_some_iff.1 hf
   simp)
  simpa using h
theorem KC0 : OkC CF0 (tK CF0 60) := ⟨fun G g F h => (by cases h), fun G g => cMb (C := CF0) Try_ok (fun G g F h => (by cases h)) 60 G g⟩
theorem dHk (e : aZ) (h : Hp) : aQ CF0 Tryz.f242 e h = some (e 4, h) := by kernel_rfl
theorem eBo : Tryz.f242.ntmps = 49 := by kernel_rfl
theorem dYk : Tryz.prog.funcs[242]? = some Tryz.f242 := by kernel_rfl
theorem cUh : Tryz.f242.body = some (cf Tryz.f242) := by kernel_rfl
theorem dVg : eE CF0.P (fF (cR (cR (cR (cL (cR (cL (cR (cR (cf Tryz.f242)))))))))) = true := by kernel_rfl
theorem bDu {X : Nat → aZ → Hp → Prop} {N : aZ → Hp → Prop} {env : aZ} {v : DV} {h h1 : Hp} (he : env 5 = v) (S : Sim true h1 h) :
  rL CF0 (tK CF0 60) 49 (.seq (.region 8 (fF (cL (cR (cR (cR (cf Tryz.f242)))))) false) .ret) X (fun env h' => ∃ h2, aQ CF0 Tryz.f242 env h' = some (v, h2) ∧ Le h2 h1) N env h := by
 refine wpS (aPo ?_)
 rw [rg8]
 refine oH fun _ => ?_
 exact ⟨h, (dHk _ _).trans (by rw [show (bG (bG env (some 48) (env 5)) (some 4) (env 5)) 4 = env 5 from rfl, he]), fun G ρ w H => H.sub S⟩
theorem mT {F : Hp → aH} (hF : PureP F) {h g : Hp} {v : DV} (e : F h = some (v, g)) : g = h ∧ ∀ h', F h' = some (v, h') := hF h v g e
theorem nM {h g : Hp} {c : Pos} {o : Nat} {v : DV} (e : aA (.p c o) h = some (v, g)) : g = h ∧ ∃ u, h.bl.get c = some u := by
 change (match cellD c o h with
  | some v => some (v, h)
  | none => none) = _ at e
 split at e <;> (try (cases e; done))
 rename_i u hu
 simp only [bD, bM] at e
 refine ⟨e.2.symm, ?_⟩
 unfold cellD rowOf at hu
 cases hc : h.bl.get c with
 | none => rw [hc] at hu; cases hu
 | some u => exact ⟨u, rfl⟩
theorem nL {h g : Hp} {c : Pos} {o n : Nat} {v : DV} (e : aL n (.p c o) h = some (v, g)) : g = h ∧ (∃ u, h.bl.get c = some u) ∧ ∃ cs, v = .a cs ∧ cs.length = n ∧ ∀ x ∈ cs, x.one = true := by
 change (match cellsAt c o n h with
  | some cs => some (DV.a cs, h)
  | none => none) = _ at e
 split at e <;> (try (cases e; done))
 rename_i u hu
 simp only [bD, bM] at e
 refine ⟨e.2.symm, ?_⟩
 unfold cellsAt rowOf at hu
 cases hc : h.bl.get c with
 | none => rw [hc] at hu; cases hu
 | some ob =>
  refine ⟨⟨ob, rfl⟩, u, e.1.symm, ?_⟩
  rw [hc] at hu
  split at hu <;> (try (cases hu; done))
  obtain ⟨h1, _, _, h4⟩ := lX _ _ _ hu
  exact ⟨h1, h4⟩
theorem Sim.of_get {h h' : Hp} (e : h'.next = h.next) (g : ∀ b o, h.bl.get b = some o → h'.bl.get b = some o) : Sim true h h' := ⟨e, fun b o hb => ⟨o, g b o hb, iV o⟩⟩
theorem aBz (c : Pos) (h : Hp) : aX (.p c 0) h = some (.p c 0, h) := rfl
theorem bIz (c : Pos) (h : Hp) : aB 0 (.p c 0) h = some (.p c 0, h) := rfl
theorem bIu (c : Pos) (h : Hp) : aB 4 (.p c 0) h = some (.p c 4, h) := rfl
theorem nX (env : aZ) (i : Nat) (v : DV) (j : Nat) (h : Nat.beq j i = false) : bG env (some i) v j = env j := by
 show (bif Nat.beq j i then v else env j) = _
 rw [h]; rfl
theorem mF (env : aZ) (i : Nat) (v : DV) : bG env (some i) v i = v := by
 show (bif Nat.beq i i then v else env i) = _
 rw [Nat.beq_refl]; rfl
theorem aOa : ∀ cs : List DV, (∀ v ∈ cs, v.one = true) → rB cs.length cs = some cs
 | [], _ => rfl
 | c :: cs, h => by
  show (if c.one then (rB cs.length cs).map (c :: ·) else none) = _
  rw [if_pos (h c (by simp)), aOa cs fun v hv => h v (by simp [hv])]
  rfl
theorem aCe {cs : List DV} (h4 : cs.length = 4) (ho : ∀ v ∈ cs, v.one = true) (p n : Pos) (t : Tr Ob) : aAy 4 (.l p 0 1 1) ⟨n, Tr.set (.row .ex cs) p t⟩ = some (1, cs) := by
 have e : cellsAt p 0 (1 * 4) ⟨n, Tr.set (.row .ex cs) p t⟩ = some cs := by
  unfold cellsAt rowOf
  simp only [eMs, List.drop_zero]
  rw [show 1 * 4 = cs.length by rw [h4]]
  exact aOa cs ho
 simp only [aAy, e]
theorem cEj {h h' : Hp} {n o : Nat} {q : Pos} {v : DV} (hg : h'.bl.get q = h.bl.get q) (e : aL n (.p q o) h = some (v, h)) : aL n (.p q o) h' = some (v, h') := by
 have e1 : cellsAt q o n h' = cellsAt q o n h := by
  unfold cellsAt rowOf
  rw [hg]
 change (match cellsAt q o n h with
  | some cs => some (DV.a cs, h)
  | none => none) = _ at e
 show (match cellsAt q o n h' with
  | some cs => some (DV.a cs, h')
  | none => none) = _
 rw [e1]
 split at e <;> (try (cases e; done))
 simp only [bD, bM] at e
 rw [e.1]
structure Way (g3 h5 : Hp) (c q : Pos) (l1 l2 n u : DV) (cs : List DV) (k3 k4 : Hp) (env : aZ) : Prop where
 fr : nB g3
 af : After g3 h5
 hl : aA (.p c 4) g3 = some (l1, g3)
 hx : aL 4 (.p q 0) g3 = some (.a cs, g3)
 ne : c ≠ q
 hn : bJ l1 g3 = some (n, g3)
 ap : jC q l1 cs ⟨g3.next.succ.succ, g3.bl⟩ = some (l2, k3)
 st : aJ 1 (.p c 4) l2 k3 = some (u, k4)
 e0 : env 0 = .p c 0
 e3 : env 3 = .p q 0
 e5 : env 5 = n
section
theorem Way.up {g3 h5 : Hp} {c q : Pos} {l1 l2 n u : DV} {cs : List DV} {k3 k4 : Hp} {env : aZ} (W : Way g3 h5 c q l1 l2 n u cs k3 k4 env) : ∀ b o, g3.bl.get b = some o → h5.bl.get b = some o := fun b o hb => by
 rw [W.af.get b (fun e => ?_)]
 ·exact hb
 ·subst e; exact Nat.lt_irrefl _ (W.fr _ _ hb)
theorem Way.c5 {g3 h5 : Hp} {c q : Pos} {l1 l2 n u : DV} {cs : List DV} {k3 k4 : Hp} {env : aZ} (W : Way g3 h5 c q l1 l2 n u cs k3 k4 env) (n' : Pos) : aA (.p c 4) ⟨n', h5.bl⟩ = some (l1, ⟨n', h5.bl⟩) := yP W.up W.hl
theorem Way.q5 {g3 h5 : Hp} {c q : Pos} {l1 l2 n u : DV} {cs : List DV} {k3 k4 : Hp} {env : aZ} (W : Way g3 h5 c q l1 l2 n u cs k3 k4 env) (n' : Pos) : aL 4 (.p q 0) ⟨n', h5.bl⟩ = some (.a cs, ⟨n', h5.bl⟩) := aOy W.up W.hx
theorem Way.len {g3 h5 : Hp} {c q : Pos} {l1 l2 n u : DV} {cs : List DV} {k3 k4 : Hp} {env : aZ} (W : Way g3 h5 c q l1 l2 n u cs k3 k4 env) (h : Hp) : bJ l1 h = some (n, h) := (mT (jP l1) W.hn).2 h
theorem Way.base {g3 h5 : Hp} {c q : Pos} {l1 l2 n u : DV} {cs : List DV} {k3 k4 : Hp} {env : aZ} (W : Way g3 h5 c q l1 l2 n u cs k3 k4 env) (o : Ob) : Sim true ⟨g3.next.succ.succ, g3.bl⟩ ⟨h5.next.succ, Tr.set o h5.next h5.bl⟩ := Sim.of_get (by rw [W.af.next]) fun b ob hb => by
 show (Tr.set o h5.next h5.bl).get b = _
 rw [eMr, W.up b ob hb]
 intro e
 have h1 := W.fr b ob hb
 have s1 := eMv g3.next
 rw [e, W.af.next] at h1
 omega
theorem Way.app {g3 h5 : Hp} {c q : Pos} {l1 l2 n u : DV} {cs : List DV} {k3 k4 : Hp} {env : aZ} (W : Way g3 h5 c q l1 l2 n u cs k3 k4 env) {hh : Hp} (S : Sim true ⟨g3.next.succ.succ, g3.bl⟩ hh) {y : DV} (hy : aAy 4 y hh = some (1, cs)) : ∃ k', aW 4 56 l1 y hh = some (l2, k') ∧ ∃ k'', aJ 1 (.p c 4) l2 k' = some (u, k'') ∧ Sim true k4 k'' := by
 obtain ⟨k', h1, h2⟩ := aJn S hy W.ap
 obtain ⟨k'', h3, h4⟩ := jJ 1 _ _ _ _ h2 _ _ W.st
 exact ⟨k', h1, k'', h3, h4⟩
theorem Way.one {g3 h5 : Hp} {c q : Pos} {l1 l2 n u : DV} {cs : List DV} {k3 k4 : Hp} {env : aZ} (W : Way g3 h5 c q l1 l2 n u cs k3 k4 env) : cs.length = 4 ∧ ∀ v ∈ cs, v.one = true := by
 obtain ⟨_, _, cs', e, h1, h2⟩ := nL W.hx
 cases e
 exact ⟨h1, h2⟩
theorem Way.B {g3 h5 : Hp} {c q : Pos} {l1 l2 n u : DV} {cs : List DV} {k3 k4 : Hp} {env : aZ} (W : Way g3 h5 c q l1 l2 n u cs k3 k4 env) {X : Nat → aZ → Hp → Prop} {R N : aZ → Hp → Prop} (hN : ∀ env' h', env' 5 = n → Sim true k4 h' → N env' h') : rL CF0 (tK CF0 60) 49 (.region 7 (fF (cR (cR (cR (cL (cR (cL (cR (cR (cf Tryz.f242)))))))))) true) X R N env h5 := by
 obtain ⟨k', h1, k'', h2, h3⟩ := W.app (W.base (.row .ex cs)) (aCe W.one.1 W.one.2 h5.next h5.next.succ h5.bl)
 have fl : bB (bN 0 h5.next) [(.i .i64 (Int.ofNat 0)), (.s []), (.i .i64 (Int.ofNat 0)), .l0] 1 [(0, 4, .a cs)] ⟨h5.next.succ, h5.bl⟩ = some (.l h5.next 0 1 1, ⟨h5.next.succ, Tr.set (.row .ex cs) h5.next h5.bl⟩) := by
  simp only [bB, mE, dR, W.one.1]
  simp [bN]
 refine eIz dVg ?_
 rw [rg7]
 simp only [W.e0, W.e3, aBz, bO, bIz, bIu, show resv 1 h5 = ⟨h5.next.succ, h5.bl⟩ from rfl, W.c5, W.q5, fl, h1, h2]
 refine oH fun _ => hN _ _ ?_ h3
 simp only [nX, Nat.beq]
 exact W.e5
theorem Way.A {g3 h5 : Hp} {c q : Pos} {l1 l2 n u : DV} {cs : List DV} {k3 k4 : Hp} {env : aZ} (W : Way g3 h5 c q l1 l2 n u cs k3 k4 env) {X : Nat → aZ → Hp → Prop} {R N : aZ → Hp → Prop} (hN : ∀ env' h', env' 5 = n → Sim true k4 h' → N env' h') : rL CF0 (tK CF0 60) 49 (.seq (.region 5 (fF (cL (cL (cR (cR (cL (cR (cL (cR (cR (cf Tryz.f242))))))))))) false)
  (.region 6 (fF (cR (cL (cR (cR (cL (cR (cL (cR (cR (cf Tryz.f242))))))))))) false)) X R N env h5 := by
 obtain ⟨m, old, t, hl2, hm, hol, hoo, hk3, htq, htd, hz⟩ := aOh W.ap
 have hzz := hz [.i .i64 (Int.ofNat 0), .s [], .i .i64 (Int.ofNat 0), .l0]
 have hn : n = .i .i64 (m : Int) := by
  have e1 := W.len g3
  rw [hm] at e1
  simp only [bD, bM, and_true] at e1
  exact e1.symm
 dsimp only at hl2 hk3 htq htd hzz
 obtain ⟨_, uc, huc⟩ := nM W.hl
 have hcs : c ≠ g3.next.succ.succ := fun e => by
  have h1 := W.fr _ _ huc
  have s1 := eMv g3.next
  have s2 := eMv g3.next.succ
  rw [e] at h1
  omega
 obtain ⟨_, ⟨uq, huq⟩, _⟩ := nL W.hx
 have hqs : q ≠ g3.next.succ.succ := fun e => by
  have h1 := W.fr _ _ huq
  have s1 := eMv g3.next
  have s2 := eMv g3.next.succ
  rw [e] at h1
  omega
 have hst := W.st
 rw [hk3] at hst
 have hst2 : ∃ kd l l', t.get c = some (.row kd l) ∧ k4 = ⟨g3.next.succ.succ.succ, Tr.set (.row kd l') c (Tr.set (.row (.gr 4) (old ++ cs)) g3.next.succ.succ t)⟩ ∧
   ∀ zs, aJ 1 (.p c 4) l2 ⟨g3.next.succ.succ.succ, Tr.set (.row (.gr 4) zs) g3.next.succ.succ t⟩ = some (u, ⟨g3.next.succ.succ.succ, Tr.set (.row kd l') c (Tr.set (.row (.gr 4) zs) g3.next.succ.succ t)⟩) := by
  rw [hl2] at hst ⊢
  simp only [aJ, dR, List.length_singleton, if_true, dF, eMr _ _ _ _ hcs] at hst ⊢
  cases htc : t.get c with
  | none => rw [htc] at hst; cases hst
  | some o =>
   rw [htc] at hst
   cases o with
   | row kd l =>
    dsimp only at hst ⊢
    cases hw : kd.writable with
    | false => rw [hw] at hst; cases hst
    | true =>
     rw [hw, if_pos rfl] at hst
     cases hp : fT 4 l [.l g3.next.succ.succ 0 (m + 1) (m + 1)] with
     | none => rw [hp] at hst; cases hst
     | some l' =>
      rw [hp] at hst
      simp only [bD, bM] at hst
      exact ⟨kd, l, l', rfl, hst.2.symm, fun zs => by simp only [hw, if_true, hp, hst.1]⟩
   | it s p => cases hst
   | mp es => cases hst
   | big n t => cases hst
   | mi t => cases hst
 obtain ⟨kd, l, l', htc, hk4, hstz⟩ := hst2
 obtain ⟨k6, h6, S6⟩ := aJn (W.base (.row .ex [.i .i64 (Int.ofNat 0), .s [], .i .i64 (Int.ofNat 0), .l0])) (aCe rfl (by simp [DV.one]) h5.next h5.next.succ h5.bl) hzz
 obtain ⟨k7, h7, S7⟩ := jJ 1 _ _ _ _ S6 _ _ (hstz _)
 have hqz := cEj (h' := ⟨g3.next.succ.succ.succ, Tr.set (.row kd l') c (Tr.set (.row (.gr 4) (old ++ [.i .i64 (Int.ofNat 0), .s [], .i .i64 (Int.ofNat 0), .l0])) g3.next.succ.succ t)⟩) (by
  show (Tr.set _ c (Tr.set _ _ t)).get q = _
  rw [eMr _ _ _ _ (Ne.symm W.ne), eMr _ _ _ _ hqs, htq]) W.hx
 obtain ⟨k8, h8, S8⟩ := jL 4 _ _ _ S7 _ _ hqz
 have hfin : aJ 4 (.p g3.next.succ.succ (0 + m * 4)) (.a cs) ⟨g3.next.succ.succ.succ, Tr.set (.row kd l') c (Tr.set (.row (.gr 4) (old ++ [.i .i64 (Int.ofNat 0), .s [], .i .i64 (Int.ofNat 0), .l0])) g3.next.succ.succ t)⟩ =
   some (aY, ⟨g3.next.succ.succ.succ, Tr.set (.row (.gr 4) (old ++ cs)) g3.next.succ.succ (Tr.set (.row kd l') c (Tr.set (.row (.gr 4) (old ++ [.i .i64 (Int.ofNat 0), .s [], .i .i64 (Int.ofNat 0), .l0])) g3.next.succ.succ t))⟩) := by
  have hp := aIe old [.i .i64 (Int.ofNat 0), .s [], .i .i64 (Int.ofNat 0), .l0] cs (by rw [W.one.1]; rfl) (by simp [DV.one]) W.one.2
  simp only [aJ, dR, W.one.1, if_true, dF, eMr _ _ _ _ (Ne.symm hcs), eMs, Kind.writable, Nat.zero_add, ← hol, hp]
 obtain ⟨k9, h9, S9⟩ := jJ 4 _ _ _ _ S8 _ _ hfin
 have S10 : Sim true k4 k9 := by
  refine Sim.trans ?_ S9
  rw [hk4]
  refine Sim.of_get rfl fun b o hb => ?_
  change (Tr.set (.row kd l') c (Tr.set _ g3.next.succ.succ t)).get b = some o at hb
  show (Tr.set _ g3.next.succ.succ (Tr.set (.row kd l') c (Tr.set _ g3.next.succ.succ t))).get b = some o
  by_cases e1 : b = g3.next.succ.succ
  ·rw [e1] at hb ⊢
   rw [eMr _ _ _ _ (Ne.symm hcs), eMs] at hb
   rw [eMs, hb]
  ·rw [eMr _ _ _ _ e1]
   by_cases e2 : b = c
   ·rw [e2] at hb ⊢
    rw [eMs] at hb ⊢
    exact hb
   ·rw [eMr _ _ _ _ e2, eMr _ _ _ _ e1] at hb ⊢
    exact hb
 have fl : aO [(.i .i64 (Int.ofNat 0)), (.s []), (.i .i64 (Int.ofNat 0)), .l0] 1 [(0, 4, (.a [(.i .i64 (Int.ofNat 0)), (.s []), (.i .i64 (Int.ofNat 0)), .l0]))] h5 = some (.l h5.next 0 1 1, ⟨h5.next.succ, Tr.set (.row .ex [.i .i64 (Int.ofNat 0), .s [], .i .i64 (Int.ofNat 0), .l0]) h5.next h5.bl⟩) := by
  simp [aO, mE, dR]
 refine wpS (aPo ?_)
 rw [rg5]
 have c5 : aA (.p c 4) h5 = some (l1, h5) := W.c5 h5.next
 have ix : aC 4 l2 n k8 = some (.p g3.next.succ.succ (0 + m * 4), k8) := by
  rw [hl2, hn]
  show (if (0 : Int) ≤ (m : Int) ∧ (m : Int) < ((m + 1 : Nat) : Int) then some (DV.p g3.next.succ.succ (0 + (m : Int).toNat * 4), k8) else none) = _
  rw [if_pos (by omega)]
  simp
 simp only [W.e0, W.e3, aBz, bO, bIz, bIu, c5, W.len, fl, h6, h7]
 refine oH fun _ => aPo ?_
 rw [rg6]
 simp only [nX, mF, Nat.beq, W.e3, h8, bO, ix, h9]
 refine oH fun _ => hN _ _ ?_ S10
 simp only [nX, Nat.beq]
 exact W.e5
end
theorem cVm {h h1 : Hp} {c q : Pos} {v : DV} (hr : rT c q h = some (v, h1)) (hf : nB h) {env : aZ} (e0 : env 0 = .p c 0) (e3 : env 3 = .p q 0)
  {X : Nat → aZ → Hp → Prop} {R N : aZ → Hp → Prop} (hN : ∀ env' h', env' 5 = v → Sim true h1 h' → N env' h') :
  rL CF0 (tK CF0 60) 49 (.seq (.region 3 (fF (cL (cL (cR (cL (cR (cR (cf Tryz.f242)))))))) false) (.seq (.region 4 R4 true) (.cond (.tmp 22)
   (.seq (.region 5 (fF (cL (cL (cR (cR (cL (cR (cL (cR (cR (cf Tryz.f242))))))))))) false) (.region 6 (fF (cR (cL (cR (cR (cL (cR (cL (cR (cR (cf Tryz.f242))))))))))) false))
   (.region 7 (fF (cR (cR (cR (cL (cR (cL (cR (cR (cf Tryz.f242)))))))))) true)))) X R N env h := by
 unfold rT at hr
 obtain ⟨l1, g1, hl1, hr⟩ := cO hr
 obtain ⟨n, g2, hn, hr⟩ := cO hr
 obtain ⟨x, g3, hx, hr⟩ := cO hr
 obtain ⟨rfl, uc, huc⟩ := nM hl1
 have hn0 := hn
 obtain ⟨rfl, hn⟩ := mT (jP l1) hn
 obtain ⟨rfl, ⟨uq, huq⟩, cs, rfl, hcl, hco⟩ := nL hx
 dsimp only at hr
 cases hcq : kY c q with
 | true => rw [hcq] at hr; cases hr
 | false =>
 rw [hcq] at hr
 have hcq' : c ≠ q := bIn hcq
 simp only [cnd, Bool.not_false] at hr
 obtain ⟨l2, k3, ha, hr⟩ := cO hr
 obtain ⟨u, k4, hs, hr⟩ := cO hr
 simp only [bD, bM] at hr
 obtain ⟨rfl, rfl⟩ := hr
 refine wpS (aPo ?_)
 rw [rg3]
 rw [show aX (env 0) g3 = some (.p c 0, g3) from by rw [e0]; rfl]
 show ∃ r, bnd (aA (.p c 4) g3) _ = some r
 rw [hl1]
 show ∃ r, bnd (bJ l1 g3) _ = some r
 rw [hn0, bO]
 refine oH fun _ => ?_
 refine wpS (eKb (eMl fun x h5 A F5 => ?_))
 have W : Way g3 h5 c q l1 l2 n u cs k3 k4 (bG (bG (bG (bG (bG (bG (bG (bG (bG env (some 15) (env 0)) (some 16) (DV.p c 0)) (some 17) (DV.p c (0 + 0))) (some 18) (DV.p c (0 + 0 + 4))) (some 19) l1) (some 20) n) (some 5) n) (some 21) (DV.p g3.next 0)) (some 22) (DV.b x)) :=
  ⟨hf, A, hl1, hx, hcq', hn0, ha, hs, e0, e3, rfl⟩
 refine wpC (t := x) rfl ⟨fun _ => ?_, fun _ => ?_⟩
 ·exact W.A hN
 ·exact W.B hN
theorem bJi (c : Pos) (lit : List DV) (h : Hp) : bQ (aI [.p c 0, .a lit] 1) h = some (.p h.next 0, ⟨h.next.succ, Tr.set (.row .ex lit) h.next h.bl⟩) := rfl
theorem dPx (G : Gd) : kA Tryz.prog G 242 mA := by
 refine dHq (C := CF0) (rec := tK CF0 60) KC0 Try_ok dYk cUh fun args h v h1 hr hf => ?_
 unfold mA at hr
 split at hr <;> (try (cases hr; done))
 rename_i c lit
 obtain ⟨vb, hb, h0, hr⟩ := cO hr
 simp only [bS, bD, bM] at h0
 obtain ⟨rfl, rfl⟩ := h0
 obtain ⟨ls, h2, hl, hr⟩ := cO hr
 obtain ⟨rfl, _⟩ := nM hl
 obtain ⟨i, h3, hi, hr⟩ := cO hr
 obtain ⟨tt, h4, ht, hif⟩ := cO hr
 clear hr
 obtain ⟨rfl, hlt⟩ := mT (mP _ _ _) ht
 rw [dWl, eBo]
 refine wpS (aPo ?_)
 rw [rg0, bJi, bO]
 refine oH fun _ => ?_
 refine wpS (aPo ?_)
 rw [rg1]
 simp only [nX, mF, Nat.beq, show aI [.p c 0, .a lit] 0 = .p c 0 from rfl, aBz, bO, bIz, bIu, hl, hi]
 refine oH fun F4 => ?_
 refine wpS (wpS (aPo ?_))
 rw [rg2]
 simp only [nX, mF, Nat.beq, ht, bO]
 refine oH fun _ => ?_
 unfold aU at hif
 split at hif <;> (try (cases hif; done))
 ·refine wpC (t := true) rfl ⟨fun _ => ?_, fun e => (by cases e)⟩
  refine cVm hif F4 ?_ ?_ ?_
  ·rfl
  ·rfl
  ·intro env' h' e5 S
   exact bDu e5 S
 ·simp only [bD, bM] at hif
  obtain ⟨rfl, rfl⟩ := hif
  refine wpC (t := false) rfl ⟨fun e => (by cases e), fun _ => ?_⟩
  exact bDu rfl (Sim.refl _)
end Go.Dd

namespace Go.Dd
open Go.Proofs
section
variable {P : Program}
theorem zB {ops : Array Oper} {Q : Exit → Act → World → Prop} : ∀ (f : Nat) (l : Array Bool) (a : Act) (w : World), wpAny P .any ops Q f l a w → wpAny P .any ops Q (f + 1) l a w
 | 0, l, a, w, h => ⟨fun _ => h.2, fun i hi => by rw [h.1] at hi; cases hi⟩
 | f + 1, l, a, w, h => ⟨h.1, fun i hi => wpOp_mono (fun a w => zB f _ a w) (h.2 i hi)⟩
theorem aBw {ops : Array Oper} {Q : Exit → Act → World → Prop} {F : Nat} {l : Array Bool} {a : Act} {w : World} (h : wpAny P .any ops Q F l a w) : ∀ f, wpAny P .any ops Q (f + F) l a w
 | 0 => by rw [Nat.zero_add]; exact h
 | f + 1 => by rw [Nat.succ_add]; exact zB _ _ _ _ (aBw h f)
structure Parts (ops pre : Array Oper) (m : Nat) : Prop where
 sz : pre.size = m
 le : m ≤ ops.size
 get : ∀ (i : Nat), i < m → ops[i]? = pre[i]?
 ng : ∀ (i : Nat) (o : Oper), pre[i]? = some o → o.guard = none
 back : ∀ (i : Nat) (o : Oper), pre[i]? = some o → ∀ e ∈ o.after, Region.binds .any e = true → e.on < i
 wait : ∀ (j : Nat) (o : Oper), m ≤ j → ops[j]? = some o → ∀ i, i < m → ∃ e ∈ o.after, Region.binds .any e = true ∧ e.on = i
def QN (R : Act → World → Prop) (Q : Exit → Act → World → Prop) : Exit → Act → World → Prop
 | .normal, a, w => R a w
 | .exit i, a, w => Q (.exit i) a w
 | .ret, a, w => Q .ret a w
 | .goto l, a, w => Q (.goto l) a w
 | .panic c, a, w => Q (.panic c) a w
 | .outgrown, a, w => Q .outgrown a w
theorem cOp {R : Act → World → Prop} {Q : Exit → Act → World → Prop} {o : Oper} {a : Act} {K K' : Act → World → Prop} (hK : ∀ a w, K a w → K' a w) {r : Result Next} (h : o.upon P a K (QN R Q) r) : o.upon P a K' Q r := by
 cases r with
 | ok n w' =>
  cases n <;> simp only [Oper.upon] at h ⊢ <;>
   first
    | exact hK _ _ h
    | exact Calls.mono h (fun e w'' he => by cases e <;> first | exact hK _ _ he | exact he)
    | exact Rows.mono h (fun _ _ he => hK _ _ he)
 | halt x w' => cases x <;> simp only [Oper.upon] at h ⊢ <;> exact h
theorem ready_mem {ops : Array Oper} {l : Array Bool} {i : Nat} : i ∈ Region.ready .any ops l ↔ i < ops.size ∧ l.getD i true = false ∧ ∃ o, ops[i]? = some o ∧ ∀ e ∈ o.after, Region.binds .any e = true → l.getD e.on false = true := by
 unfold Region.ready
 simp only [List.mem_filter, List.mem_range, Bool.and_eq_true, Bool.not_eq_true']
 constructor
 ·rintro ⟨h1, h2, h3⟩
  refine ⟨h1, h2, ?_⟩
  cases ho : ops[i]? with
  | none => rw [ho] at h3; cases h3
  | some o =>
   rw [ho] at h3
   refine ⟨o, rfl, fun e he hb => ?_⟩
   simp only [Option.map_some, Option.getD_some, Array.all_eq_true_iff_forall_mem] at h3
   have := h3 e he
   simpa [hb] using this
 ·rintro ⟨h1, h2, o, h3, h4⟩
  refine ⟨h1, h2, ?_⟩
  rw [h3]
  simp only [Option.map_some, Option.getD_some, Array.all_eq_true_iff_forall_mem]
  intro e he
  cases hb : Region.binds .any e with
  | false => rfl
  | true => simpa [hb] using h4 e he hb
theorem tG {l : Array Bool} : ∀ (m : Nat), (∃ i, i < m ∧ l.getD i true = false) → ∃ i, i < m ∧ l.getD i true = false ∧ ∀ j, j < i → l.getD j true = true
 | 0, ⟨i, h, _⟩ => absurd h (Nat.not_lt_zero _)
 | m + 1, ⟨i, h1, h2⟩ => by
  by_cases hx : ∃ i, i < m ∧ l.getD i true = false
  ·obtain ⟨j, a, b, c⟩ := tG m hx
   exact ⟨j, by omega, b, c⟩
  ·refine ⟨i, h1, h2, fun j hj => ?_⟩
   cases hc : l.getD j true with
   | true => rfl
   | false => exact absurd ⟨j, by omega, hc⟩ hx
theorem aPw {ops pre : Array Oper} {m : Nat} (hp : Parts ops pre m) {Q : Exit → Act → World → Prop} {R : Act → World → Prop} {F : Nat}
  (hR : ∀ a w, R a w → ∀ L : Array Bool, L.size = ops.size → (∀ i, i < m → L.getD i false = true) → (∀ i, m ≤ i → i < ops.size → L.getD i true = false) → wpAny P .any ops Q F L a w) :
  ∀ (f : Nat) (l L : Array Bool) (a : Act) (w : World), l.size = m → L.size = ops.size → (∀ i, i < m → L.getD i true = l.getD i true) → (∀ i, m ≤ i → i < ops.size → L.getD i true = false) →
   wpAny P .any pre (QN R Q) f l a w → wpAny P .any ops Q (f + F) L a w := by
 have gd : ∀ (l : Array Bool) i b c, i < l.size → l.getD i b = l.getD i c := fun l i b c h => by simp [Array.getD, h]
 have full : ∀ l : Array Bool, l.size = m → Region.ready .any pre l = [] → ∀ i, i < m → l.getD i true = true := fun l hl hr i hi => by
  cases hc : l.getD i true with
  | true => rfl
  | false =>
   obtain ⟨j, j1, j2, j3⟩ := tG m ⟨i, hi, hc⟩
   have : j ∈ Region.ready .any pre l := by
    have js : j < pre.size := by rw [hp.sz]; exact j1
    refine ready_mem.2 ⟨js, j2, pre[j], by simp [js], fun e he hb => ?_⟩
    have hlt := hp.back j pre[j] (by simp [js]) e he hb
    rw [gd l e.on false true (by omega)]
    exact j3 _ hlt
   rw [hr] at this
   cases this
 intro f
 induction f with
 | zero =>
  intro l L a w hl hL h1 h2 h
  rw [Nat.zero_add]
  refine hR a w h.2 L hL (fun i hi => ?_) h2
  rw [gd L i false true (by have := hp.le; omega), h1 i hi]
  exact full l hl h.1 i hi
 | succ f ih =>
  intro l L a w hl hL h1 h2 h
  by_cases hr : Region.ready .any pre l = []
  ·refine aBw (hR a w (h.1 hr) L hL (fun i hi => ?_) h2) (f + 1)
   rw [gd L i false true (by have := hp.le; omega), h1 i hi]
   exact full l hl hr i hi
  ·have hle := hp.le
   obtain ⟨i0, hi0⟩ := List.exists_mem_of_ne_nil _ hr
   obtain ⟨q1, q2, o0, q3, q4⟩ := ready_mem.1 hi0
   rw [hp.sz] at q1
   have up : ∀ i, i < m → (i ∈ Region.ready .any ops L ↔ i ∈ Region.ready .any pre l) := fun i hi => by
    rw [ready_mem, ready_mem, hp.get i hi, h1 i hi, hp.sz]
    constructor
    ·rintro ⟨_, a2, o, a3, a4⟩
     refine ⟨hi, a2, o, a3, fun e he hb => ?_⟩
     have hlt := hp.back i o a3 e he hb
     have := a4 e he hb
     rw [gd L e.on false true (by omega), h1 e.on (by omega)] at this
     rw [gd l e.on false true (by omega)]
     exact this
    ·rintro ⟨_, a2, o, a3, a4⟩
     refine ⟨by omega, a2, o, a3, fun e he hb => ?_⟩
     have hlt := hp.back i o a3 e he hb
     have := a4 e he hb
     rw [gd l e.on false true (by omega)] at this
     rw [gd L e.on false true (by omega), h1 e.on (by omega)]
     exact this
   rw [show f + 1 + F = (f + F) + 1 by omega]
   refine ⟨fun e => ?_, fun i hi => ?_⟩
   ·have := (up i0 q1).2 hi0
    rw [e] at this
    cases this
   ·have him : i < m := by
     rcases Nat.lt_or_ge i m with c | c
     ·exact c
     ·exfalso
      obtain ⟨_, _, o, a3, a4⟩ := ready_mem.1 hi
      obtain ⟨e, e1, e2, e3⟩ := hp.wait i o c a3 i0 q1
      have := a4 e e1 e2
      rw [e3, gd L i0 false true (by omega), h1 i0 q1, q2] at this
      cases this
    have hi' := (up i him).1 hi
    have hw := h.2 i hi'
    obtain ⟨_, _, o, a3, _⟩ := ready_mem.1 hi'
    have hg := hp.ng i o a3
    unfold wpOp at hw ⊢
    rw [hp.get i him]
    simp only [a3, Region.wanted, hg, if_true] at hw ⊢
    have hk : ∀ a w, wpAny P .any pre (QN R Q) f (l.setIfInBounds i true) a w → wpAny P .any ops Q (f + F) (L.setIfInBounds i true) a w := fun a w h => by
     refine ih _ _ a w (by simp [hl]) (by simp [hL]) (fun j hj => ?_) (fun j hj hj2 => ?_) h
     ·by_cases e : j = i
      ·subst e
       simp [Array.getD, hl, hL, him, show j < ops.size by omega]
      ·have h1j := h1 j hj
       simp only [Array.getD_eq_getD_getElem?, Array.getElem?_setIfInBounds_ne (Ne.symm e)] at h1j ⊢
       exact h1j
     ·have h2j := h2 j hj hj2
      simp only [Array.getD_eq_getD_getElem?, Array.getElem?_setIfInBounds_ne (show i ≠ j by omega)] at h2j ⊢
      exact h2j
    rcases hw with hw | ⟨hw1, hw2⟩
    ·exact .inl (cOp hk hw)
    ·exact .inr ⟨hw1, hw2⟩
end
end Go.Dd

namespace Go.Dd
open Go.Proofs
noncomputable def R6 : Array Oper := fF (cL (cR (cR (cf Tryz.f174))))
noncomputable def R7 : Array Oper := fF (cL (cR (cR (cR (cf Tryz.f174)))))
noncomputable def P6 : Array Oper := (R6.toList.take 9).toArray
theorem eDb : cf Tryz.f174 = .seq (cL (cf Tryz.f174)) (.seq (cL (cR (cf Tryz.f174))) (.seq (.region 6 R6 true) (.seq (.region 7 R7 false) .ret))) := by kernel_rfl
theorem dWs : Tryz.prog.funcs[174]? = some Tryz.f174 := by kernel_rfl
theorem cXh : Tryz.f174.body = some (cf Tryz.f174) := by kernel_rfl
theorem eBy : Tryz.f174.ntmps = 47 := by kernel_rfl
theorem eCi : eE CF0.P P6 = true := by kernel_rfl
def cGv (ops : List Oper) (m : Nat) : Bool :=
 ((List.range m).all fun i => match ops[i]? with
   | some o => o.guard.isNone && o.after.toList.all fun e => !Region.binds .any e || Nat.blt e.on i
   | none => false) &&
 (List.range ops.length).all fun j => Nat.blt j m || (match ops[j]? with
  | some o => (List.range m).all fun i => o.after.toList.any fun e => Region.binds .any e && Nat.beq e.on i
  | none => false)
theorem bWf {ops : Array Oper} {m : Nat} (hm : m ≤ ops.size) (h : cGv ops.toList m = true) : Parts ops (ops.toList.take m).toArray m := by
 unfold cGv at h
 simp only [Bool.and_eq_true, List.all_eq_true, List.mem_range] at h
 have g : ∀ i, i < m → ops[i]? = (ops.toList.take m).toArray[i]? := fun i hi => by simp [List.getElem?_take, hi]
 have first : ∀ (i : Nat) (o : Oper), (ops.toList.take m).toArray[i]? = some o → i < m ∧ ops.toList[i]? = some o := fun i o ho => by
  simp only [List.getElem?_toArray, List.getElem?_take] at ho
  split at ho
  ·exact ⟨by assumption, ho⟩
  ·cases ho
 refine ⟨by simp only [List.size_toArray, List.length_take, Array.length_toList]; omega, hm, g, fun i o ho => ?_, fun i o ho e he hb => ?_, fun j o hj ho i hi => ?_⟩
 ·obtain ⟨h1, h2⟩ := first i o ho
  have := h.1 i h1
  rw [h2] at this
  simp only [Bool.and_eq_true, Option.isNone_iff_eq_none] at this
  exact this.1
 ·obtain ⟨h1, h2⟩ := first i o ho
  have := h.1 i h1
  rw [h2] at this
  simp only [Bool.and_eq_true, List.all_eq_true] at this
  have := this.2 e (by simpa using he)
  rw [hb] at this
  simpa using this
 ·have hjl : j < ops.toList.length := by
   rw [Array.length_toList]
   exact (Array.getElem?_eq_some_iff.1 ho).1
  have := h.2 j hjl
  rw [show ops.toList[j]? = some o from by simpa using ho] at this
  simp only [Bool.or_eq_true, List.all_eq_true, List.mem_range, List.any_eq_true, Bool.and_eq_true] at this
  rcases this with c | c
  ·have : j < m := by simpa using c
   omega
  ·obtain ⟨e, e1, e2, e3⟩ := c i hi
   exact ⟨e, by simpa using e1, e2, Nat.eq_of_beq_eq_true e3⟩
theorem aPz : R6.size = 15 := by kernel_rfl
theorem parts6 : Parts R6 P6 9 := bWf (by rw [aPz]; omega) (by kernel_rfl)
theorem rg9 (rec : FuncId → List DV → Hp → aH) (k : K) (env : aZ) (h : Hp) : gQ CF0 rec 47 P6 k env h = (
 bnd (aX (env 0) (resv 1 h)) fun v1 h1 =>
 bnd (aB 0 v1 h1) fun v2 h2 =>
 bnd (aB 4 v2 h2) fun v3 h3 =>
 bnd (aA v3 h3) fun v4 h4 =>
 bnd (aL 4 (env 3) h4) fun v5 h5 =>
 bnd (bJ v4 h5) fun v6 h6 =>
 bnd (bB (bN 0 h.next) [(.i .i64 (Int.ofNat 0)), (.s []), (.i .i64 (Int.ofNat 0)), .l0] 1 [(0, 4, (.a [(.i .i64 (Int.ofNat 0)), (.s []), (.i .i64 (Int.ofNat 0)), .l0]))] h6) fun v7 h7 =>
 bnd (aW 4 56 v4 v7 h7) fun v8 h8 =>
 k (bG (bG (bG (bG (bG (bG (bG (bG (bG env (some 27) (env 0)) (some 28) v1) (some 29) v2) (some 30) v3) (some 31) v4) (some 32) v5) (some 33) v6) (some 34) v7) (some 35) v8) h8) := by kernel_rfl
theorem eKs (rec : FuncId → List DV → Hp → aH) (k : K) (env : aZ) (h : Hp) : gM CF0 rec 47 R7 R7.toList k env h = (
 bnd (aX (env 0) h) fun v1 h1 =>
 bnd (aB 0 v1 h1) fun v2 h2 =>
 bnd (aB 4 v2 h2) fun v3 h3 =>
 bnd (aA v3 h3) fun v4 h4 =>
 bnd (bJ v4 h4) fun v5 h5 =>
 bnd (aD .sub v5 (.i .i64 (Int.ofNat 1)) h5) fun v6 h6 =>
 k (bG (bG (bG (bG (bG (bG (bG (bG env (some 40) (env 0)) (some 41) v1) (some 42) v2) (some 43) v3) (some 44) v4) (some 45) v5) (some 46) v6) (some 4) v6) h6) := by kernel_rfl
noncomputable def o6 (i : Nat) : Oper := (R6.toList[i]?).getD (Oper.mk none (.move (.tmp 0)) 0 "" #[] none)
theorem eLn : R6[9]? = some (o6 9) := by kernel_rfl
theorem dXy : R6[10]? = some (o6 10) := by kernel_rfl
theorem dWk : R6[11]? = some (o6 11) := by kernel_rfl
theorem eEr : R6[12]? = some (o6 12) := by kernel_rfl
theorem eEp : R6[13]? = some (o6 13) := by kernel_rfl
theorem eBp : R6[14]? = some (o6 14) := by kernel_rfl
theorem eKz (rec : FuncId → List DV → Hp → aH) (env : aZ) (h : Hp) : bH CF0 rec R6 (o6 9) env h = aC 4 (env 35) (env 33) h := by kernel_rfl
theorem dVw (rec : FuncId → List DV → Hp → aH) (env : aZ) (h : Hp) : bH CF0 rec R6 (o6 10) env h = aJ 4 (env 36) (env 32) h := by kernel_rfl
theorem eDe (rec : FuncId → List DV → Hp → aH) (env : aZ) (h : Hp) : bH CF0 rec R6 (o6 11) env h = aX (env 27) h := by kernel_rfl
theorem dZj (rec : FuncId → List DV → Hp → aH) (env : aZ) (h : Hp) : bH CF0 rec R6 (o6 12) env h = aB 0 (env 37) h := by kernel_rfl
theorem dZg (rec : FuncId → List DV → Hp → aH) (env : aZ) (h : Hp) : bH CF0 rec R6 (o6 13) env h = aB 4 (env 38) h := by kernel_rfl
theorem dXo (rec : FuncId → List DV → Hp → aH) (env : aZ) (h : Hp) : bH CF0 rec R6 (o6 14) env h = aJ 1 (env 39) (env 35) h := by kernel_rfl
theorem dYx : (o6 9).dst = some 36 := by kernel_rfl
theorem dFu : (o6 10).dst = none := by kernel_rfl
theorem dGe : (o6 11).dst = some 37 := by kernel_rfl
theorem dFt : (o6 12).dst = some 38 := by kernel_rfl
theorem dGp : (o6 13).dst = some 39 := by kernel_rfl
theorem dFc : (o6 14).dst = none := by kernel_rfl
def li6 (a b : Nat) : Array Bool := (List.replicate 9 true ++ [Nat.ble 1 a, Nat.ble 2 a, Nat.ble 1 b, Nat.ble 2 b, Nat.ble 3 b, Nat.ble 4 b]).toArray
theorem dNt : ((List.range 3).all fun a => (List.range 5).all fun b => Region.ready .any R6 (li6 a b) == (if a < 2 then [9 + a] else []) ++ (if b < 4 then [11 + b] else [])) = true := by kernel_rfl
theorem eMj : ((List.range 2).all fun a => (List.range 5).all fun b => (li6 a b).setIfInBounds (9 + a) true == li6 (a + 1) b) = true := by kernel_rfl
theorem eGi : ((List.range 3).all fun a => (List.range 4).all fun b => (li6 a b).setIfInBounds (11 + b) true == li6 a (b + 1)) = true := by kernel_rfl
theorem cJw {a b : Nat} (ha : a ≤ 2) (hb : b ≤ 4) : Region.ready .any R6 (li6 a b) = (if a < 2 then [9 + a] else []) ++ (if b < 4 then [11 + b] else []) := by
 have h := dNt
 simp only [List.all_eq_true, List.mem_range] at h
 exact eq_of_beq (h a (by omega) b (by omega))
theorem eFi {a b : Nat} (ha : a < 2) (hb : b ≤ 4) : (li6 a b).setIfInBounds (9 + a) true = li6 (a + 1) b := by
 have h := eMj
 simp only [List.all_eq_true, List.mem_range] at h
 exact eq_of_beq (h a ha b (by omega))
theorem dJx {a b : Nat} (ha : a ≤ 2) (hb : b < 4) : (li6 a b).setIfInBounds (11 + b) true = li6 a (b + 1) := by
 have h := eGi
 simp only [List.all_eq_true, List.mem_range] at h
 exact eq_of_beq (h a (by omega) b hb)
structure Fx6 (c R : Pos) (m : Nat) (cs rz rc : List DV) (l2 : DV) (kd : Kind) (l l' : List DV) : Prop where
 ne : c ≠ R
 hl2 : l2 = .l R 0 (m + 1) (m + 1)
 hcs : cs.length = 4
 put : fT (m * 4) rz cs = some rc
 wr : kd.writable = true
 putc : fT 4 l [l2] = some l'
structure In6 (c R : Pos) (m : Nat) (cs rz rc : List DV) (l2 : DV) (kd : Kind) (l l' : List DV) (t : Tr Ob) (nx : Pos) (a b : Nat) (env : aZ) (h : Hp) : Prop where
 hn : h.next = nx
 e0 : env 0 = .p c 0
 e27 : env 27 = .p c 0
 e32 : env 32 = .a cs
 e33 : env 33 = .i .i64 (m : Int)
 e35 : env 35 = l2
 e36 : 1 ≤ a → env 36 = .p R (0 + m * 4)
 e37 : 1 ≤ b → env 37 = .p c 0
 e38 : 2 ≤ b → env 38 = .p c 0
 e39 : 3 ≤ b → env 39 = .p c 4
 gR : h.bl.get R = some (.row (.gr 4) (if a = 2 then rc else rz))
 gc : h.bl.get c = some (.row kd (if b = 4 then l' else l))
 go : ∀ x o, x ≠ R → x ≠ c → t.get x = some o → h.bl.get x = some o
section
variable {c R : Pos} {m : Nat} {cs rz rc : List DV} {l2 : DV} {kd : Kind} {l l' : List DV} {t : Tr Ob} {nx : Pos} {a b : Nat} {env : aZ} {h : Hp}
theorem iF (env : aZ) {i j : Nat} (v : DV) (hij : Nat.beq j i = false) {x : DV} (hx : env j = x) : bG env (some i) v j = x := (nX env i v j hij).trans hx
theorem In6.a1 (I : In6 c R m cs rz rc l2 kd l l' t nx 0 b env h) : In6 c R m cs rz rc l2 kd l l' t nx 1 b (bG env (some 36) (.p R (0 + m * 4))) h :=
 ⟨I.hn, iF _ _ rfl I.e0, iF _ _ rfl I.e27, iF _ _ rfl I.e32, iF _ _ rfl I.e33, iF _ _ rfl I.e35, fun _ => mF _ _ _, fun q => iF _ _ rfl (I.e37 q), fun q => iF _ _ rfl (I.e38 q), fun q => iF _ _ rfl (I.e39 q), by simpa using I.gR, I.gc, I.go⟩
theorem In6.a2 (F : Fx6 c R m cs rz rc l2 kd l l') (I : In6 c R m cs rz rc l2 kd l l' t nx 1 b env h) : In6 c R m cs rz rc l2 kd l l' t nx 2 b env ⟨h.next, Tr.set (.row (.gr 4) rc) R h.bl⟩ :=
 ⟨I.hn, I.e0, I.e27, I.e32, I.e33, I.e35, fun _ => I.e36 (Nat.le_refl _), I.e37, I.e38, I.e39, by simp [eMs], by show (Tr.set _ R h.bl).get c = _; rw [eMr _ _ _ _ F.ne]; exact I.gc, fun x o h1 h2 h3 => by
  show (Tr.set _ R h.bl).get x = _
  rw [eMr _ _ _ _ h1]
  exact I.go x o h1 h2 h3⟩
theorem In6.b1 (I : In6 c R m cs rz rc l2 kd l l' t nx a 0 env h) : In6 c R m cs rz rc l2 kd l l' t nx a 1 (bG env (some 37) (.p c 0)) h :=
 ⟨I.hn, iF _ _ rfl I.e0, iF _ _ rfl I.e27, iF _ _ rfl I.e32, iF _ _ rfl I.e33, iF _ _ rfl I.e35, fun q => iF _ _ rfl (I.e36 q), fun _ => mF _ _ _, fun q => absurd q (by omega), fun q => absurd q (by omega), I.gR, by simpa using I.gc, I.go⟩
theorem In6.b2 (I : In6 c R m cs rz rc l2 kd l l' t nx a 1 env h) : In6 c R m cs rz rc l2 kd l l' t nx a 2 (bG env (some 38) (.p c 0)) h :=
 ⟨I.hn, iF _ _ rfl I.e0, iF _ _ rfl I.e27, iF _ _ rfl I.e32, iF _ _ rfl I.e33, iF _ _ rfl I.e35, fun q => iF _ _ rfl (I.e36 q), fun _ => iF _ _ rfl (I.e37 (by omega)), fun _ => mF _ _ _, fun q => absurd q (by omega), I.gR, by simpa using I.gc, I.go⟩
theorem In6.b3 (I : In6 c R m cs rz rc l2 kd l l' t nx a 2 env h) : In6 c R m cs rz rc l2 kd l l' t nx a 3 (bG env (some 39) (.p c 4)) h :=
 ⟨I.hn, iF _ _ rfl I.e0, iF _ _ rfl I.e27, iF _ _ rfl I.e32, iF _ _ rfl I.e33, iF _ _ rfl I.e35, fun q => iF _ _ rfl (I.e36 q), fun _ => iF _ _ rfl (I.e37 (by omega)), fun _ => iF _ _ rfl (I.e38 (by omega)), fun _ => mF _ _ _, I.gR, by simpa using I.gc, I.go⟩
theorem In6.b4 (F : Fx6 c R m cs rz rc l2 kd l l') (I : In6 c R m cs rz rc l2 kd l l' t nx a 3 env h) : In6 c R m cs rz rc l2 kd l l' t nx a 4 env ⟨h.next, Tr.set (.row kd l') c h.bl⟩ :=
 ⟨I.hn, I.e0, I.e27, I.e32, I.e33, I.e35, I.e36, fun _ => I.e37 (by omega), fun _ => I.e38 (by omega), fun _ => I.e39 (by omega), by show (Tr.set _ c h.bl).get R = _; rw [eMr _ _ _ _ (Ne.symm F.ne)]; exact I.gR, by simp [eMs], fun x o h1 h2 h3 => by
  show (Tr.set _ c h.bl).get x = _
  rw [eMr _ _ _ _ h2]
  exact I.go x o h1 h2 h3⟩
theorem aBv (env : aZ) (v : DV) : bG env none v = env := rfl
theorem dIb {rec : FuncId → List DV → Hp → aH} {jB : aZ → Hp → Prop} (F : Fx6 c R m cs rz rc l2 kd l l') (hP : ∀ env h, In6 c R m cs rz rc l2 kd l l' t nx 2 4 env h → jB env h) :
  ∀ (f a b : Nat), a ≤ 2 → b ≤ 4 → a + b + f = 6 → ∀ env h, In6 c R m cs rz rc l2 kd l l' t nx a b env h → aFz CF0 rec 47 R6 jB f (li6 a b) env h := by
 intro f
 induction f with
 | zero =>
  intro a b ha hb hf env h I
  obtain rfl : a = 2 := by omega
  obtain rfl : b = 4 := by omega
  exact ⟨by rw [cJw ha hb]; rfl, hP env h I⟩
 | succ f ih =>
  intro a b ha hb hf env h I
  refine ⟨fun e => ?_, fun i hi => ?_⟩
  ·rw [cJw ha hb] at e
   exfalso
   by_cases h1 : a < 2
   ·rw [if_pos h1] at e; cases e
   ·rw [if_neg h1, if_pos (show b < 4 by omega)] at e; cases e
  ·rw [cJw ha hb] at hi
   have hc : (a < 2 ∧ i = 9 + a) ∨ (b < 4 ∧ i = 11 + b) := by
    rw [List.mem_append] at hi
    rcases hi with hi | hi
    ·split at hi
     ·exact .inl ⟨by assumption, by simpa using hi⟩
     ·cases hi
    ·split at hi
     ·exact .inr ⟨by assumption, by simpa using hi⟩
     ·cases hi
   rcases hc with ⟨h1, rfl⟩ | ⟨h1, rfl⟩
   ·rw [eFi h1 hb]
    rcases (show a = 0 ∨ a = 1 by omega) with rfl | rfl
    ·have ix : aC 4 (env 35) (env 33) h = some (.p R (0 + m * 4), h) := by
      rw [I.e35, I.e33, F.hl2]
      show (if (0 : Int) ≤ (m : Int) ∧ (m : Int) < ((m + 1 : Nat) : Int) then some (DV.p R (0 + (m : Int).toNat * 4), h) else none) = _
      rw [if_pos (by omega)]
      simp
     refine ⟨o6 9, _, h, eLn, by rw [dYx]; rfl, (eKz _ _ _).trans ix, ?_⟩
     rw [dYx]
     exact ih 1 b (by omega) hb (by omega) _ _ I.a1
    ·have st : aJ 4 (env 36) (env 32) h = some (aY, ⟨h.next, Tr.set (.row (.gr 4) rc) R h.bl⟩) := by
      have gR := I.gR
      simp only [show ¬ (1 = 2) by decide, if_false] at gR
      rw [I.e36 (Nat.le_refl _), I.e32]
      simp only [aJ, dR, F.hcs, if_true, dF, gR, Kind.writable, Nat.zero_add, F.put]
     refine ⟨o6 10, _, _, dXy, by rw [dFu]; rfl, (dVw _ _ _).trans st, ?_⟩
     rw [dFu, aBv]
     exact ih 2 b (by omega) hb (by omega) _ _ (I.a2 F)
   ·rw [dJx ha h1]
    rcases (show b = 0 ∨ b = 1 ∨ b = 2 ∨ b = 3 by omega) with rfl | rfl | rfl | rfl
    ·refine ⟨o6 11, _, h, dWk, by rw [dGe]; rfl, (eDe _ _ _).trans (by rw [I.e27]; exact aBz c h), ?_⟩
     rw [dGe]
     exact ih a 1 ha (by omega) (by omega) _ _ I.b1
    ·refine ⟨o6 12, _, h, eEr, by rw [dFt]; rfl, (dZj _ _ _).trans (by rw [I.e37 (by omega)]; exact bIz c h), ?_⟩
     rw [dFt]
     exact ih a 2 ha (by omega) (by omega) _ _ I.b2
    ·refine ⟨o6 13, _, h, eEp, by rw [dGp]; rfl, (dZg _ _ _).trans (by rw [I.e38 (by omega)]; exact bIu c h), ?_⟩
     rw [dGp]
     exact ih a 3 ha (by omega) (by omega) _ _ I.b3
    ·have st : aJ 1 (env 39) (env 35) h = some (aY, ⟨h.next, Tr.set (.row kd l') c h.bl⟩) := by
      have gc := I.gc
      simp only [show ¬ (3 = 4) by decide, if_false] at gc
      have pc := F.putc
      rw [I.e39 (by omega), I.e35, F.hl2]
      rw [F.hl2] at pc
      simp only [aJ, dR, List.length_singleton, if_true, dF, gc, F.wr, pc]
     refine ⟨o6 14, _, _, eBp, by rw [dFc]; rfl, (dXo _ _ _).trans st, ?_⟩
     rw [dFc, aBv]
     exact ih a 4 ha (by omega) (by omega) _ _ (I.b4 F)
end
end Go.Dd

namespace Go.Dd
open Go.Proofs
open Go.RowKit (Below)
section
variable {C : Cfg} {G : Gd} {rec : FuncId → List DV → Hp → aH} {nt : Nat}
theorem dYu (K : OkC C rec) (hP : POk C.P) {f : FuncId} {fn : Func} {c : Code} (hf : C.P.funcs[f]? = some fn) (hb : fn.body = some c) {F : List DV → Hp → aH}
  (hF : ∀ args h v h1, F args h = some (v, h1) → ∀ (ρ : cN) (w : World) (a : Act), HR G ρ h w → EnvR ρ (aI args) a → fn.ntmps ≤ a.tmps.size → a.defers = [] →
   c.wp C.P (QP G fn.ntmps ρ w (fun _ _ _ => False) (fun env h' => ∃ h2, aQ C fn env h' = some (v, h2) ∧ Le h2 h1) (fun env h' => ∃ h2, aQ C fn env h' = some (v, h2) ∧ Le h2 h1)) a w) : kA C.P G f F := by
 intro args h v h1 hr ρ w args' H hargs
 refine .inl ⟨?_, ?_⟩
 ·unfold callFunc
  have hn : ¬ fn.name = "runtime.NumGoroutine" := by simpa using hP.names f fn hf
  simp [hf, hn, hb]
 ·refine calls_of_wp hf hb ?_
  have he : EnvR ρ (aI args) { tmps := args' ++ Array.replicate (fn.ntmps - args'.size) undef, defers := [] } := by
   intro t
   unfold aI
   have hlen := hargs.length
   simp only [Array.length_toList] at hlen
   by_cases ht : t < args.length
   ·have hg : args[t]? = some args[t] := by simp [ht]
    obtain ⟨v', h2, h3⟩ := hargs.get t _ hg
    simp only [Array.getElem?_toList] at h2
    rw [show args.getD t aY = args[t] by simp [List.getD, hg]]
    have : (args' ++ Array.replicate (fn.ntmps - args'.size) undef).getD t undef = v' := by
     simp [Array.getElem?_append_left (show t < args'.size by omega), h2]
    rw [this]
    exact h3
   ·have hg : args.getD t aY = aY := by simp [List.getD, List.getElem?_eq_none (Nat.le_of_not_lt ht)]
    rw [hg]
    have : (args' ++ Array.replicate (fn.ntmps - args'.size) undef).getD t undef = undef := by
     rw [Array.getD_eq_getD_getElem?, Array.getElem?_append_right (by omega)]
     simp only [Array.getElem?_replicate]
     split <;> rfl
    rw [this]
    exact .t [] #[] .nil
  refine wp_mono (hF args h v h1 hr ρ w _ H he (by simp; omega) rfl) fun e a' w' hq => ?_
  have hfin : StP G fn.ntmps ρ w (fun env h' => ∃ h2, aQ C fn env h' = some (v, h2) ∧ Le h2 h1) a' w' → a'.defers = [] ∧ ∃ v', (results fn a'.tmps).run C.P w' = .ok v' w' ∧ jB G ρ w v h1 (.returned v') w' := by
   rintro ⟨ρ', env, h', e1, e2, e3, e4, e5, e6, h2, e7, e8⟩
   obtain ⟨rfl, v', r1, r2⟩ := uM e2 e3 e7
   exact ⟨e6, v', r1, ρ', v', rfl, e1, r2, e8 _ _ _ e2, e4⟩
  cases e with
  | normal => exact hfin hq
  | ret => exact hfin hq
  | exit id => obtain ⟨ρ', env, h', e1, e2, e3, e4, e5, e6, e7⟩ := hq; exact e7.elim
  | goto l => exact hq.elim
  | panic ch => exact hq.elim
  | outgrown => exact hq.elim
end
noncomputable abbrev r60 : FuncId → List DV → Hp → aH := tK CF0 60
theorem Le.refl (h : Hp) : Le h h := fun G ρ w H => H
theorem bLz {hp h1 : Hp} {c q : Pos} {v : DV} (hr : lE c q hp = some (v, h1)) (hf : nB hp) {env : aZ} (e0 : env 0 = .p c 0) (e3 : env 3 = .p q 0) :
  ∃ m cs rz rc l2 kd l l' t R, Fx6 c R m cs rz rc l2 kd l l' ∧ (∃ r, gQ CF0 r60 47 P6 (kk fun e h => In6 c R m cs rz rc l2 kd l l' t R.succ 0 0 e h) env hp = some r) ∧
   ∀ e h, In6 c R m cs rz rc l2 kd l l' t R.succ 2 4 e h → Sim true h1 h ∧ e 0 = .p c 0 ∧ ∃ l3 n3, aA (.p c 4) h = some (l3, h) ∧ bJ l3 h = some (n3, h) ∧ aD .sub n3 (.i .i64 (Int.ofNat 1)) h = some (v, h) := by
 unfold lE at hr
 obtain ⟨l1, g1, hl1, hr⟩ := cO hr
 obtain ⟨x, g3, hx, hr⟩ := cO hr
 obtain ⟨rfl, uc, huc⟩ := nM hl1
 obtain ⟨rfl, ⟨uq, huq⟩, cs, rfl, hcl, hco⟩ := nL hx
 dsimp only at hr
 cases hcq : kY c q with
 | true => rw [hcq] at hr; cases hr
 | false =>
 rw [hcq] at hr
 simp only [cnd, Bool.not_false] at hr
 obtain ⟨l2, k3, ha, hr⟩ := cO hr
 obtain ⟨u, k4, hs, hr⟩ := cO hr
 obtain ⟨l3, g5, hl3, hr⟩ := cO hr
 obtain ⟨n3, g6, hn3, hr⟩ := cO hr
 obtain ⟨v', g7, hv, hr⟩ := cO hr
 simp only [bD, bM] at hr
 obtain ⟨rfl, rfl⟩ := hr
 obtain ⟨m, old, t, hl2, hm, hol, hoo, hk3, htq, htd, hz⟩ := aOh ha
 have hzz := hz [.i .i64 (Int.ofNat 0), .s [], .i .i64 (Int.ofNat 0), .l0]
 dsimp only at hl2 hk3 htq htd hzz
 have s1 := eMv g3.next
 have hcR : c ≠ g3.next.succ := fun e => by
  have h1 := hf _ _ huc
  rw [e] at h1
  omega
 rw [hk3] at hs
 have hst2 : ∃ kd l l', t.get c = some (.row kd l) ∧ kd.writable = true ∧ fT 4 l [l2] = some l' ∧ k4 = ⟨g3.next.succ.succ, Tr.set (.row kd l') c (Tr.set (.row (.gr 4) (old ++ cs)) g3.next.succ t)⟩ := by
  rw [hl2] at hs ⊢
  simp only [aJ, dR, List.length_singleton, if_true, dF, eMr _ _ _ _ hcR] at hs
  cases htc : t.get c with
  | none => rw [htc] at hs; cases hs
  | some o =>
   rw [htc] at hs
   cases o with
   | row kd l =>
    dsimp only at hs
    cases hw : kd.writable with
    | false => rw [hw] at hs; cases hs
    | true =>
     rw [hw, if_pos rfl] at hs
     cases hp : fT 4 l [.l g3.next.succ 0 (m + 1) (m + 1)] with
     | none => rw [hp] at hs; cases hs
     | some l' =>
      rw [hp] at hs
      simp only [bD, bM] at hs
      exact ⟨kd, l, l', rfl, hw, hp, hs.2.symm⟩
   | it s p => cases hs
   | mp es => cases hs
   | big n t => cases hs
   | mi t => cases hs
 obtain ⟨kd, l, l', htc, hw, hpc, hk4⟩ := hst2
 have hpe := aIe old [.i .i64 (Int.ofNat 0), .s [], .i .i64 (Int.ofNat 0), .l0] cs (by rw [hcl]; rfl) (by simp [DV.one]) hco
 rw [hol] at hpe
 refine ⟨m, cs, old ++ [.i .i64 (Int.ofNat 0), .s [], .i .i64 (Int.ofNat 0), .l0], old ++ cs, l2, kd, l, l', t, g3.next.succ, ⟨hcR, hl2, hcl, hpe, hw, hpc⟩, ?_, ?_⟩
 ·have S0 : Sim true ⟨g3.next.succ, g3.bl⟩ ⟨g3.next.succ, Tr.set (.row .ex [.i .i64 (Int.ofNat 0), .s [], .i .i64 (Int.ofNat 0), .l0]) g3.next g3.bl⟩ := Sim.of_get rfl fun b o hb => by
   show (Tr.set _ g3.next g3.bl).get b = _
   rw [eMr]
   ·exact hb
   ·intro e
    have := hf b o hb
    rw [e] at this
    exact Nat.lt_irrefl _ this
  obtain ⟨k6, h6, S6⟩ := aJn S0 (aCe rfl (by simp [DV.one]) g3.next g3.next.succ g3.bl) hzz
  have fl : bB (bN 0 g3.next) [(.i .i64 (Int.ofNat 0)), (.s []), (.i .i64 (Int.ofNat 0)), .l0] 1 [(0, 4, .a [(.i .i64 (Int.ofNat 0)), (.s []), (.i .i64 (Int.ofNat 0)), .l0])] ⟨g3.next.succ, g3.bl⟩ = some (.l g3.next 0 1 1, ⟨g3.next.succ, Tr.set (.row .ex [.i .i64 (Int.ofNat 0), .s [], .i .i64 (Int.ofNat 0), .l0]) g3.next g3.bl⟩) := by
   simp [bB, mE, dR, bN]
  have c5 : aA (.p c 4) ⟨g3.next.succ, g3.bl⟩ = some (l1, ⟨g3.next.succ, g3.bl⟩) := yP (h := g3) (fun _ _ e => e) hl1
  have q5 : aL 4 (.p q 0) ⟨g3.next.succ, g3.bl⟩ = some (.a cs, ⟨g3.next.succ, g3.bl⟩) := aOy (h := g3) (fun _ _ e => e) hx
  rw [rg9]
  simp only [e0, e3, aBz, bO, bIz, bIu, show resv 1 g3 = ⟨g3.next.succ, g3.bl⟩ from rfl, c5, q5, hm, fl, h6]
  refine oH ?_
  have gt : ∀ b o, (Tr.set (.row (.gr 4) (old ++ [.i .i64 (Int.ofNat 0), .s [], .i .i64 (Int.ofNat 0), .l0])) g3.next.succ t).get b = some o → k6.bl.get b = some o := fun b o hb => by
   obtain ⟨o', a1, a2⟩ := S6.get b o hb
   rw [a1, gT a2]
  refine ⟨S6.next, ?_, ?_, ?_, ?_, ?_, fun q => absurd q (by omega), fun q => absurd q (by omega), fun q => absurd q (by omega), fun q => absurd q (by omega), ?_, ?_, ?_⟩
  ·simp only [nX, Nat.beq, e0]
  ·simp only [nX, mF, Nat.beq, e0]
  ·simp only [nX, mF, Nat.beq]
  ·simp only [nX, mF, Nat.beq]
  ·simp only [mF]
  ·exact gt _ _ (by rw [eMs]; simp)
  ·exact gt _ _ (by rw [eMr _ _ _ _ hcR, htc]; simp)
  ·exact fun x o x1 x2 x3 => gt _ _ (by rw [eMr _ _ _ _ x1]; exact x3)
 ·intro e h I
  have S : Sim true k4 h := by
   rw [hk4]
   refine Sim.of_get I.hn fun b o hb => ?_
   change (Tr.set (.row kd l') c (Tr.set (.row (.gr 4) (old ++ cs)) g3.next.succ t)).get b = some o at hb
   by_cases b1 : b = c
   ·rw [b1, eMs] at hb
    rw [b1, I.gc]
    simpa using hb
   ·rw [eMr _ _ _ _ b1] at hb
    by_cases b2 : b = g3.next.succ
    ·rw [b2, eMs] at hb
     rw [b2, I.gR]
     simpa using hb
    ·rw [eMr _ _ _ _ b2] at hb
     exact I.go b o b2 b1 hb
  have up : ∀ b o, k4.bl.get b = some o → h.bl.get b = some o := fun b o hb => by
   obtain ⟨o', a1, a2⟩ := S.get b o hb
   rw [a1, gT a2]
  exact ⟨S, I.e0, l3, n3, yP up hl3, (mT (jP l3) hn3).2 h, (mT (mP _ _ _) hv).2 h⟩
theorem dYz {L : Array Bool} (hs : L.size = R6.size) (h1 : ∀ i, i < 9 → L.getD i false = true) (h2 : ∀ i, 9 ≤ i → i < R6.size → L.getD i true = false) : L = li6 0 0 := by
 rw [aPz] at hs h2
 have e : li6 0 0 = #[true, true, true, true, true, true, true, true, true, false, false, false, false, false, false] := by kernel_rfl
 rw [e]
 refine Array.ext (by rw [hs]; rfl) fun i hi hi' => ?_
 rw [hs] at hi
 by_cases c : i < 9
 ·have := h1 i c
  simp only [Array.getD, show i < L.size by omega, dif_pos] at this
  rw [show L[i] = true from this]
  rcases (show i = 0 ∨ i = 1 ∨ i = 2 ∨ i = 3 ∨ i = 4 ∨ i = 5 ∨ i = 6 ∨ i = 7 ∨ i = 8 by omega) with rfl | rfl | rfl | rfl | rfl | rfl | rfl | rfl | rfl <;> rfl
 ·have := h2 i (by omega) hi
  simp only [Array.getD, show i < L.size by omega, dif_pos] at this
  rw [show L[i] = false from this]
  rcases (show i = 9 ∨ i = 10 ∨ i = 11 ∨ i = 12 ∨ i = 13 ∨ i = 14 by omega) with rfl | rfl | rfl | rfl | rfl | rfl <;> rfl
theorem cGt (G : Gd) : kA Tryz.prog G 174 fJ := by
 have K : OkC CF0 r60 := KC0
 refine dYu (C := CF0) (rec := r60) K Try_ok dWs cXh fun args h v h1 hr ρ w a H he hnt hd => ?_
 rw [eBy] at hnt ⊢
 rw [eDb]
 unfold fJ at hr
 refine wp_seq (wp_mono (aIh (DD := []) (G := G) (ρ := ρ) (w0 := w) K Try_ok.mixed (cL (cf Tryz.f174)) x0 (aQ CF0 Tryz.f174) _ a w ⟨ρ, aI args, h, Ex.refl G ρ, H, he, Kp.refl G w, hnt, hd, hr⟩) fun e a' w' hq => ?_)
 cases e with
 | exit id => obtain ⟨_, _, _, _, _, _, _, _, _, q⟩ := hq; cases q
 | ret => obtain ⟨ρ', env, hh, q1, q2, q3, q4, q5, q6, q7⟩ := hq; exact ⟨ρ', env, hh, q1, q2, q3, q4, q5, q6, h1, by rw [xK] at q7 ⊢; simp only [bD, bM] at q7 ⊢; exact ⟨q7.1, q7.2⟩, Le.refl _⟩
 | goto l => exact hq
 | panic ch => exact hq
 | outgrown => exact hq
 | normal =>
 refine wp_seq (wp_mono (aIh (DD := []) (G := G) (ρ := ρ) (w0 := w) K Try_ok.mixed (cL (cR (cf Tryz.f174))) x0 (aQ CF0 Tryz.f174) mQ a' w' hq) fun e a2 w2 hq => ?_)
 cases e with
 | exit id => obtain ⟨_, _, _, _, _, _, _, _, _, q⟩ := hq; cases q
 | ret => obtain ⟨ρ', env, hh, q1, q2, q3, q4, q5, q6, q7⟩ := hq; exact ⟨ρ', env, hh, q1, q2, q3, q4, q5, q6, h1, by rw [xK] at q7 ⊢; simp only [bD, bM] at q7 ⊢; exact ⟨q7.1, q7.2⟩, Le.refl _⟩
 | goto l => exact hq
 | panic ch => exact hq
 | outgrown => exact hq
 | normal =>
 obtain ⟨ρ2, env, hp, q1, q2, q3, q4, q5, q6, q7⟩ := hq
 unfold mQ at q7
 split at q7 <;> (try (cases q7; done))
 rename_i c q e0 e3
 obtain ⟨m, cs, rz, rc, l2, kd, l, l', t, R, F, ⟨r, hdr⟩, hfin⟩ := bLz q7 q2.isFresh e0 e3
 refine wp_seq (wp_region_any Try_ok.mixed ?_)
 rw [aPz]
 have pr : P6.size = 9 := parts6.sz
 refine aPw (m := 9) (F := 6) parts6 (R := fun a w' => ∃ ρ' env h, Ex G ρ ρ' ∧ HR G ρ' h w' ∧ EnvR ρ' env a ∧ Kp G w w' ∧ 47 ≤ a.tmps.size ∧ a.defers = [] ∧ In6 c R m cs rz rc l2 kd l l' t R.succ 0 0 env h)
  (fun a3 w3 hR L hL1 hL2 hL3 => ?_) 9 (Array.replicate 9 false) _ _ _ (by simp) (by rw [aPz]; simp) (fun i hi => ?_) (fun i hi hi2 => ?_) ?_
 ·rw [dYz hL1 hL2 hL3]
  obtain ⟨ρ3, aGk, h3, u1, u2, u3, u4, u5, u6, I⟩ := hR
  refine aVo (G := G) (nt := 47) K 6 _ ρ3 aGk h3 a3 w3 (dIb (rec := r60) (jB := fun e h => In6 c R m cs rz rc l2 kd l l' t R.succ 2 4 e h) F (fun _ _ I => I) 6 0 0 (by omega) (by omega) rfl aGk h3 I) u2 u3 u5 u6 fun ρ4 env4 h4 a4 w4 J x1 x2 x3 x4 x5 x6 => ?_
  obtain ⟨S, z0, l3, n3, z1, z2, z3⟩ := hfin env4 h4 J
  refine aNv (C := CF0) (rec := r60) (G := G) (nt := 47) (ρ := ρ) (w0 := w) K Try_ok.mixed (.seq (.region 7 R7 false) .ret) _ _ _ a4 w4 ⟨ρ4, env4, h4, u1.trans x1, x2, x3, u4.trans x4, x5, x6, ?_⟩
  refine wpS (aPo ?_)
  rw [eKs]
  simp only [z0, aBz, bO, bIz, bIu, z1, z2, z3]
  refine oH fun _ => ?_
  exact ⟨h4, by rw [xK, mF], fun G ρ w H => H.sub S⟩
 ·have hlt : i < 15 := by omega
  simp [Array.getD, hi, hlt]
 ·rw [aPz] at hi2
  simp [Array.getD, hi2]
 ·have key := fun Q : Exit → Act → World → Prop => yI (DD := []) (G := G) (C := CF0) (nt := 47) K eCi hdr q2 q3 q5 q6 (Q := QN (fun a w' => ∃ ρ' env h, Ex G ρ ρ' ∧ HR G ρ' h w' ∧ EnvR ρ' env a ∧ Kp G w w' ∧ 47 ≤ a.tmps.size ∧ a.defers = [] ∧ In6 c R m cs rz rc l2 kd l l' t R.succ 0 0 env h) Q) fun ρ5 env5 h5 a5 w5 y1 y2 y3 y4 y5 y6 y7 => ⟨ρ5, env5, h5, q1.trans y1, y2, y3, q4.trans y4, y5, y6, bZb y7⟩
  simp only [pr] at key
  exact key _
end Go.Dd

namespace Go.Dd
open Go.Proofs
theorem dEw : (itm.ops.toList.all fX) = true := by kernel_rfl
theorem cIn : Tryz.f183.body = some itm.code := by kernel_rfl
theorem dTu : ItOk Tryz.prog itm where
 pre := by kernel_rfl
 test := by kernel_rfl
 after := by kernel_rfl
 post := by kernel_rfl
 step := by kernel_rfl
 ops := List.all_eq_true.1 dEw
 dst := by kernel_rfl
 guard := by kernel_rfl
 op := ⟨#[3], by kernel_rfl⟩
 fn := ⟨Tryz.f183, Tryz.func183, cIn, by kernel_rfl, by kernel_rfl, by kernel_rfl⟩
theorem eLb : fZ (cf Tryz.f95) = true := by kernel_rfl
theorem eHs : fZ (cf Tryz.f94) = true := by kernel_rfl
theorem dVv : fZ (cf Tryz.f330) = true := by kernel_rfl
theorem aNh {fn : Func} {c : Code} (h : fn.body = some c) : cf fn = c := by unfold cf; rw [h]
theorem dNc (f : FuncId) (hf : rgB f = true) (fn : Func) (c : Code) (h1 : Tryz.prog.funcs[f]? = some fn) (h2 : fn.body = some c) : fZ c = true := by
 unfold rgB at hf
 simp only [Bool.or_eq_true] at hf
 rcases hf with hf | hf | hf <;> (have e := Nat.eq_of_beq_eq_true hf; subst e)
 ·rw [Tryz.func95] at h1
  cases h1
  rw [← aNh h2]
  exact eLb
 ·rw [Tryz.func94] at h1
  cases h1
  rw [← aNh h2]
  exact eHs
 ·rw [Tryz.func330] at h1
  cases h1
  rw [← aNh h2]
  exact dVv
end Go.Dd

namespace Go.Dd
open Go.Proofs Go.Lib Go.RowKit
theorem aQs (c : Nat) (hc : c < 256) : ∀ (l : List UInt8) (i : Nat), aQh c (l.map (·.toNat)) i = if indexByte l c.toUInt8 = -1 then -1 else indexByte l c.toUInt8 + i
 | [], i => rfl
 | b :: l, i => by
  have hb : Nat.beq b.toNat c = (b == c.toUInt8) := by
   rw [Bool.eq_iff_iff]
   constructor
   ·intro h
    have := Nat.eq_of_beq_eq_true h
    simp [← this]
   ·intro h
    have h2 : b = c.toUInt8 := by simpa using h
    rw [h2]
    have : (c.toUInt8).toNat = c := by simp [Nat.toUInt8]; omega
    rw [this]; simp
  show (bif Nat.beq b.toNat c then Int.ofNat i else aQh c (l.map (·.toNat)) (i + 1)) = _
  rw [hb]
  unfold indexByte
  cases h : (b == c.toUInt8) with
  | true => simp
  | false =>
   have ih := aQs c hc l (i + 1)
   have hge := indexByte_ge l c.toUInt8
   simp only [cond_false, Bool.false_eq_true, if_false]
   rw [ih]
   by_cases h1 : indexByte l c.toUInt8 = -1
   ·simp [h1]
   ·simp only [h1, if_false, beq_iff_eq]
    rw [if_neg (by omega)]
    omega
theorem dMa (G : Gd) : kA Tryz.prog G 266 mI := by
 intro args h v h1 hr ρ w args' H hargs
 unfold mI at hr
 split at hr <;> (try (cases hr; done))
 rename_i l c
 cases hc : Nat.blt c 256 with
 | false => rw [hc] at hr; cases hr
 | true =>
  rw [hc] at hr
  have hc' : c < 256 := by simpa using hc
  simp only [cond_true, bD, bM] at hr
  obtain ⟨rfl, rfl⟩ := hr
  obtain ⟨a⟩ := args'
  cases hargs with
  | cons x x' l1 l1' hx hxs =>
  cases hxs with
  | cons y y' l2 l2' hy hys =>
  cases hys
  cases hx with
  | s l bs hbs =>
  cases hy with
  | i k n =>
  refine .inr ⟨ρ, w, .int .i64 (indexByte bs.data.toList c.toUInt8), ?_, Ex.refl _ _, ?_, H, Kp.refl _ _⟩
  ·rw [run_callFunc_extern (fn := Tryz.f266) (e := Extern.BytealgIndexByte.indexByte) (by kernel_rfl) (by kernel_rfl) (by kernel_rfl) (by kernel_rfl) (by kernel_rfl)]
   rw [run_indexByteString bs (Int.ofNat c) w]
   rfl
  ·have e := aQs c hc' bs.data.toList 0
   rw [hbs] at e
   have e2 : aQh c l 0 = indexByte bs.data.toList c.toUInt8 := by
    rw [e]
    split
    ·rename_i h; exact h.symm
    ·simp
   rw [e2]
   exact .i _ _
theorem aEc (G : Gd) (g : FuncId) (F : List DV → Hp → aH) (h : CF1.I g = some F) : kA CF1.P G g F := by
 have e : CF1.I g = bif Nat.beq g 266 then some mI else bif Nat.beq g 242 then some mA else bif Nat.beq g 174 then some fJ else none := rfl
 rw [e] at h
 cases hg : Nat.beq g 266 with
 | true => rw [hg] at h; cases h; cases Nat.eq_of_beq_eq_true hg; exact dMa G
 | false =>
 rw [hg, cond_false] at h
 cases hg : Nat.beq g 242 with
 | true => rw [hg] at h; cases h; cases Nat.eq_of_beq_eq_true hg; exact dPx G
 | false =>
 rw [hg, cond_false] at h
 cases hg : Nat.beq g 174 with
 | true => rw [hg] at h; cases h; cases Nat.eq_of_beq_eq_true hg; exact cGt G
 | false => rw [hg] at h; cases h
theorem cNf (n : Nat) (G : Gd) (f : FuncId) : kA Tryz.prog G f (fV CF1 n f) := bSb (C := CF1) Try_ok aEc dTu dNc n G f
end Go.Dd

namespace Go.Dd
open Go.RowKit (Below)
theorem HR.later {G : Gd} {ρ : cN} {h : Hp} {w w' : World} (H : HR G ρ h w) (e : Below w.heap.size w w') : HR G ρ h w' where
 gl := fun k hk => (e.block k (Nat.lt_of_lt_of_le hk H.sz.1)).trans (H.gl k hk)
 sz := ⟨Nat.le_trans H.sz.1 e.size, fun k hk => Nat.lt_of_lt_of_le (H.sz.2 k hk) e.size⟩
 nx := H.nx
 ro := H.ro
 dom := H.dom
 lt := H.lt
 cell := fun b k l L i v h1 h2 h3 h4 => by
  obtain ⟨v', h5, h6⟩ := H.cell b k l L i v h1 h2 h3 h4
  exact ⟨v', by rw [e.cell (dY h5)]; exact h5, h6⟩
 spare := fun b l L es j h1 h2 h3 => by
  obtain ⟨v', h5⟩ := H.spare b l L es j h1 h2 h3
  exact ⟨v', by rw [e.cell (dY h5)]; exact h5⟩
 free := fun b a h1 h2 => by
  obtain ⟨v, hv⟩ := H.lt_cell h1
  rw [e.frozen (dY hv)]
  exact H.free b a h1 h2
 inj := H.inj
 ex := H.ex
 grone := H.grone
 itr := fun b o L h1 h2 h3 => by
  obtain ⟨a, b, x, c, d⟩ := H.itr b o L h1 h2 h3
  refine ⟨a, b, x, ?_, d⟩
  rw [e.block _ (Array.getElem?_eq_some_iff.1 c).1]
  exact c
 itj := H.itj
theorem Kp.later {G : Gd} {ρ : cN} {h : Hp} {w w' : World} (H : HR G ρ h w) (e : Below w.heap.size w w') : Kp G w w' :=
 ⟨e.mono H.sz.1, fun k hk => e.block k (H.sz.2 k hk)⟩
def lF (ρ ρ2 : cN) : cN := fun b => match ρ b with
 | some L => some L
 | none => ρ2 b
section
variable {G G2 : Gd} {ρ ρ2 : cN} {h g : Hp} {w w' : World} {J : Tr Ob}
theorem HR.join (H : HR G ρ h w) (hb : Below w.heap.size w w') (H2 : HR G2 ρ2 g w') (hG2 : G2.B = w.heap.size) (low : ∀ b L, ρ2 b = some L → h.next.toNat ≤ b.toNat)
  (hk : ∀ b o, g.bl.get b = some o → o.sg = true ∨ ∃ l, o = .row .ex l) (hn : h.next.toNat ≤ g.next.toNat)
  (hJ : ∀ b, J.get b = match h.bl.get b with
   | some o => some o
   | none => g.bl.get b) : HR G (lF ρ ρ2) ⟨g.next, J⟩ w' ∧ Ex G ρ (lF ρ ρ2) ∧ Ext ρ2 (lF ρ ρ2) := by
 have H' := H.later hb
 have e1 : Ext ρ (lF ρ ρ2) := fun b L hL => by unfold lF; rw [hL]
 have no : ∀ b, h.next.toNat ≤ b.toNat → ρ b = none := fun b hb => by
  cases e : ρ b with
  | none => rfl
  | some L => have := H.lt b L e; omega
 have e2 : Ext ρ2 (lF ρ ρ2) := fun b L hL => by unfold lF; rw [no b (low b L hL)]; exact hL
 have two : ∀ b o, J.get b = some o → (h.bl.get b = some o ∧ ∃ L, ρ b = some L ∧ lF ρ ρ2 b = some L) ∨ (g.bl.get b = some o ∧ ∃ L, ρ2 b = some L ∧ lF ρ ρ2 b = some L) := fun b o ho => by
  rw [hJ] at ho
  cases hh : h.bl.get b with
  | some o' =>
   rw [hh] at ho
   cases ho
   obtain ⟨L, hL⟩ := H.dom b _ hh
   exact .inl ⟨rfl, L, hL, e1 _ _ hL⟩
  | none =>
   rw [hh] at ho
   obtain ⟨L, hL⟩ := H2.dom b o ho
   exact .inr ⟨ho, L, hL, e2 _ _ hL⟩
 have cl : ∀ {b a}, Claims (lF ρ ρ2) ⟨g.next, J⟩ b a → (Claims ρ h b a ∧ ∀ l, J.get b = some (.row .ro l) → h.bl.get b = some (.row .ro l)) ∨ (Claims ρ2 g b a ∧ ¬ isRo g b ∧ ∀ l, J.get b ≠ some (.row .ro l)) := by
  rintro b a ⟨k, l, L, q1, q2, q3⟩
  change J.get b = some (.row k l) at q1
  rcases two b _ q1 with ⟨c1, L', c2, c3⟩ | ⟨c1, L', c2, c3⟩
  ·have c3' := c3.symm.trans q2
   cases c3'
   exact .inl ⟨⟨k, l, L, c1, c2, q3⟩, fun l' hl' => by rw [q1] at hl'; rw [c1]; exact hl'⟩
  ·have c3' := c3.symm.trans q2
   cases c3'
   refine .inr ⟨⟨k, l, L, c1, c2, q3⟩, ?_, ?_⟩
   ·rintro ⟨l', hl'⟩
    rw [c1] at hl'
    cases hl'
    rcases hk b _ c1 with hs | ⟨_, hs⟩ <;> cases hs
   ·intro l' hl'
    rw [q1] at hl'
    cases hl'
    rcases hk b _ c1 with hs | ⟨_, hs⟩ <;> cases hs
 have old : ∀ {b a}, Claims ρ h b a → a.block < w.heap.size := fun hc => by
  obtain ⟨v, hv⟩ := H.lt_cell hc
  exact dY hv
 have own2 : ∀ {k}, Own G2 k → Own G k ∧ w.heap.size ≤ k := fun {k} ho => by
  have h1 := ho.1
  rw [hG2] at h1
  exact ⟨⟨Nat.le_trans H.sz.1 h1, fun hX => by have := H.sz.2 k hX; omega⟩, h1⟩
 refine ⟨⟨H'.gl, H'.sz, Nat.le_trans H.nx hn, ?_, ?_, ?_, ?_, ?_, ?_, ?_, ?_, ?_, ?_, ?_⟩, ⟨e1, fun b L hL => ?_⟩, e2⟩
 ·rintro b a hc ⟨l, hl⟩
  rcases cl hc with ⟨c, hr⟩ | ⟨_, _, hr⟩
  ·exact H'.ro b a c ⟨l, hr l hl⟩
  ·exact absurd hl (hr l)
 ·intro b o ho
  rcases two b o ho with ⟨_, L, _, c⟩ | ⟨_, L, _, c⟩
  ·exact ⟨L, c⟩
  ·exact ⟨L, c⟩
 ·intro b L hL
  unfold lF at hL
  cases e : ρ b with
  | some L' => have := H.lt b L' e; show b.toNat < g.next.toNat; omega
  | none => rw [e] at hL; exact H2.lt b L hL
 ·intro b k l L i v ho hL hi hv
  rcases two b _ ho with ⟨c1, L', c2, c3⟩ | ⟨c1, L', c2, c3⟩
  ·have c3' := c3.symm.trans hL
   cases c3'
   obtain ⟨v', q1, q2⟩ := H'.cell b k l L i v c1 c2 hi hv
   exact ⟨v', q1, q2.mono e1⟩
  ·have c3' := c3.symm.trans hL
   cases c3'
   obtain ⟨v', q1, q2⟩ := H2.cell b k l L i v c1 c2 hi hv
   exact ⟨v', q1, q2.mono e2⟩
 ·intro b l L es j ho hL hj
  rcases two b _ ho with ⟨c1, L', c2, c3⟩ | ⟨c1, L', c2, c3⟩
  ·have c3' := c3.symm.trans hL
   cases c3'
   exact H'.spare b l L es j c1 c2 hj
  ·have c3' := c3.symm.trans hL
   cases c3'
   exact H2.spare b l L es j c1 c2 hj
 ·intro b a hc hr
  rcases cl hc with ⟨c, hro⟩ | ⟨c, hnr, _⟩
  ·refine H'.free b a c fun ⟨l, hl⟩ => hr ⟨l, ?_⟩
   show J.get b = _
   rw [hJ, hl]
  ·obtain ⟨q1, q2⟩ := H2.free b a c hnr
   exact ⟨q1, (own2 q2).1⟩
 ·intro b b' a hc hc' hr
  rcases cl hc with ⟨c, _⟩ | ⟨c, hnr, _⟩
  ·rcases cl hc' with ⟨c', _⟩ | ⟨c', hnr', _⟩
   ·refine H'.inj b b' a c c' fun ⟨l, hl⟩ => hr ⟨l, ?_⟩
    show J.get b = _
    rw [hJ, hl]
   ·have h1 := old c
    have h2 := (own2 (H2.free b' a c' hnr').2).2
    omega
  ·rcases cl hc' with ⟨c', _⟩ | ⟨c', hnr', _⟩
   ·have h1 := old c'
    have h2 := (own2 (H2.free b a c hnr).2).2
    omega
   ·exact H2.inj b b' a c c' hnr
 ·intro b l L ho hL
  have key : ∀ o, J.get b = some o → (o = .row .ro l ∨ o = .row .ex l) → L.sp = 0 := fun o ho' hor => by
   rcases two b o ho' with ⟨c1, L', c2, c3⟩ | ⟨c1, L', c2, c3⟩
   ·have c3' := c3.symm.trans hL
    cases c3'
    rcases hor with rfl | rfl
    ·exact H'.ex b l L (.inl c1) c2
    ·exact H'.ex b l L (.inr c1) c2
   ·have c3' := c3.symm.trans hL
    cases c3'
    rcases hor with rfl | rfl
    ·exact H2.ex b l L (.inl c1) c2
    ·exact H2.ex b l L (.inr c1) c2
  rcases ho with ho | ho
  ·exact key _ ho (.inl rfl)
  ·exact key _ ho (.inr rfl)
 ·intro b es l i v ho hi
  rcases two b _ ho with ⟨c1, _⟩ | ⟨c1, _⟩
  ·exact H'.grone b es l i v c1 hi
  ·exact H2.grone b es l i v c1 hi
 ·intro b o L h0 ho hL
  rcases two b o ho with ⟨c1, L', c2, c3⟩ | ⟨c1, L', c2, c3⟩
  ·have c3' := c3.symm.trans hL
   cases c3'
   obtain ⟨q1, q2, x, q3, q4⟩ := H'.itr b o L h0 c1 c2
   exact ⟨q1, q2, x, q3, q4.mono e1⟩
  ·have c3' := c3.symm.trans hL
   cases c3'
   obtain ⟨q1, q2, x, q3, q4⟩ := H2.itr b o L h0 c1 c2
   exact ⟨(own2 q1).1, q2, x, q3, q4.mono e2⟩
 ·intro b o b' o' L L' h0 h0' ho ho' hL hL' he
  have lo : ∀ {b o L}, o.sg = true → h.bl.get b = some o → ρ b = some L → L.bl < w.heap.size := fun {b o L} s1 s2 s3 => by
   obtain ⟨_, _, x, q, _⟩ := H.itr b o L s1 s2 s3
   exact (Array.getElem?_eq_some_iff.1 q).1
  rcases two b o ho with ⟨c1, K, c2, c3⟩ | ⟨c1, K, c2, c3⟩ <;> (have c3' := c3.symm.trans hL; cases c3') <;>
   rcases two b' o' ho' with ⟨d1, K', d2, d3⟩ | ⟨d1, K', d2, d3⟩ <;> (have d3' := d3.symm.trans hL'; cases d3')
  ·exact H'.itj b o b' o' L L' h0 h0' c1 d1 c2 d2 he
  ·have q1 := lo h0 c1 c2
   have q2 := (own2 (H2.itr b' o' L' h0' d1 d2).1).2
   omega
  ·have q1 := lo h0' d1 d2
   have q2 := (own2 (H2.itr b o L h0 c1 c2).1).2
   omega
  ·exact H2.itj b o b' o' L L' h0 h0' c1 d1 c2 d2 he
 ·unfold lF at hL
  cases e : ρ b with
  | some L' => rw [e] at hL; exact .inl hL
  | none =>
   rw [e] at hL
   exact .inr (Nat.le_trans H.nx (low b L hL))
end
end Go.Dd

namespace Go.Dd
open Go.Proofs Go.RowKit
def gdS (w : World) (N : Nat) : Gd := ⟨w.heap.size, fun _ => False, N, w.heap, fun _ _ => trivial⟩
theorem HR.empty (w : World) (N : Nat) (p : Pos) (hN : N ≤ p.toNat) : HR (gdS w N) (fun _ => none) ⟨p, .e⟩ w := by
 constructor
 ·exact fun _ _ => rfl
 ·exact ⟨Nat.le_refl _, fun _ h => h.elim⟩
 ·exact hN
 ·rintro b a ⟨k, l, L, _, h2, _⟩; cases h2
 ·intro b o h; cases b <;> cases h
 ·intro b L h; cases h
 ·intro b k l L i v h h2; cases h2
 ·intro b l L es j h h2; cases h2
 ·rintro b a ⟨k, l, L, _, h2, _⟩; cases h2
 ·rintro b b' a ⟨k, l, L, _, h2, _⟩; cases h2
 ·intro b l L h h2; cases h2
 ·intro b es l i v h; cases b <;> cases h
 ·intro b s pos L h h2; cases h2
 ·intro b s pos b' s' pos' L L' h h' h2; cases h2
theorem aNq {f : FuncId} {args : List DV} {F : List DV → Hp → aH} {v : DV} {g1 : Hp} (hF : ∀ G, kA Tryz.prog G f F) (hr : F args hS = some (v, g1)) (fn : Func) (hf : Tryz.prog.funcs[f]? = some fn) (hb : fn.body.isSome = true)
  (w : World) (args' : Array Value) (hargs : VRs (fun _ => none) args args'.toList) :
  Calls Tryz.prog f args' w fun e w' => ∃ ρ' v', e = .returned v' ∧ VR ρ' v v' ∧ HR (gdS w 1024) ρ' g1 w' ∧ Below w.heap.size w w' ∧ ∀ b L, ρ' b = some L → 1024 ≤ b.toNat := by
 have hp : (aM 1).toNat = 1024 := by kernel_rfl
 have H : HR (gdS w 1024) (fun _ => none) hS w := HR.empty w 1024 (aM 1) (by rw [hp]; exact Nat.le_refl _)
 rcases hF (gdS w 1024) args hS v g1 hr _ w args' H hargs with ⟨_, h⟩ | ⟨ρ', w', v', h, _⟩
 ·refine h.mono ?_
  rintro e w' ⟨ρ', v', h1, h2, h3, h4, h5⟩
  exact ⟨ρ', v', h1, h3, h4, h5.low, fun b L hL => (h2.new b L hL).resolve_left (fun e => by cases e)⟩
 ·exfalso
  have hn : ¬ fn.name = "runtime.NumGoroutine" := by simpa using Try_ok.names f fn hf
  have hbn : fn.body ≠ none := by intro e; rw [e] at hb; cases hb
  unfold callFunc at h
  simp [hf, hn, hbn] at h
theorem aPx {f : FuncId} {fn : Func} (hf : Tryz.prog.funcs[f]? = some fn) (hb : fn.body.isSome = true) (args : Array Value) (w : World) : (callFunc f args).run Tryz.prog w = .ok (.enter f args) w := by
 have hn : ¬ fn.name = "runtime.NumGoroutine" := by simpa using Try_ok.names f fn hf
 have hbn : fn.body ≠ none := by intro e; rw [e] at hb; cases hb
 unfold callFunc
 simp [hf, hn, hbn]
theorem bMn {f : FuncId} {F : List DV → Hp → aH} {r : Bool} {h1 : Hp} (hF : ∀ G, kA Tryz.prog G f F) (hr : F [] hS = some (.b r, h1)) (fn : Func) (hf : Tryz.prog.funcs[f]? = some fn) (hb : fn.body.isSome = true) (G : Gd) :
  kA Tryz.prog G f (fun args h => match args with
   | [] => some (.b r, h)
   | _ => none) := by
 intro args h v h2 he ρ w args' H hargs
 cases args with
 | cons _ _ => cases he
 | nil =>
  simp only [bD, bM] at he
  obtain ⟨rfl, rfl⟩ := he
  have e0 : args' = #[] := by
   obtain ⟨a⟩ := args'
   cases hargs
   rfl
  subst e0
  refine .inl ⟨aPx hf hb _ _, ?_⟩
  refine (aNq hF hr fn hf hb w #[] .nil).mono ?_
  rintro e w' ⟨ρ', v', rfl, hv, _, hbel, _⟩
  cases hv
  exact ⟨ρ, _, rfl, Ex.refl _ _, .b _, H.later hbel, Kp.later H hbel⟩
theorem Sim.tf {a b c : Hp} (h : Sim true a b) (k : Sim false b c) : Sim false a c := ⟨k.next.trans h.next, fun p o hp => by
 obtain ⟨o', h1, h2⟩ := h.get p o hp
 rw [gT h2] at h1
 exact k.get p o h1⟩
theorem aBd (o : Ob) : tR true o o := by cases o <;> simp [tR]
theorem eNu : Sim false hS hS := ⟨rfl, fun b o hb => by cases b <;> cases hb⟩
theorem cRw (g : FuncId) (F : List DV → Hp → aH) (hg : CF.I g = some F) (n : Nat) (args : List DV) : SimP false (F args) (bX CF1 (fV CF1 (n + 12)) g args) := by
 change (bif Nat.beq g 266 then some mI else bif Nat.beq g 242 then some mA else bif Nat.beq g 174 then some fJ else aAz g) = some F at hg
 have hcall : bX CF1 (fV CF1 (n + 12)) g args = fun h => match (bif Nat.beq g 266 then some mI else bif Nat.beq g 242 then some mA else bif Nat.beq g 174 then some fJ else none : Option (List DV → Hp → aH)) with
  | some F => F args h
  | none => fV CF1 (n + 12) g args h := rfl
 rw [hcall]
 cases h1 : Nat.beq g 266 with
 | true => rw [h1] at hg; cases hg; exact aFf args
 | false =>
  cases h2 : Nat.beq g 242 with
  | true => rw [h1, h2] at hg; cases hg; exact aFl args
  | false =>
   cases h3 : Nat.beq g 174 with
   | true => rw [h1, h2, h3] at hg; cases hg; exact sE args
   | false =>
    rw [h1, h2, h3] at hg
    exact aPt g F hg n args
theorem aOz {g : FuncId} (hg : CF.I g = none) : CF1.I g = none := by
 show (bif Nat.beq g 266 then some mI else bif Nat.beq g 242 then some mA else bif Nat.beq g 174 then some fJ else none) = none
 change (bif Nat.beq g 266 then some mI else bif Nat.beq g 242 then some mA else bif Nat.beq g 174 then some fJ else aAz g) = none at hg
 cases h1 : Nat.beq g 266 with
 | true => rw [h1] at hg; cases hg
 | false =>
  cases h2 : Nat.beq g 242 with
  | true => rw [h1, h2] at hg; cases hg
  | false =>
   cases h3 : Nat.beq g 174 with
   | true => rw [h1, h2, h3] at hg; cases hg
   | false => rfl
theorem aWh : ∃ g', fV CF1 912 10 [.i .i64 (.ofNat 20000)] hS = some (.t [.p (aM 7) 0, .i .i64 (.ofNat 0)], g') ∧ Sim false hN g' := by
 obtain ⟨g, h1, h2⟩ := dNf
 rw [aCl] at h1
 obtain ⟨g', h3, h4⟩ := cFv 900 10 [.i .i64 (.ofNat 20000)] hS hS eNu _ _ h1
 exact ⟨g', h3, h2.tf h4⟩
section known
variable {g1 : Hp} {HL : List (Pos × Ob)} {nx0 : Nat}
noncomputable def exL (g1 : Hp) (l : List (Pos × Ob)) : List (Pos × Ob) := l.map fun x => (x.1, (g1.bl.get x.1).getD x.2)
theorem xX (l : List (Pos × Ob)) (t : Tr Ob) (b : Pos) : (gB l t).get b = match (gB l .e).get b with
  | some o => some o
  | none => t.get b := by
 induction l with
 | nil => rw [show gB [] t = t from rfl, show gB [] .e = .e from rfl, Tr.get_e]
 | cons x l ih =>
  show (Tr.set x.2 x.1 (gB l t)).get b = match (Tr.set x.2 x.1 (gB l .e)).get b with
   | some o => some o
   | none => t.get b
  by_cases e : b = x.1
  ·rw [e, eMs, eMs]
  ·rw [eMr _ _ _ _ e, eMr _ _ _ _ e]
   exact ih
theorem cJl (l : List (Pos × Ob)) (b : Pos) (o : Ob) (h : (gB l .e).get b = some o) : (b, o) ∈ l := by
 induction l with
 | nil => rw [show gB [] .e = .e from rfl, Tr.get_e] at h; cases h
 | cons x l ih =>
  change (Tr.set x.2 x.1 (gB l .e)).get b = some o at h
  by_cases e : b = x.1
  ·rw [e, eMs] at h
   cases h
   rw [e]
   exact List.mem_cons_self
  ·rw [eMr _ _ _ _ e] at h
   exact List.mem_cons_of_mem _ (ih h)
theorem nO (g1 : Hp) (l : List (Pos × Ob)) (b : Pos) : (gB (exL g1 l) .e).get b = ((gB l .e).get b).map fun o => (g1.bl.get b).getD o := by
 induction l with
 | nil => rw [show exL g1 [] = [] from rfl, show gB [] .e = .e from rfl, Tr.get_e]; rfl
 | cons x l ih =>
  show (Tr.set ((g1.bl.get x.1).getD x.2) x.1 (gB (exL g1 l) .e)).get b = ((Tr.set x.2 x.1 (gB l .e)).get b).map _
  by_cases e : b = x.1
  ·rw [e, eMs, eMs]
   rfl
  ·rw [eMr _ _ _ _ e, eMr _ _ _ _ e]
   exact ih
theorem aFh (S : Sim false (dB nx0 HL) g1) {b : Pos} {o : Ob} (h : (gB HL .e).get b = some o) : ∃ o', g1.bl.get b = some o' ∧ tR false o o' ∧ (gB (exL g1 HL) .e).get b = some o' := by
 obtain ⟨o', h1, h2⟩ := S.get b o h
 refine ⟨o', h1, h2, ?_⟩
 rw [nO, h, h1]
 rfl
noncomputable def aQv (o : Ob) : Bool := match o with
 | .row .ex _ => true
 | .mp _ => true
 | .big _ _ => true
 | .mi _ => true
 | _ => false
noncomputable def cPy (l : List (Pos × Ob)) : Bool := List.rec (motive := fun _ => Bool) true (fun x _ ih => aQv x.2 && ih) l
theorem aQo : ∀ {l : List (Pos × Ob)}, cPy l = true → ∀ x ∈ l, aQv x.2 = true
 | [], _, x, h => by cases h
 | y :: l, hl, x, h => by
  change (aQv y.2 && cPy l) = true at hl
  simp only [Bool.and_eq_true] at hl
  simp only [List.mem_cons] at h
  rcases h with rfl | h
  ·exact hl.1
  ·exact aQo hl.2 x h
theorem bKd {o o' : Ob} (hk : aQv o = true) (h : tR false o o') : o'.sg = true ∨ ∃ l, o' = .row .ex l := by
 unfold aQv at hk
 split at hk
 ·have : o' = _ := h
  exact .inr ⟨_, this⟩
 ·have : o' = _ := h
  rw [this]
  exact .inl rfl
 ·exact .inr ⟨_, h⟩
 ·obtain ⟨es, h1, _⟩ := h
  rw [h1]
  exact .inl rfl
 ·cases hk
noncomputable def aAg (p : List DV → Bool) (v0 : DV) (nx0 : Nat) (HL : List (Pos × Ob)) (g1 : Hp) (args : List DV) (h : Hp) : aH :=
 bif p args && kY h.next (aM 1) then some (v0, ⟨aM nx0, gB (exL g1 HL) h.bl⟩) else none
theorem bKw (S1 : Sim false (dB nx0 HL) g1) (p : List DV → Bool) (v0 : DV) (args : List DV) : SimP false (aFe p v0 nx0 HL args) (aAg p v0 nx0 HL g1 args) := by
 intro h h' S
 unfold aFe aAg
 rw [S.next]
 cases (p args && kY h.next (aM 1)) with
 | false => exact SimR.none _
 | true =>
  intro v k e
  simp only [cond_true, bD, bM] at e
  obtain ⟨rfl, rfl⟩ := e
  refine ⟨⟨aM nx0, gB (exL g1 HL) h'.bl⟩, rfl, rfl, fun b o ho => ?_⟩
  change (gB HL h.bl).get b = some o at ho
  show ∃ o', (gB (exL g1 HL) h'.bl).get b = some o' ∧ tR false o o'
  rw [xX] at ho ⊢
  cases hb : (gB HL .e).get b with
  | some o1 =>
   rw [hb] at ho
   cases ho
   obtain ⟨o', _, h2, h3⟩ := aFh S1 hb
   exact ⟨o', by rw [h3], h2⟩
  | none =>
   rw [hb] at ho
   rw [nO, hb]
   exact S.get b o ho
theorem cFl {f : FuncId} {F : List DV → Hp → aH} (hF : ∀ G, kA Tryz.prog G f F) {args0 : List DV} {v0 : DV} (hr0 : F args0 hS = some (v0, g1)) (S1 : Sim false (dB nx0 HL) g1) (hk : cPy HL = true) (hnx0 : 1024 ≤ (aM nx0).toNat)
  (fn : Func) (hf : Tryz.prog.funcs[f]? = some fn) (hb : fn.body.isSome = true) {p : List DV → Bool} (hp : ∀ args, p args = true → args = args0) (h0 : ∀ ρ l, VRs ρ args0 l → VRs (fun _ => none) args0 l) (G : Gd) : kA Tryz.prog G f (aAg p v0 nx0 HL g1) := by
 intro args h v h1 hr ρ w args' H hargs
 unfold aAg at hr
 cases hc : (p args && kY h.next (aM 1)) with
 | false => rw [hc] at hr; cases hr
 | true =>
  rw [hc] at hr
  simp only [cond_true, bD, bM] at hr
  obtain ⟨rfl, rfl⟩ := hr
  simp only [Bool.and_eq_true] at hc
  have ha := hp _ hc.1
  subst ha
  have hnx := kE _ _ hc.2
  have hp1 : (aM 1).toNat = 1024 := by kernel_rfl
  refine .inl ⟨aPx hf hb _ _, ?_⟩
  refine (aNq hF hr0 fn hf hb w args' (h0 _ _ hargs)).mono ?_
  rintro e w' ⟨ρ2, v', rfl, hv, H2, hbel, hlow⟩
  have S2 : Sim true ⟨g1.next, gB (exL g1 HL) .e⟩ g1 := ⟨rfl, fun b o ho => by
   change (gB (exL g1 HL) .e).get b = some o at ho
   rw [nO] at ho
   cases hb : (gB HL .e).get b with
   | none => rw [hb] at ho; cases ho
   | some o1 =>
    obtain ⟨o', q1, _, q3⟩ := aFh S1 hb
    rw [nO] at q3
    rw [q3] at ho
    cases ho
    exact ⟨_, q1, aBd _⟩⟩
  have hgn : g1.next = aM nx0 := S1.next
  have H3 := HR.sub S2 H2
  obtain ⟨j1, j2, j3⟩ := H.join (J := gB (exL g1 HL) h.bl) hbel H3 rfl (fun b L hL => by rw [hnx, hp1]; exact hlow b L hL) (fun b o ho => by
    change (gB (exL g1 HL) .e).get b = some o at ho
    rw [nO] at ho
    cases hb : (gB HL .e).get b with
    | none => rw [hb] at ho; cases ho
    | some o1 =>
     obtain ⟨o', q1, q2, q3⟩ := aFh S1 hb
     rw [nO] at q3
     rw [q3] at ho
     cases ho
     exact bKd (aQo hk _ (cJl _ _ _ hb)) q2) (by
    show h.next.toNat ≤ g1.next.toNat
    rw [hnx, hgn, hp1]
    exact hnx0) (fun b => by
    rw [xX]
    cases hb : (gB (exL g1 HL) .e).get b with
    | none => cases h.bl.get b <;> rfl
    | some o =>
     cases hh : h.bl.get b with
     | none => rfl
     | some o1 =>
      exfalso
      obtain ⟨L, hL⟩ := H.dom b o1 hh
      have q1 := H.lt b L hL
      obtain ⟨L2, hL2⟩ := H3.dom b o hb
      have q2 := hlow b L2 hL2
      rw [hnx, hp1] at q1
      omega)
  rw [hgn] at j1
  exact ⟨lF ρ ρ2, v', rfl, j2, hv.mono j3, j1, Kp.later H hbel⟩
end known
noncomputable def gN1 : Hp := Classical.choose aWh
theorem cXt : fV CF1 912 10 [.i .i64 (.ofNat 20000)] hS = some (.t [.p (aM 7) 0, .i .i64 (.ofNat 0)], gN1) := (Classical.choose_spec aWh).1
theorem bGf : Sim false hN gN1 := (Classical.choose_spec aWh).2
theorem bMj : cPy HLN = true := by kernel_rfl
noncomputable def cIm : List DV → Hp → aH := aAg aOr (.t [.p (aM 7) 0, .i .i64 (.ofNat 0)]) 26855 HLN gN1
theorem bSc (args : List DV) : SimP false (cDe args) (cIm args) := bKw bGf _ _ _
theorem cIr (args : List DV) (h : aOr args = true) : args = [.i .i64 (.ofNat 20000)] := by
 unfold aOr at h
 split at h
 ·rw [Nat.eq_of_beq_eq_true h]
 ·cases h
theorem cSq {k : IntKind} {n : Int} (ρ : cN) (l : List Value) (h : VRs ρ [.i k n] l) : VRs (fun _ => none) [.i k n] l := by
 cases h with
 | cons _ _ _ _ q1 q2 =>
  cases q1
  cases q2
  exact .cons _ _ _ _ (.i _ _) .nil
theorem bYf (G : Gd) : kA Tryz.prog G 10 cIm :=
 cFl (fun G => cNf 912 G 10) cXt bGf bMj (by rw [show (aM 26855).toNat = 27878 from by kernel_rfl]; decide) Tryz.f10 Tryz.func10 (by kernel_rfl) cIr cSq G
noncomputable def nH : RT := fun g => bif Nat.beq g 10 then cIm else fV CF1 912 g
theorem recN1_ok : OkC CF1 nH := by
 refine ⟨aEc, fun G g => ?_⟩
 unfold nH
 cases hg : Nat.beq g 10 with
 | true => cases Nat.eq_of_beq_eq_true hg; exact bYf G
 | false => exact cNf 912 G g
theorem bEo (n : Nat) (g : FuncId) (args : List DV) (h : Hp) : aBa n g args h = bif Nat.beq g 10 then cDe args h else eD n g args h := rfl
theorem bDv (g : FuncId) (args : List DV) : SimP false (aBa 900 g args) (nH g args) := by
 intro h h' S
 rw [bEo]
 unfold nH
 cases hg : Nat.beq g 10 with
 | false =>
  rw [cond_false, cond_false, aCl]
  exact cFv 900 g args h h' S
 | true => exact bSc args h h' S
theorem HCN (g : FuncId) (args : List DV) : SimP false (bX CF (aBa 900) g args) (bX CF1 nH g args) := by
 cases hg : CF.I g with
 | none => rw [jK hg, jK (aOz hg)]; exact bDv g args
 | some F =>
  have e : bX CF (aBa 900) g args = F args := by funext k; unfold bX; rw [hg]
  rw [e]
  have e1 : bX CF1 nH g args = bX CF1 (fV CF1 912) g args := by
   cases h10 : Nat.beq g 10 with
   | true =>
    cases Nat.eq_of_beq_eq_true h10
    exact absurd hg (by show ¬ CF.I 10 = some F; exact fun e => by cases e)
   | false =>
    funext k
    unfold bX nH
    rw [h10]
    rfl
  rw [e1]
  exact cRw g F hg 900 args
theorem bXf : ∃ g, aG CF1 nH 912 16 [] hS = some (.b true, g) := by
 have hl := dTd
 cases hr : s16 (aBa 900) 900 hS with
 | none => rw [hr] at hl; cases hl
 | some p =>
  obtain ⟨v, k⟩ := p
  rw [hr] at hl
  cases v <;> (try (cases hl; done))
  rename_i b
  change b = true at hl
  subst hl
  obtain ⟨g, h1, h2⟩ := qP (P := Tryz.prog) (I2 := CF.I) (I1 := CF1.I) HCN 900 12 16 [] hS hS eNu _ _ ((dFi (aBa 900) 900 [] hS).trans hr)
  exact ⟨g, h1⟩
noncomputable def lV : RT := fun g args h => bif Nat.beq g 16 then (match args with
 | [] => some (.b true, h)
 | _ => none) else aBa 900 g args h
noncomputable def aPr : RT := fun g => bif Nat.beq g 16 then (fun args h => match args with
 | [] => some (.b true, h)
 | _ => none) else nH g
theorem bQc : OkC CF1 aPr := by
 refine ⟨aEc, fun G g => ?_⟩
 unfold aPr
 cases hg : Nat.beq g 16 with
 | true =>
  cases Nat.eq_of_beq_eq_true hg
  obtain ⟨k, hk⟩ := bXf
  exact bMn (fun G => uK recN1_ok Try_ok 912 16) hk Tryz.f16 Tryz.func16 (by kernel_rfl) G
 | false => exact recN1_ok.fns G g
theorem HCX (g : FuncId) (args : List DV) : SimP false (bX CF lV g args) (bX CF1 aPr g args) := by
 cases hg : CF.I g with
 | none =>
  rw [jK hg, jK (aOz hg)]
  intro h h' S
  show SimR false (bif Nat.beq g 16 then (match args with
   | [] => some (.b true, h)
   | _ => none) else aBa 900 g args h) ((bif Nat.beq g 16 then (fun args h => match args with
   | [] => some (.b true, h)
   | _ => none : List DV → Hp → aH) else nH g) args h')
  cases h16 : Nat.beq g 16 with
  | true =>
   rw [cond_true, cond_true]
   cases args with
   | nil => exact SimR.some S _
   | cons a l => exact SimR.none _
  | false => rw [cond_false, cond_false]; exact bDv g args h h' S
 | some F =>
  have e : bX CF lV g args = F args := by funext k; unfold bX; rw [hg]
  have e0 : bX CF (aBa 900) g args = F args := by funext k; unfold bX; rw [hg]
  have e1 : bX CF1 aPr g args = bX CF1 nH g args := by
   cases h16 : Nat.beq g 16 with
   | true =>
    cases Nat.eq_of_beq_eq_true h16
    exact absurd hg (by show ¬ CF.I 16 = some F; exact fun e => by cases e)
   | false =>
    funext k
    unfold bX aPr
    rw [h16]
    rfl
  rw [e, e1, ← e0]
  exact HCN g args
structure Ro (w : World) (ρ : cN) (h : Hp) : Prop where
 dom : ∀ b o, h.bl.get b = some o → ∃ L, ρ b = some L
 lt : ∀ b L, ρ b = some L → b.toNat < h.next.toNat
 row : ∀ b o, h.bl.get b = some o → ∃ l, o = .row .ro l
 cell : ∀ b l L i v, h.bl.get b = some (.row .ro l) → ρ b = some L → l[i]? = some v → ∃ v', w.cell? (fN L i) = some v' ∧ VR ρ v v'
 sp : ∀ b o L, h.bl.get b = some o → ρ b = some L → L.sp = 0
theorem Ro.isRo {w : World} {ρ : cN} {h : Hp} (R : Ro w ρ h) {b : Pos} {a : Addr} (c : Claims ρ h b a) : isRo h b := by
 obtain ⟨k, l, L, h1, h2, _⟩ := c
 obtain ⟨l', e⟩ := R.row b _ h1
 exact ⟨l', by rw [h1, e]⟩
theorem Ro.hr {w : World} {ρ : cN} {h : Hp} (R : Ro w ρ h) : HR (gdS w 0) ρ h w where
 gl := fun _ _ => rfl
 sz := ⟨Nat.le_refl _, fun _ hh => hh.elim⟩
 nx := Nat.zero_le _
 ro := fun b a c _ => by
  obtain ⟨k, l, L, h1, h2, h3⟩ := c
  obtain ⟨l', e⟩ := R.row b _ h1
  cases e
  rcases h3 with ⟨i, v, h4, h5, rfl⟩ | ⟨es, j, h4, _⟩
  ·obtain ⟨v', h6, _⟩ := R.cell b _ L i v h1 h2 h4
   exact dY h6
  ·cases h4
 dom := R.dom
 lt := R.lt
 cell := fun b k l L i v h1 h2 h3 h4 => by
  obtain ⟨l', e⟩ := R.row b _ h1
  cases e
  exact R.cell b _ L i v h1 h2 h3
 spare := fun b l L es j h1 => by
  obtain ⟨l', e⟩ := R.row b _ h1
  cases e
 free := fun b a c hn => absurd (R.isRo c) hn
 inj := fun b b' a c c' hn => absurd (R.isRo c) hn
 ex := fun b l L h1 h2 => by
  rcases h1 with h1 | h1
  ·exact R.sp b _ L h1 h2
  ·exact R.sp b _ L h1 h2
 grone := fun b es l i v h1 => by
  obtain ⟨l', e⟩ := R.row b _ h1
  cases e
 itr := fun b o L hs h1 _ => by
  obtain ⟨l', rfl⟩ := R.row b _ h1
  cases hs
 itj := fun b o b' o' L L' hs hs' h1 _ _ _ _ => by
  obtain ⟨l', rfl⟩ := R.row b _ h1
  cases hs
theorem Ro.none (w : World) (p : Pos) : Ro w (fun _ => none) ⟨p, .e⟩ where
 dom := fun b o h => by cases b <;> cases h
 lt := fun b L h => by cases h
 row := fun b o h => by cases b <;> cases h
 cell := fun b l L i v h => by cases b <;> cases h
 sp := fun b o L h => by cases b <;> cases h
theorem Ro.sim {w : World} {ρ : cN} {h : Hp} (R : Ro w ρ h) : Sim false h h := ⟨rfl, fun b o e => by
 obtain ⟨l, rfl⟩ := R.row b o e
 exact ⟨_, e, rfl⟩⟩
theorem dJi {f : FuncId} {args : List DV} {h0 : Hp} {ρ : cN} (hr : ∃ k, aG CF lV 900 f args h0 = some (.b true, k)) (fn : Func) (hf : Tryz.prog.funcs[f]? = some fn) (hb : fn.body.isSome = true)
  (w : World) (R : Ro w ρ h0) (args' : Array Value) (hargs : VRs ρ args args'.toList) :
  Calls Tryz.prog f args' w fun e w' => e = .returned (.bool true) ∧ Below w.heap.size w w' := by
 obtain ⟨k, hk⟩ := hr
 obtain ⟨g, h1, _⟩ := qP (P := Tryz.prog) (I2 := CF.I) (I1 := CF1.I) HCX 900 12 f args h0 h0 R.sim _ _ hk
 have H := R.hr
 rcases uK bQc Try_ok 912 f args h0 _ g h1 _ w args' H hargs with ⟨_, h⟩ | ⟨ρ', w', v', h, _⟩
 ·refine h.mono ?_
  rintro e w' ⟨ρ', v', rfl, h2, h3, h4, h5⟩
  cases h3
  exact ⟨rfl, h5.low⟩
 ·exfalso
  have hn : ¬ fn.name = "runtime.NumGoroutine" := by simpa using Try_ok.names f fn hf
  have hbn : fn.body ≠ none := by intro e; rw [e] at hb; cases hb
  unfold callFunc at h
  simp [show CF1.P.funcs[f]? = some fn from hf, hn, hbn] at h
end Go.Dd

namespace Go.Dd
open Go.Proofs
noncomputable def obF (o p : Ob) : Bool := match o with
 | .row (.gr e) l => (match p with
  | .row (.gr d) m => Nat.beq e d && bLd l m
  | _ => false)
 | _ => obE o p
theorem dNz (o p : Ob) (h : obF o p = true) : o = p := by
 unfold obF at h
 split at h
 ·split at h
  ·simp only [Bool.and_eq_true] at h
   rw [Nat.eq_of_beq_eq_true h.1, qV _ _ h.2]
  ·cases h
 ·exact bSt _ _ h
noncomputable def cJt (g : Tr Ob) (l : List (Pos × Ob)) : Bool := List.rec (motive := fun _ => Bool) true (fun x _ ih => (match g.get x.1 with
 | some o => obF o x.2
 | none => false) && ih) l
theorem aOt (t : Tr Ob) : ∀ l : List (Pos × Ob), cJt t l = true → ∀ x ∈ l, t.get x.1 = some x.2
 | [], _, x, hx => by cases hx
 | y :: l, h, x, hx => by
  have h' : ((match t.get y.1 with
   | some o => obF o y.2
   | none => false) && cJt t l) = true := h
  simp only [Bool.and_eq_true] at h'
  rcases List.mem_cons.1 hx with rfl | hx
  ·have h1 := h'.1
   split at h1
   ·rename_i o ho
    rw [ho, dNz _ _ h1]
   ·cases h1
  ·exact aOt t l h'.2 x hx
noncomputable def dKp (u v : DV) : Bool := match u with
 | .t l => (match v with
  | .t m => bLd l m
  | _ => false)
 | _ => dvE u v
theorem dCw (u v : DV) (h : dKp u v = true) : u = v := by
 unfold dKp at h
 split at h
 ·split at h
  ·rw [qV _ _ h]
  ·cases h
 ·exact aGt _ _ h
noncomputable def dA (r : aH) (v : DV) (nx : Nat) (l : List (Pos × Ob)) : Bool := match r with
 | some (u, g) => dKp u v && (kY g.next (aM nx) && cJt g.bl l)
 | none => false
theorem mX {r : aH} {v : DV} {nx : Nat} {l : List (Pos × Ob)} (h : dA r v nx l = true) : ∃ g, r = some (v, g) ∧ Sim true (dB nx l) g := by
 unfold dA at h
 split at h
 ·rename_i u g
  simp only [Bool.and_eq_true] at h
  refine ⟨g, by rw [dCw _ _ h.1], ?_, fun b o hb => ⟨o, ?_, iV o⟩⟩
  ·exact kE _ _ h.2.1
  ·exact aOt _ _ h.2.2 (b, o) (xR _ _ _ hb)
 ·cases h
abbrev K1T := DV → Hp → aH
noncomputable def tA : K1T := fun c h => some (.t [c], h)
noncomputable def sL : K1T := fun _ _ => none
def One (r : aH) : Prop := ∃ c h, r = some (.t [c], h)
noncomputable def pS (B : K1T → K1T) (n : Nat) (K : K1T) : K1T := Nat.rec (motive := fun _ => K1T) K (fun _ ih => B ih) n
def OutP (f : K1T → aH) : Prop := (∃ c' h', ∀ kk, f kk = kk c' h') ∨ ∃ r, ¬ One r ∧ ∀ kk, f kk = r
theorem OutP.none' : OutP fun _ => none := .inr ⟨none, (by rintro ⟨_, _, e⟩; cases e), fun _ => rfl⟩
theorem OutP.go (c : DV) (h : Hp) : OutP fun kk => kk c h := .inl ⟨c, h, fun _ => rfl⟩
theorem OutP.ends {v : DV} {h : Hp} (hv : ∀ c, v ≠ .t [c]) : OutP fun _ => some (v, h) := .inr ⟨_, (by rintro ⟨c, _, e⟩; cases e; exact hv _ rfl), fun _ => rfl⟩
theorem OutP.bnd {r : aH} {k : K1T → DV → Hp → aH} (H : ∀ v h, OutP fun kk => k kk v h) : OutP fun kk => Go.Dd.bnd r (k kk) := by
 cases r with
 | none => exact OutP.none'
 | some p =>
  obtain ⟨v, h⟩ := p
  exact H v h
theorem OutP.ite {c : DV} {a b : K1T → aH} (ha : OutP a) (hb : OutP b) : OutP fun kk => aU c (a kk) (b kk) := by
 cases c with
 | b x =>
  cases x with
  | true => exact ha
  | false => exact hb
 | _ => exact OutP.none'
structure RB (B : K1T → K1T) : Prop where
 out : ∀ c h, OutP fun kk => B kk c h
 sim : ∀ kk, (∀ c, SimP true (kk c) (kk c)) → ∀ c, SimP true (B kk c) (B kk c)
section loop
variable {B : K1T → K1T}
theorem bCn (R : RB B) : ∀ (n : Nat) (c : DV) (h : Hp) (c' : DV) (h' : Hp), pS B n tA c h = some (.t [c'], h') → ∀ kk : K1T, pS B n kk c h = kk c' h'
 | 0, c, h, c', h', e, kk => by
  have e' : (some (.t [c], h) : aH) = some (.t [c'], h') := e
  simp only [bD, bM, DV.t.injEq, List.cons.injEq, and_true] at e'
  obtain ⟨rfl, rfl⟩ := e'
  rfl
 | n + 1, c, h, c', h', e, kk => by
  change B (pS B n tA) c h = _ at e
  show B (pS B n kk) c h = _
  rcases R.out c h with ⟨c1, h1, hs⟩ | ⟨r, hr, hs⟩
  ·exact (hs (pS B n kk)).trans (bCn R n c1 h1 c' h' ((hs (pS B n tA)).symm.trans e) kk)
  ·exact absurd ⟨_, _, (hs (pS B n tA)).symm.trans e⟩ hr
theorem aIw (R : RB B) (kk : K1T) (hk : ∀ c, SimP true (kk c) (kk c)) : ∀ (n : Nat) (c : DV), SimP true (pS B n kk c) (pS B n kk c)
 | 0, c => hk c
 | n + 1, c => R.sim _ (aIw R kk hk n) c
theorem bCf (kk : K1T) (m : Nat) : ∀ n, pS B (m + n) kk = pS B n (pS B m kk)
 | 0 => rfl
 | n + 1 => by
  show B (pS B (m + n) kk) = B (pS B n (pS B m kk))
  rw [bCf kk m n]
theorem RB.chunk (R : RB B) (n : Nat) {c c' : DV} {nx nx' : Nat} {L L' : List (Pos × Ob)} (hc : dA (pS B n tA c (dB nx L)) (.t [c']) nx' L' = true) (m : Nat) {h : Hp} (S : Sim true (dB nx L) h) :
  ∃ h', Sim true (dB nx' L') h' ∧ pS B (m + n) sL c h = pS B m sL c' h' := by
 obtain ⟨g, e1, e2⟩ := mX hc
 obtain ⟨g', f1, f2⟩ := aIw R tA (fun c h h' S => SimR.some S _) n c (dB nx L) h S _ _ e1
 refine ⟨g', e2.trans f2, ?_⟩
 rw [bCf]
 exact bCn R n _ _ _ _ f1 _
theorem RB.last (R : RB B) (m : Nat) {c v : DV} {nx nx' : Nat} {L L' : List (Pos × Ob)} (hc : dA (pS B m sL c (dB nx L)) v nx' L' = true) {h : Hp} (S : Sim true (dB nx L) h) :
  ∃ h', Sim true (dB nx' L') h' ∧ pS B m sL c h = some (v, h') := by
 obtain ⟨g, e1, e2⟩ := mX hc
 obtain ⟨g', f1, f2⟩ := aIw R sL (fun c h h' S => SimR.none _) m c (dB nx L) h S _ _ e1
 exact ⟨g', e2.trans f2, f1⟩
end loop
theorem cAu {n : Nat} {g : FuncId} (hg : CF.I g = none) {args : List DV} {v : DV} {nx nx' : Nat} {L L' : List (Pos × Ob)} (hc : dA (eD n g args (dB nx L)) v nx' L' = true) {h : Hp} (S : Sim true (dB nx L) h) :
  ∃ h', Sim true (dB nx' L') h' ∧ eD n g args h = some (v, h') := by
 obtain ⟨k, e1, e2⟩ := mX hc
 have key := lJ n g args
 rw [jK hg] at key
 obtain ⟨k', f1, f2⟩ := key (dB nx L) h S _ _ e1
 exact ⟨k', e2.trans f2, f1⟩
noncomputable def b28 (a b : DV) (kk : K1T) : K1T := fun c h => pT (eD 899) 899 (fun _ _ c h => kk c h) a b c h
theorem l28 (a b : DV) : ∀ m c h, kH (eD 899) 899 m a b c h = pS (b28 a b) m sL c h
 | 0, c, h => rfl
 | m + 1, c, h => by
  have ih : (fun c h => kH (eD 899) 899 m a b c h) = pS (b28 a b) m sL := by funext c h; exact l28 a b m c h
  show b28 a b (fun c h => kH (eD 899) 899 m a b c h) c h = b28 a b (pS (b28 a b) m sL) c h
  rw [ih]
noncomputable def aGk (i j k : Nat) (a b c : DV) : aZ := fun t => bif Nat.beq t i then a else bif Nat.beq t j then b else bif Nat.beq t k then c else .u
theorem eDw (a b : DV) (ha : ∀ c, a ≠ .t [c]) : RB (b28 a b) where
 out c h := by
  show OutP fun kk => pT (eD 899) 899 (fun _ _ c h => kk c h) a b c h
  unfold pT
  refine .bnd fun _ _ => .bnd fun _ _ => .ite ?_ ?_
  ·refine .bnd fun _ _ => .bnd fun _ _ => .bnd fun _ _ => .bnd fun _ _ => .bnd fun _ _ => .bnd fun _ _ => .bnd fun _ _ => .bnd fun _ _ => .bnd fun _ _ => .bnd fun _ _ => .go _ _
  ·exact .ends ha
 sim kk hk c := by
  have be : ∀ h, b28 a b kk c h = aP CF (eD 899) 67 899 (cL (cL (cR (cL (cR (cR (cR (cR (cR (cR (cR (cf Tryz.f28)))))))))))) (xs x0 2 (fun env h => eO (eD 899) 899 (env 1) h)) (aQ CF Tryz.f28) (fun env h => kk (env 8) h) (aGk 1 7 8 a b c) h := fun h =>
   (congrFun (congrFun (aPl (eD 899) 899 (fun _ _ c h => kk c h)) (aGk 1 7 8 a b c)) h).symm
  have hX : ∀ j, SimK true (xs x0 2 (fun env h => eO (eD 899) 899 (env 1) h) j) (xs x0 2 (fun env h => eO (eD 899) 899 (env 1) h) j) := by
   intro j env h h' S
   unfold xs
   cases Nat.beq j 2 with
   | true => exact SimR.some S _
   | false => exact SimR.none _
  have hr : ∀ e h, aQ CF Tryz.f28 e h = some (e 0, h) := fun e h => by kernel_rfl
  have hR : SimK true (aQ CF Tryz.f28) (aQ CF Tryz.f28) := fun env h h' S => by rw [hr, hr]; exact SimR.some S _
  have hK : SimK true (fun env h => kk (env 8) h) (fun env h => kk (env 8) h) := fun env => hk _
  have hc := dP (gg := true) (P := Tryz.prog) (I2 := CF.I) (I1 := CF.I) (rec2 := eD 899) (rec1 := eD 899) (fun g args => lJ 899 g args) 67 899 0 (cL (cL (cR (cL (cR (cR (cR (cR (cR (cR (cR (cf Tryz.f28)))))))))))) (xs x0 2 (fun env h => eO (eD 899) 899 (env 1) h)) (xs x0 2 (fun env h => eO (eD 899) 899 (env 1) h)) (aQ CF Tryz.f28) (aQ CF Tryz.f28) (fun env h => kk (env 8) h) (fun env h => kk (env 8) h) hX hR hK (aGk 1 7 8 a b c)
  intro h h' S
  rw [be, be]
  exact hc h h' S
end Go.Dd

