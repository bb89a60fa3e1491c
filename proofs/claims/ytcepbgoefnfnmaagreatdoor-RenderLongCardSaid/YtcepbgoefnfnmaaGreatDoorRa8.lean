/- A part of the proof: HD HE OC T0 TL TM TN TP TQ TR HF HG HI W1 W2 W3 W4 HW W5 LT0 LT1 LT2 LT3 NJ SH RL R12 HV W6 XW: each text has a comment of its own. -/
import Derived.Test.YtcepbgoefnfnmaaGreatDoorRa4
import Derived.Test.YtcepbgoefnfnmaaGreatDoorRa5
import Derived.Test.YtcepbgoefnfnmaaGreatDoorRa6
import Derived.Test.YtcepbgoefnfnmaaGreatDoorRa7
import Derived.Shelf.Strings.Builder1
import Derived.Shelf.Strings.Builder2
import Derived.Shelf.Small.Strs
import Derived.Shelf.Utf8.RuneCount
import Derived.Shelf.Strconv.Itoa0
import Derived.Shelf.Strconv.Itoa1
import Derived.Shelf.LaysM
import Derived.Shelf.Strconv.Itoa2
import Derived.Shelf.Strconv.Itoa3
import Derived.Shelf.Strings.Search1
import Derived.Shelf.Strings.Search2
import Derived.Shelf.Strings.Search3
import Derived.Shelf.Strings.Count
import Derived.Shelf.Strings.Shaped
import Derived.Shelf.Strings.Split
import Derived.Shelf.Strings.Replace
import Derived.Shelf.Strings.SplitShaped
import Derived.Shelf.Unicode.Decode
import Derived.Shelf.Strings.RuneCount
import Derived.Shelf.Unicode.DecodeSlow
import Derived.Shelf.Unicode.DecodeAny
import Derived.Test.YtcepbgoefnfnmaaGreatDoorProg
import Derived.Lib.SplitLaws
import Derived.Lib.IndexBytes
import Derived.Lib.Bytealg
import Derived.Test.YtcepbgoefnfnmaaGreatDoorRows
import Derived.Test.YtcepbgoefnfnmaaGreatDoorCards
import Derived.Test.YtcepbgoefnfnmaaGreatDoorTie
import Derived.WalkKit
import Derived.ProofKit
import Derived.OpenShut
import Derived.Carry
import Derived.Lib.LaidU8
import Derived.Lay
import Derived.LaidOnce
import Derived.SevenTiedAt
import Derived.ChangeMaps5
set_option linter.unusedVariables false
set_option linter.unusedSimpArgs false
set_option linter.constructorNameAsVariable false
set_option maxRecDepth 100000
namespace Go.Dd
theorem kW : ∀ p q : Pos, lW p q = true → p = q
 | .h, .h, _ => rfl
 | .h, .o q, h => by cases h
 | .h, .i q, h => by cases h
 | .o p, .h, h => by cases h
 | .o p, .o q, h => by rw [kW p q h]
 | .o p, .i q, h => by cases h
 | .i p, .h, h => by cases h
 | .i p, .o q, h => by cases h
 | .i p, .i q, h => by rw [kW p q h]
theorem oN (x y : Int) (h : gY x y = true) : x = y := by
 cases x <;> cases y <;> simp only [gY] at h
 ·rw [Nat.eq_of_beq_eq_true h]
 ·cases h
 ·cases h
 ·rw [Nat.eq_of_beq_eq_true h]
theorem aDi : ∀ t u : WT, wtE t u = true → t = u
 | .e, .e, _ => rfl
 | .e, .n _ _ _, h => by cases h
 | .n _ _ _, .e, h => by cases h
 | .n l v r, .n l' v' r', h => by
  have h' : (gY v v' && (wtE l l' && wtE r r')) = true := h
  simp only [Bool.and_eq_true] at h'
  rw [oN _ _ h'.1, aDi _ _ h'.2.1, aDi _ _ h'.2.2]
theorem aCz (x y : DV) (h : dvE x y = true) : x = y := by
 unfold dvE at h
 split at h <;> (try (cases h; done)) <;> (try rfl)
 ·rw [oN _ _ h]
 ·rw [(kX _ _).1 h]
 ·simp only [Bool.and_eq_true] at h
  rw [kW _ _ h.1, Nat.eq_of_beq_eq_true h.2]
 ·simp only [Bool.and_eq_true] at h
  rw [kW _ _ h.1, Nat.eq_of_beq_eq_true h.2.1, Nat.eq_of_beq_eq_true h.2.2.1, Nat.eq_of_beq_eq_true h.2.2.2]
 ·rw [kW _ _ h]
 ·simp at h; rw [h]
theorem aHu : ∀ l m : List DV, bYv l m = true → l = m
 | [], [], _ => rfl
 | [], _ :: _, h => by cases h
 | _ :: _, [], h => by cases h
 | x :: l, y :: m, h => by
  have h' : (dvE x y && bYv l m) = true := h
  simp only [Bool.and_eq_true] at h'
  rw [aCz _ _ h'.1, aHu _ _ h'.2]
theorem aYk : ∀ l m : List (DV × DV), cKs l m = true → l = m
 | [], [], _ => rfl
 | [], _ :: _, h => by cases h
 | _ :: _, [], h => by cases h
 | x :: l, y :: m, h => by
  have h' : (dvE x.1 y.1 && (dvE x.2 y.2 && cKs l m)) = true := h
  simp only [Bool.and_eq_true] at h'
  rw [aYk _ _ h'.2.2]
  congr 1
  exact Prod.ext (aCz _ _ h'.1) (aCz _ _ h'.2.1)
theorem cSo (o p : Ob) (h : obE o p = true) : o = p := by
 unfold obE at h
 split at h <;> (try (cases h; done))
 ·rw [aHu _ _ h]
 ·rw [aYk _ _ h]
 ·simp only [Bool.and_eq_true] at h
  rw [Nat.eq_of_beq_eq_true h.1, aDi _ _ h.2]
 ·rw [aDi _ _ h]
theorem zR (t : Tr Ob) : ∀ l : List (Pos × Ob), aUk t l = true → ∀ x ∈ l, t.get x.1 = some x.2
 | [], _, x, hx => by cases hx
 | y :: l, h, x, hx => by
  have h' : ((match t.get y.1 with
   | some o => obE o y.2
   | none => false) && aUk t l) = true := h
  simp only [Bool.and_eq_true] at h'
  rcases List.mem_cons.1 hx with rfl | hx
  ·have h1 := h'.1
   split at h1
   ·rename_i o ho
    rw [ho, cSo _ _ h1]
   ·cases h1
  ·exact zR t l h'.2 x hx
theorem wQ : ∀ (l : List (Pos × Ob)) (b : Pos) (o : Ob), (cQu l).get b = some o → (b, o) ∈ l
 | [], b, o, h => by cases b <;> cases h
 | y :: l, b, o, h => by
  have h' : (Tr.set y.2 y.1 (cQu l)).get b = some o := h
  by_cases e : b = y.1
  ·subst e
   rw [dKc] at h'
   simp only [bC] at h'
   rw [← h']
   exact List.mem_cons_self
  ·rw [dKb _ _ _ _ e] at h'
   exact List.mem_cons_of_mem _ (wQ l b o h')
theorem kL (o : Ob) : vK true o o := by cases o <;> simp [vK]
theorem Sim.refl (h : Hp) : Sim true h h := ⟨rfl, fun b o hb => ⟨o, hb, kL o⟩⟩
theorem kY {o o' : Ob} (h : vK true o o') : o' = o := by cases o <;> simpa [vK] using h
theorem Sim.trans {a b c : Hp} (h : Sim true a b) (k : Sim true b c) : Sim true a c := ⟨k.next.trans h.next, fun p o hp => by
 obtain ⟨o', h1, h2⟩ := h.get p o hp
 rw [kY h2] at h1
 exact k.get p o h1⟩
theorem aYm {r : aG} {vs : List DV} {nx : Nat} {l : List (Pos × Ob)} (h : mX r vs nx l = true) : ∃ g, r = some (.t vs, g) ∧ Sim true (iI nx l) g := by
 unfold mX at h
 split at h <;> (try (cases h; done))
 rename_i us g
 simp only [Bool.and_eq_true] at h
 refine ⟨g, by rw [aHu _ _ h.1], ?_, fun b o hb => ⟨o, ?_, kL o⟩⟩
 ·exact kW _ _ h.2.1
 ·exact zR _ _ h.2.2 (b, o) (wQ _ _ _ hb)
end Go.Dd

namespace Go.Dd
open Go.Proofs
noncomputable section
def pN0 : Code := cf Tryz.f19
def pN1 : Code := cR pN0
def pN2 : Code := cR pN1
def pN3 : Code := cR pN2
def pN4 : Code := cR pN3
def pN5 : Code := cR pN4
def pN6 : Code := cR pN5
def cDu : Code := .seq (cL pN0) (.seq (cL pN1) (.seq (cL pN2) (.seq (cL pN3) (.seq (cL pN4) (.seq (cL pN5) (cL (cL pN6)))))))
def bFg : Code := cR (cL pN6)
def dDn : Code := cR pN6
def hS : Hp := ⟨aM 1, .e⟩
def dCy : K := fun e h => some (.t [e 5, e 155, e 156, e 157], h)
def cUl (n : Nat) : aG := aP CF (cK 899) 179 899 cDu (fun _ _ _ => none) (fun _ _ => none) dCy (aH [.i .i64 (.ofNat n)]) hS
end
theorem he0 : mX (cUl 60000) (lK 0) 432 (oK 60000 553 84 18 [1076, 1096, 6, 24, 42, 60, 78, 96, 114, 132, 150, 168, 186, 204, 222, 240, 258, 276] [(10, 0), (19, 0), (46, 0), (55, 0), (64, 0), (91, 0), (100, 0), (109, 0), (118, 0), (127, 0), (145, 0)] 0) = true := by kernel_rfl
end Go.Dd

namespace Go.Dd
inductive Out where
 | n (e : bF) (h : Hp)
 | x (i : Nat) (e : bF) (h : Hp)
 | r (e : bF) (h : Hp)
def dLh (o : Option Out) (X : Nat → K) (kr k : K) : aG :=
 match o with
 | none => none
 | some (.n e h) => k e h
 | some (.x i e h) => X i e h
 | some (.r e h) => kr e h
section
variable {C : Cfg} {rec : FuncId → List DV → Hp → aG} {nt : Nat}
theorem aYt (all : Array Oper) : ∀ l : List Oper, ∃ O : bF → Hp → Option (bF × Hp), ∀ k env h, kA C rec nt all l k env h = match O env h with
  | none => none
  | some (e, h) => k e h
 | [] => ⟨fun e h => some (e, h), fun k env h => rfl⟩
 | o :: l => by
  obtain ⟨O, hO⟩ := aYt all l
  refine ⟨fun env h => bif dD nt o.dst then (match bK C rec all o env h with
   | some (v, h') => O (bP env o.dst v) h'
   | none => none) else none, fun k env h => ?_⟩
  change cnd (dD nt o.dst) (bnd (bK C rec all o env h) fun v h' => kA C rec nt all l k (bP env o.dst v) h') = _
  cases dD nt o.dst with
  | false => rfl
  | true =>
   simp only [cond_true]
   cases hs : bK C rec all o env h with
   | none => rfl
   | some p => exact hO k _ _
theorem aJl (all : Array Oper) (m : Array Nat) (p0 : Pos) : ∀ (l : List Oper) (i c : Nat) (dirty : Bool) (rd : List Seen) (hs : List (Option Nat × Hp)), ∃ O : bF → Hp → Option (bF × Hp),
  ∀ k env h, eM C rec nt all m p0 l k i c dirty rd hs env h = match O env h with
   | none => none
   | some (e, h) => k e h
 | [], i, c, dirty, rd, hs => ⟨fun e h => some (e, h), fun k env h => rfl⟩
 | o :: l, i, c, dirty, rd, hs => by
  have ih := aJl all m p0 l
  cases hc : bW C.P o.op with
  | pure =>
   obtain ⟨O, hO⟩ := ih (i + 1) c dirty rd hs
   refine ⟨fun env h => bif dD nt o.dst then (match bK C rec all o env h with
    | some (v, h') => O (bP env o.dst v) h'
    | none => none) else none, fun k env h => ?_⟩
   have e : eM C rec nt all m p0 (o :: l) k i c dirty rd hs env h = cnd (dD nt o.dst) (bnd (bK C rec all o env h) fun v h' => eM C rec nt all m p0 l k (i + 1) c dirty rd hs (bP env o.dst v) h') := by
    change cnd (dD nt o.dst) (match bW C.P o.op with | .pure => _ | .reads => _ | .makes => _ | .acts => _) = _
    rw [hc]
    rfl
   rw [e]
   cases dD nt o.dst with
   | false => rfl
   | true =>
    simp only [cond_true]
    cases hs : bK C rec all o env h with
    | none => rfl
    | some p => exact hO k _ _
  | reads =>
   have hex : ∀ (env : bF) (v : DV), ∃ O : bF → Hp → Option (bF × Hp), ∀ k e h, eM C rec nt all m p0 l k (i + 1) c dirty (⟨i, bK C rec all o env, v⟩ :: rd) hs e h = match O e h with
    | none => none
    | some (e, h) => k e h := fun env v => ih (i + 1) c dirty (⟨i, bK C rec all o env, v⟩ :: rd) hs
   refine ⟨fun env h => bif dD nt o.dst then (match bK C rec all o env h with
    | some (v, h') => bif eQ m i v (bK C rec all o env) dirty hs then (hex env v).choose (bP env o.dst v) h' else none
    | none => none) else none, fun k env h => ?_⟩
   have e : eM C rec nt all m p0 (o :: l) k i c dirty rd hs env h = cnd (dD nt o.dst) (bnd (bK C rec all o env h) fun v h' =>
     cnd (eQ m i v (bK C rec all o env) dirty hs) (eM C rec nt all m p0 l k (i + 1) c dirty (⟨i, bK C rec all o env, v⟩ :: rd) hs (bP env o.dst v) h')) := by
    change cnd (dD nt o.dst) (match bW C.P o.op with | .pure => _ | .reads => _ | .makes => _ | .acts => _) = _
    rw [hc]
    rfl
   rw [e]
   cases dD nt o.dst with
   | false => rfl
   | true =>
    simp only [cond_true]
    cases hs2 : bK C rec all o env h with
    | none => rfl
    | some p =>
     obtain ⟨v, h'⟩ := p
     show cnd (eQ m i v (bK C rec all o env) dirty hs) _ = _
     cases hcc : eQ m i v (bK C rec all o env) dirty hs with
     | false => simp only [hcc, cond_false]
     | true => simp only [hcc, cond_true]; exact (hex env v).choose_spec k _ _
  | makes =>
   obtain ⟨O, hO⟩ := ih (i + 1) (c + 1) true rd hs
   refine ⟨fun env h => bif dD nt o.dst then (match dX C o (cH c p0) env h with
    | some (v, h') => O (bP env o.dst v) h'
    | none => none) else none, fun k env h => ?_⟩
   have e : eM C rec nt all m p0 (o :: l) k i c dirty rd hs env h = cnd (dD nt o.dst) (bnd (dX C o (cH c p0) env h) fun v h' => eM C rec nt all m p0 l k (i + 1) (c + 1) true rd hs (bP env o.dst v) h') := by
    change cnd (dD nt o.dst) (match bW C.P o.op with | .pure => _ | .reads => _ | .makes => _ | .acts => _) = _
    rw [hc]
    rfl
   rw [e]
   cases dD nt o.dst with
   | false => rfl
   | true =>
    simp only [cond_true]
    cases hs : dX C o (cH c p0) env h with
    | none => rfl
    | some p => exact hO k _ _
  | acts =>
   have hex : ∀ h' : Hp, ∃ O : bF → Hp → Option (bF × Hp), ∀ k e h, eM C rec nt all m p0 l k (i + 1) c false rd ((some i, h') :: hs) e h = match O e h with
    | none => none
    | some (e, h) => k e h := fun h' => ih (i + 1) c false rd ((some i, h') :: hs)
   refine ⟨fun env h => bif dD nt o.dst then (match bK C rec all o env h with
    | some (v, h') => bif rd.all (fun q => gQ m q.at_ i || bQ (q.look h') q.v) then (hex h').choose (bP env o.dst v) h' else none
    | none => none) else none, fun k env h => ?_⟩
   have e : eM C rec nt all m p0 (o :: l) k i c dirty rd hs env h = cnd (dD nt o.dst) (bnd (bK C rec all o env h) fun v h' =>
     cnd (rd.all (fun q => gQ m q.at_ i || bQ (q.look h') q.v)) (eM C rec nt all m p0 l k (i + 1) c false rd ((some i, h') :: hs) (bP env o.dst v) h')) := by
    change cnd (dD nt o.dst) (match bW C.P o.op with | .pure => _ | .reads => _ | .makes => _ | .acts => _) = _
    rw [hc]
    rfl
   rw [e]
   cases dD nt o.dst with
   | false => rfl
   | true =>
    simp only [cond_true]
    cases hs2 : bK C rec all o env h with
    | none => rfl
    | some p =>
     obtain ⟨v, h'⟩ := p
     show cnd (rd.all (fun q => gQ m q.at_ i || bQ (q.look h') q.v)) _ = _
     cases hcc : rd.all (fun q => gQ m q.at_ i || bQ (q.look h') q.v) with
     | false => simp only [hcc, cond_false]
     | true => simp only [hcc, cond_true]; exact (hex h').choose_spec k _ _
theorem aLm (n : Nat) : ∀ c : Code, ∃ O : bF → Hp → Option Out, ∀ X kr k env h, aP C rec nt n c X kr k env h = dLh (O env h) X kr k := by
 have hfail : ∃ O : bF → Hp → Option Out, ∀ (X : Nat → K) (kr k : K) (env : bF) (h : Hp), dN env h = dLh (O env h) X kr k := ⟨fun _ _ => none, fun X kr k env h => rfl⟩
 intro c
 induction c with
 | skip => exact ⟨fun e h => some (.n e h), fun X kr k env h => rfl⟩
 | region id ops dr =>
  cases dr with
  | false =>
   obtain ⟨O, hO⟩ := aYt (C := C) (rec := rec) (nt := nt) ops ops.toList
   refine ⟨fun env h => (O env h).map fun p => .n p.1 p.2, fun X kr k env h => ?_⟩
   show kA C rec nt ops ops.toList k env h = _
   rw [hO]
   dsimp only
   cases hh : O env h <;> rfl
  | true =>
   cases hd : fS C.P ops with
   | false =>
    refine ⟨fun _ _ => none, fun X kr k env h => ?_⟩
    show (Bool.rec (motive := fun _ => K) dN (jI C rec nt ops k) (fS C.P ops)) env h = _
    rw [hd]; rfl
   | true =>
    have hex : ∀ h : Hp, _ := fun h => aJl (C := C) (rec := rec) (nt := nt) ops (Region.before ops) h.next ops.toList 0 0 false [] [(none, resv (cD C.P ops.toList) h)]
    refine ⟨fun env h => ((hex h).choose env (resv (cD C.P ops.toList) h)).map fun p => .n p.1 p.2, fun X kr k env h => ?_⟩
    have e : aP C rec nt n (.region id ops true) X kr k env h = jI C rec nt ops k env h := by
     show (Bool.rec (motive := fun _ => K) dN (jI C rec nt ops k) (fS C.P ops)) env h = _
     rw [hd]
    rw [e]
    unfold jI
    rw [(hex h).choose_spec k env _]
    dsimp only
    cases hh : (hex h).choose env (resv (cD C.P ops.toList) h) <;> rfl
 | seq x y ihx ihy =>
  obtain ⟨O1, h1⟩ := ihx
  obtain ⟨O2, h2⟩ := ihy
  refine ⟨fun env h => match O1 env h with
   | some (.n e h) => O2 e h
   | o => o, fun X kr k env h => ?_⟩
  show aP C rec nt n x X kr (aP C rec nt n y X kr k) env h = _
  rw [h1]
  dsimp only
  cases ho : O1 env h with
  | none => rfl
  | some o =>
   cases o with
   | n e h' => exact h2 X kr k e h'
   | x i e h' => rfl
   | r e h' => rfl
 | cond c x y ihx ihy =>
  obtain ⟨O1, h1⟩ := ihx
  obtain ⟨O2, h2⟩ := ihy
  refine ⟨fun env h => match opr env c with
   | .b true => O1 env h
   | .b false => O2 env h
   | _ => none, fun X kr k env h => ?_⟩
  show aX (opr env c) (aP C rec nt n x X kr k env h) (aP C rec nt n y X kr k env h) = _
  rw [h1, h2]
  unfold aX
  dsimp only
  cases opr env c <;> try rfl
  rename_i b
  cases b <;> rfl
 | block id x ih =>
  obtain ⟨O1, h1⟩ := ih
  refine ⟨fun env h => match O1 env h with
   | some (.x i e h') => bif Nat.beq i id then some (.n e h') else some (.x i e h')
   | o => o, fun X kr k env h => ?_⟩
  show aP C rec nt n x (fun j => bif Nat.beq j id then k else X j) kr k env h = _
  rw [h1]
  dsimp only
  cases ho : O1 env h with
  | none => rfl
  | some o =>
   cases o with
   | n e h' => rfl
   | r e h' => rfl
   | x i e h' =>
    simp only [dLh]
    cases hb : Nat.beq i id with
    | true => rfl
    | false => rfl
 | loop x ih =>
  obtain ⟨O1, h1⟩ := ih
  have key : ∀ m : Nat, ∃ O : bF → Hp → Option Out, ∀ (X : Nat → K) (kr k : K) env h, aO (fun kk => aP C rec nt n x X kr kk) m env h = dLh (O env h) X kr k := by
   intro m
   induction m with
   | zero => exact ⟨fun _ _ => none, fun X kr k env h => rfl⟩
   | succ m ihm =>
    obtain ⟨O2, h2⟩ := ihm
    refine ⟨fun env h => match O1 env h with
     | some (.n e h) => O2 e h
     | o => o, fun X kr k env h => ?_⟩
    show aP C rec nt n x X kr (aO (fun kk => aP C rec nt n x X kr kk) m) env h = _
    rw [h1]
    dsimp only
    cases ho : O1 env h with
    | none => rfl
    | some o =>
     cases o with
     | n e h' => exact h2 X kr k e h'
     | x i e h' => rfl
     | r e h' => rfl
  exact key n
 | rangeFunc f ps x y ihx ihy => exact hfail
 | exit id => exact ⟨fun e h => some (.x id e h), fun X kr k env h => rfl⟩
 | scope x ih => exact ih
 | label l => exact ⟨fun e h => some (.n e h), fun X kr k env h => rfl⟩
 | goto l => exact hfail
 | ret => exact ⟨fun e h => some (.r e h), fun X kr k env h => rfl⟩
 | refuse why => exact hfail
end
end Go.Dd

namespace Go.Dd
open Go.Proofs
noncomputable def t20 (rec : FuncId → List DV → Hp → aG) (n : Nat) (x0 x1 : DV) (h0 : Hp) : aG :=
 bnd (aD .eql x1 (.i .i64 (Int.ofNat 0)) h0) fun v1 h1 =>
 bnd (gD v1 false (some (x1, h1)) h1) fun v2 h2 =>
 bnd (gD v1 false (aD .eql v2 (.i .i64 (Int.ofNat 2)) h2) h2) fun v3 h3 =>
 bnd (aQ v1 (.b true) v3 h3) fun v4 h4 =>
 bnd (gD v4 false (some (x1, h4)) h4) fun v5 h5 =>
 bnd (gD v4 false (aD .eql v5 (.i .i64 (Int.ofNat 4)) h5) h5) fun v6 h6 =>
 bnd (aQ v4 (.b true) v6 h6) fun v7 h7 =>
 bnd (gD v7 false (some (x1, h7)) h7) fun v8 h8 =>
 bnd (gD v7 false (rec 29 [v8] h8) h8) fun v9 h9 =>
 bnd (aQ v7 (.b true) v9 h9) fun v10 h10 =>
 bnd (gD v10 false (some (x0, h10)) h10) fun v11 h11 =>
 bnd (gD v10 false (some (x1, h11)) h11) fun v12 h12 =>
 bnd (gD v10 false (rec 30 [v11, v12] h12) h12) fun v13 h13 =>
 bnd (aQ v10 (.b true) v13 h13) fun v14 h14 =>
 some (v14, h14)
noncomputable def E20 (rec : FuncId → List DV → Hp → aG) (n : Nat) (c : Code) (X : Nat → K) (k : K) : K := aP CF1 rec 24 n c X (aS CF1 Tryz.f15) k
theorem dHj (rec : FuncId → List DV → Hp → aG) (n : Nat) : E20 rec n (cf Tryz.f15) x0 (aS CF1 Tryz.f15) = (fun (env : bF) (h : Hp) => t20 rec n (env 0) (env 1) h) :=
 (by kernel_rfl)
theorem dBl (rec : FuncId → List DV → Hp → aG) (n : Nat) (args : List DV) (h : Hp) : aE CF1 rec n 15 args h = t20 rec n (args.getD 0 aR) (args.getD 1 aR) h :=
 (by kernel_rfl : aE CF1 rec n 15 args h = E20 rec n (cf Tryz.f15) x0 (aS CF1 Tryz.f15) (aH args) h).trans ((congrFun (congrFun (dHj rec n) (aH args)) h).trans (by kernel_rfl))
noncomputable def t21 (rec : FuncId → List DV → Hp → aG) (n : Nat) (x0 x1 : DV) (h0 : Hp) : aG :=
 bnd (rec 65 [x1] h0) fun v1 h1 =>
 bnd (gD v1 true (some (x0, h1)) h1) fun v2 h2 =>
 bnd (gD v1 true (bD v2 h2) h2) fun v3 h3 =>
 bnd (gD v1 true (aB 3 v3 h3) h3) fun v4 h4 =>
 bnd (gD v1 true (aA v4 h4) h4) fun v5 h5 =>
 bnd (gD v1 true (some (x1, h5)) h5) fun v6 h6 =>
 bnd (gD v1 true (rec 66 [v6] h6) h6) fun v7 h7 =>
 cnd (bQ (gD v1 true (aA v4 h7) h7) v5 && true) (
 bnd (gD v1 true (dS (.int .i64) (.b false) false v5 v7 h7) h7) fun v8 h8 =>
 bnd (aQ v1 v8 (.b false) h8) fun v9 h9 =>
 some (v9, h9))
noncomputable def E21 (rec : FuncId → List DV → Hp → aG) (n : Nat) (c : Code) (X : Nat → K) (k : K) : K := aP CF1 rec 16 n c X (aS CF1 Tryz.f30) k
theorem dIx (rec : FuncId → List DV → Hp → aG) (n : Nat) : E21 rec n (cf Tryz.f30) x0 (aS CF1 Tryz.f30) = (fun (env : bF) (h : Hp) => t21 rec n (env 0) (env 1) h) :=
 (by kernel_rfl)
theorem cZk (rec : FuncId → List DV → Hp → aG) (n : Nat) (args : List DV) (h : Hp) : aE CF1 rec n 30 args h = t21 rec n (args.getD 0 aR) (args.getD 1 aR) h :=
 (by kernel_rfl : aE CF1 rec n 30 args h = E21 rec n (cf Tryz.f30) x0 (aS CF1 Tryz.f30) (aH args) h).trans ((congrFun (congrFun (dIx rec n) (aH args)) h).trans (by kernel_rfl))
noncomputable def t22 (rec : FuncId → List DV → Hp → aG) (n : Nat) (x0 : DV) (h0 : Hp) : aG :=
 bnd (bD x0 h0) fun v1 h1 =>
 bnd (aB 0 v1 h1) fun v2 h2 =>
 bnd (aA v2 h2) fun v3 h3 =>
 bnd (cO v3 h3) fun v4 h4 =>
 some (v4, h4)
noncomputable def E22 (rec : FuncId → List DV → Hp → aG) (n : Nat) (c : Code) (X : Nat → K) (k : K) : K := aP CF1 rec 8 n c X (aS CF1 Tryz.f76) k
theorem dIl (rec : FuncId → List DV → Hp → aG) (n : Nat) : E22 rec n (cf Tryz.f76) x0 (aS CF1 Tryz.f76) = (fun (env : bF) (h : Hp) => t22 rec n (env 0) h) :=
 (by kernel_rfl)
theorem cYh (rec : FuncId → List DV → Hp → aG) (n : Nat) (args : List DV) (h : Hp) : aE CF1 rec n 76 args h = t22 rec n (args.getD 0 aR) h :=
 (by kernel_rfl : aE CF1 rec n 76 args h = E22 rec n (cf Tryz.f76) x0 (aS CF1 Tryz.f76) (aH args) h).trans ((congrFun (congrFun (dIl rec n) (aH args)) h).trans (by kernel_rfl))
noncomputable def t29 (rec : FuncId → List DV → Hp → aG) (n : Nat) (x0 : DV) (h0 : Hp) : aG :=
 bnd (bD x0 h0) fun v1 h1 =>
 bnd (aB 0 v1 h1) fun v2 h2 =>
 bnd (aA v2 h2) fun v3 h3 =>
 bnd (cO v3 h3) fun v4 h4 =>
 bnd (bD x0 h4) fun v5 h5 =>
 bnd (aB 1 v5 h5) fun v6 h6 =>
 bnd (aA v6 h6) fun v7 h7 =>
 bnd (aD .sub v4 v7 h7) fun v8 h8 =>
 some (v8, h8)
noncomputable def E29 (rec : FuncId → List DV → Hp → aG) (n : Nat) (c : Code) (X : Nat → K) (k : K) : K := aP CF1 rec 13 n c X (aS CF1 Tryz.f18) k
theorem dIj (rec : FuncId → List DV → Hp → aG) (n : Nat) : E29 rec n (cf Tryz.f18) x0 (aS CF1 Tryz.f18) = (fun (env : bF) (h : Hp) => t29 rec n (env 0) h) :=
 (by kernel_rfl)
theorem dAj (rec : FuncId → List DV → Hp → aG) (n : Nat) (args : List DV) (h : Hp) : aE CF1 rec n 18 args h = t29 rec n (args.getD 0 aR) h :=
 (by kernel_rfl : aE CF1 rec n 18 args h = E29 rec n (cf Tryz.f18) x0 (aS CF1 Tryz.f18) (aH args) h).trans ((congrFun (congrFun (dIj rec n) (aH args)) h).trans (by kernel_rfl))
noncomputable def t30 (rec : FuncId → List DV → Hp → aG) (n : Nat) (x0 x1 x2 x3 : DV) (h0 : Hp) : aG :=
 bnd (rec 60 [x0, x1] h0) fun v1 h1 =>
 bnd (jW .not v1 h1) fun v2 h2 =>
 bnd (gD v2 false (some (x2, h2)) h2) fun v3 h3 =>
 bnd (gD v2 false (aD .lss v3 (.i .i64 (Int.ofNat 0)) h3) h3) fun v4 h4 =>
 bnd (aQ v2 (.b true) v4 h4) fun v5 h5 =>
 bnd (gD v5 false (some (x2, h5)) h5) fun v6 h6 =>
 bnd (gD v5 false (aD .gtr v6 (.i .i64 (Int.ofNat 2)) h6) h6) fun v7 h7 =>
 bnd (aQ v5 (.b true) v7 h7) fun v8 h8 =>
 bnd (gD v8 false (some (x3, h8)) h8) fun v9 h9 =>
 bnd (gD v8 false (aD .lss v9 (.i .i64 (Int.ofNat 0)) h9) h9) fun v10 h10 =>
 bnd (aQ v8 (.b true) v10 h10) fun v11 h11 =>
 bnd (gD v11 false (some (x3, h11)) h11) fun v12 h12 =>
 bnd (gD v11 false (aD .gtr v12 (.i .i64 (Int.ofNat 256)) h12) h12) fun v13 h13 =>
 bnd (aQ v11 (.b true) v13 h13) fun v14 h14 =>
 aX v14 (
  some (.t [(.i .i64 (Int.ofNat 0)), (.i .i64 (Int.ofNat 1))], h14)) (
  bnd (rec 18 [x0] h14) fun v15 h15 =>
  bnd (aD .add x3 (.i .i64 (Int.ofNat 3)) h15) fun v16 h16 =>
  bnd (aD .lss v15 v16 h16) fun v17 h17 =>
  bnd (gD v17 false (some (x0, h17)) h17) fun v18 h18 =>
  bnd (gD v17 false (bD v18 h18) h18) fun v19 h19 =>
  bnd (gD v17 false (aB 2 v19 h19) h19) fun v20 h20 =>
  bnd (gD v17 false (aA v20 h20) h20) fun v21 h21 =>
  bnd (gD v17 false (aD .geq v21 (.i .i64 (Int.ofNat 1099511627776)) h21) h21) fun v22 h22 =>
  bnd (aQ v17 (.b true) v22 h22) fun v23 h23 =>
  aX v23 (
   some (.t [(.i .i64 (Int.ofNat 0)), (.i .i64 (Int.ofNat 4))], h23)) (
   bnd (bD x0 h23) fun v24 h24 =>
   bnd (aB 1 v24 h24) fun v25 h25 =>
   bnd (aA v25 h25) fun v26 h26 =>
   bnd (bD x0 h26) fun v27 h27 =>
   bnd (aB 2 v27 h27) fun v28 h28 =>
   bnd (aA v28 h28) fun v29 h29 =>
   bnd (aD .add v29 (.i .i64 (Int.ofNat 1)) h29) fun v30 h30 =>
   bnd (bD x0 h30) fun v31 h31 =>
   bnd (aB 2 v31 h31) fun v32 h32 =>
   bnd (aI 1 v32 v30 h32) fun _ h33 =>
   bnd (bD x0 h33) fun v34 h34 =>
   bnd (aB 0 v34 h34) fun v35 h35 =>
   bnd (aA v35 h35) fun v36 h36 =>
   bnd (bD x0 h36) fun v37 h37 =>
   bnd (aB 0 v37 h37) fun v38 h38 =>
   bnd (aA v38 h38) fun v39 h39 =>
   bnd (aD .add v26 (.i .i64 (Int.ofNat 1)) h39) fun v40 h40 =>
   bnd (bD x0 h40) fun v41 h41 =>
   bnd (aB 0 v41 h41) fun v42 h42 =>
   bnd (aA v42 h42) fun v43 h43 =>
   bnd (aD .add v26 (.i .i64 (Int.ofNat 2)) h43) fun v44 h44 =>
   bnd (dO .shl x3 (.i .u64 (Int.ofNat 2)) h44) fun v45 h45 =>
   bnd (aD .or v45 x2 h45) fun v46 h46 =>
   bnd (bD x0 h46) fun v47 h47 =>
   bnd (aB 2 v47 h47) fun v48 h48 =>
   bnd (aA v48 h48) fun v49 h49 =>
   bnd (aF 1 v36 v26 h49) fun v50 h50 =>
   bnd (aI 1 v50 v46 h50) fun v51 h51 =>
   bnd (aF 1 v39 v40 h51) fun v52 h52 =>
   bnd (aI 1 v52 x1 h52) fun v53 h53 =>
   bnd (aF 1 v43 v44 h53) fun v54 h54 =>
   bnd (aI 1 v54 v49 h54) fun v55 h55 =>
   bnd (bD x0 h55) fun v56 h56 =>
   bnd (aB 0 v56 h56) fun v57 h57 =>
   bnd (aA v57 h57) fun v58 h58 =>
   bnd (aD .add v26 (.i .i64 (Int.ofNat 3)) h58) fun v59 h59 =>
   bnd (aD .add v26 (.i .i64 (Int.ofNat 3)) h59) fun v60 h60 =>
   bnd (aD .add v60 x3 h60) fun v61 h61 =>
   bnd (dC 1 v58 (some v59) (some v61) h61) fun v62 h62 =>
   bnd (kR [(.i .i64 (Int.ofNat 0))] v62 h62) fun _ h63 =>
   bnd (bD x0 h63) fun v64 h64 =>
   bnd (aB 1 v64 h64) fun v65 h65 =>
   bnd (aA v65 h65) fun v66 h66 =>
   bnd (aD .add x3 (.i .i64 (Int.ofNat 3)) h66) fun v67 h67 =>
   bnd (aD .add v66 v67 h67) fun v68 h68 =>
   bnd (bD x0 h68) fun v69 h69 =>
   bnd (aB 1 v69 h69) fun v70 h70 =>
   bnd (aI 1 v70 v68 h70) fun _ h71 =>
   bnd (bD x0 h71) fun v72 h72 =>
   bnd (aB 3 v72 h72) fun v73 h73 =>
   bnd (aA v73 h73) fun v74 h74 =>
   bnd (gP (.int .i64) v74 v26 (.b true) h74) fun _ h75 =>
   bnd (rec 61 [v26] h75) fun v76 h76 =>
   bnd (aC 0 v76 h76) fun v77 h77 =>
   bnd (aC 1 v76 h77) fun v78 h78 =>
   some (.t [v77, (.i .i64 (Int.ofNat 0))], h78)))
noncomputable def E30 (rec : FuncId → List DV → Hp → aG) (n : Nat) (c : Code) (X : Nat → K) (k : K) : K := aP CF1 rec 118 n c X (aS CF1 Tryz.f25) k
theorem dFo (rec : FuncId → List DV → Hp → aG) (n : Nat) : E30 rec n (cf Tryz.f25) x0 (aS CF1 Tryz.f25) = (fun (env : bF) (h : Hp) => t30 rec n (env 0) (env 1) (env 2) (env 3) h) :=
 (by kernel_rfl)
theorem dBh (rec : FuncId → List DV → Hp → aG) (n : Nat) (args : List DV) (h : Hp) : aE CF1 rec n 25 args h = t30 rec n (args.getD 0 aR) (args.getD 1 aR) (args.getD 2 aR) (args.getD 3 aR) h :=
 (by kernel_rfl : aE CF1 rec n 25 args h = E30 rec n (cf Tryz.f25) x0 (aS CF1 Tryz.f25) (aH args) h).trans ((congrFun (congrFun (dFo rec n) (aH args)) h).trans (by kernel_rfl))
noncomputable def t41 (rec : FuncId → List DV → Hp → aG) (n : Nat) (x0 : DV) (h0 : Hp) : aG :=
 bnd (aD .lss x0 (.i .i64 (Int.ofNat 16)) h0) fun v1 h1 =>
 bnd (gD v1 false (some (x0, h1)) h1) fun v2 h2 =>
 bnd (gD v1 false (aD .gtr v2 (.i .i64 (Int.ofNat 131072)) h2) h2) fun v3 h3 =>
 bnd (aQ v1 (.b true) v3 h3) fun v4 h4 =>
 aX v4 (
  some (.p0, h4)) (
  bnd (cJ 1 8 [(.i .i64 (Int.ofNat 0))] x0 x0 h4) fun v5 h5 =>
  bnd (eE h5) fun v6 h6 =>
  bnd (cI [.l0, (.i .i64 (Int.ofNat 0)), (.i .i64 (Int.ofNat 0)), .m0] [(0, 1, v5), (1, 1, (.i .i64 (Int.ofNat 3))), (3, 1, v6)] h6) fun v7 h7 =>
  bnd (cB v7 h7) fun v8 h8 =>
  some (v8, h8))
noncomputable def E41 (rec : FuncId → List DV → Hp → aG) (n : Nat) (c : Code) (X : Nat → K) (k : K) : K := aP CF1 rec 14 n c X (aS CF1 Tryz.f36) k
theorem dFy (rec : FuncId → List DV → Hp → aG) (n : Nat) : E41 rec n (cf Tryz.f36) x0 (aS CF1 Tryz.f36) = (fun (env : bF) (h : Hp) => t41 rec n (env 0) h) :=
 (by kernel_rfl)
theorem cIb (rec : FuncId → List DV → Hp → aG) (n : Nat) (args : List DV) (h : Hp) : aE CF1 rec n 36 args h = t41 rec n (args.getD 0 aR) h :=
 (by kernel_rfl : aE CF1 rec n 36 args h = E41 rec n (cf Tryz.f36) x0 (aS CF1 Tryz.f36) (aH args) h).trans ((congrFun (congrFun (dFy rec n) (aH args)) h).trans (by kernel_rfl))
noncomputable def t44 (rec : FuncId → List DV → Hp → aG) (n : Nat) (x0 x1 x2 : DV) (h0 : Hp) : aG :=
 bnd (rec 68 [x0, x1] h0) fun v1 h1 =>
 bnd (aD .eql v1 (.i .i64 (Int.ofNat 0)) h1) fun v2 h2 =>
 bnd (gD v2 false (some (x0, h2)) h2) fun v3 h3 =>
 bnd (gD v2 false (some (x2, h3)) h3) fun v4 h4 =>
 bnd (gD v2 false (rec 60 [v3, v4] h4) h4) fun v5 h5 =>
 bnd (gD v2 false (jW .not v5 h5) h5) fun v6 h6 =>
 bnd (aQ v2 (.b true) v6 h6) fun v7 h7 =>
 aX v7 (
  some ((.i .i64 (Int.ofNat 1)), h7)) (
  bnd (bD x0 h7) fun v8 h8 =>
  bnd (aB 0 v8 h8) fun v9 h9 =>
  bnd (aA v9 h9) fun v10 h10 =>
  bnd (aD .add v1 (.i .i64 (Int.ofNat 1)) h10) fun v11 h11 =>
  bnd (aF 1 v10 v11 h11) fun v12 h12 =>
  bnd (aI 1 v12 x2 h12) fun _ h13 =>
  some ((.i .i64 (Int.ofNat 0)), h13))
noncomputable def E44 (rec : FuncId → List DV → Hp → aG) (n : Nat) (c : Code) (X : Nat → K) (k : K) : K := aP CF1 rec 27 n c X (aS CF1 Tryz.f38) k
theorem dIb (rec : FuncId → List DV → Hp → aG) (n : Nat) : E44 rec n (cf Tryz.f38) x0 (aS CF1 Tryz.f38) = (fun (env : bF) (h : Hp) => t44 rec n (env 0) (env 1) (env 2) h) :=
 (by kernel_rfl)
theorem dCi (rec : FuncId → List DV → Hp → aG) (n : Nat) (args : List DV) (h : Hp) : aE CF1 rec n 38 args h = t44 rec n (args.getD 0 aR) (args.getD 1 aR) (args.getD 2 aR) h :=
 (by kernel_rfl : aE CF1 rec n 38 args h = E44 rec n (cf Tryz.f38) x0 (aS CF1 Tryz.f38) (aH args) h).trans ((congrFun (congrFun (dIb rec n) (aH args)) h).trans (by kernel_rfl))
noncomputable def tH (rec : FuncId → List DV → Hp → aG) (n : Nat) (x0 x3 x9 : DV) (h0 : Hp) : aG :=
 bnd (bD x0 h0) fun v1 h1 =>
 bnd (aB 0 v1 h1) fun v2 h2 =>
 bnd (aA v2 h2) fun v3 h3 =>
 bnd (aF 1 v3 x9 h3) fun v4 h4 =>
 bnd (aI 1 v4 x3 h4) fun _ h5 =>
 some ((.i .i64 (Int.ofNat 0)), h5)
noncomputable def aTs (rec : FuncId → List DV → Hp → aG) (n : Nat) (x0 x1 x3 x9 : DV) (h0 : Hp) : aG :=
 bnd (rec 35 [x0, x1] h0) fun v11 h11 =>
 bnd (aD .eql v11 (.i .i64 (Int.ofNat 0)) h11) fun v12 h12 =>
 aX v12 (
  bnd (rec 15 [x0, x3] h12) fun v13 h13 =>
  bnd (jW .not v13 h13) fun v14 h14 =>
  aX v14 (
   some ((.i .i64 (Int.ofNat 6)), h14)) (
   tH rec n x0 x3 x9 h14)) (
  bnd (aD .eql v11 (.i .i64 (Int.ofNat 2)) h12) fun v15 h15 =>
  aX v15 (
   bnd (aD .lss x3 (.i .i64 (Int.ofNat 0)) h15) fun v16 h16 =>
   bnd (gD v16 false (some (x3, h16)) h16) fun v17 h17 =>
   bnd (gD v16 false (aD .gtr v17 (.i .i64 (Int.ofNat 255)) h17) h17) fun v18 h18 =>
   bnd (aQ v16 (.b true) v18 h18) fun v19 h19 =>
   aX v19 (
    some ((.i .i64 (Int.ofNat 6)), h19)) (
    tH rec n x0 x3 x9 h19)) (
   tH rec n x0 x3 x9 h15))
noncomputable def aLg (rec : FuncId → List DV → Hp → aG) (n : Nat) (x0 x1 x3 x9 x10 : DV) (h0 : Hp) : aG :=
 bnd (aD .neq x10 (.i .i64 (Int.ofNat 0)) h0) fun v29 h29 =>
 aX v29 (
  some (x10, h29)) (
  aTs rec n x0 x1 x3 x9 h29)
noncomputable def aSj (rec : FuncId → List DV → Hp → aG) (n : Nat) (x0 x1 x2 x3 : DV) (h0 : Hp) : aG :=
 bnd (rec 34 [x0, x1, x2] h0) fun v31 h31 =>
 bnd (aC 0 v31 h31) fun v32 h32 =>
 bnd (aC 1 v31 h32) fun v33 h33 =>
 aLg rec n x0 x1 x3 v32 v33 h33
noncomputable def t47 (rec : FuncId → List DV → Hp → aG) (n : Nat) (x0 x1 x2 x3 : DV) (h0 : Hp) : aG :=
 aSj rec n x0 x1 x2 x3 h0
noncomputable def E47 (rec : FuncId → List DV → Hp → aG) (n : Nat) (c : Code) (X : Nat → K) (k : K) : K := aP CF1 rec 45 n c X (aS CF1 Tryz.f17) k
theorem cKx (rec : FuncId → List DV → Hp → aG) (n : Nat) : E47 rec n (cR (cR (cR (cR (cf Tryz.f17))))) x0 (aS CF1 Tryz.f17) = (fun (env : bF) (h : Hp) => tH rec n (env 0) (env 3) (env 9) h) :=
 (by kernel_rfl)
theorem cHh (rec : FuncId → List DV → Hp → aG) (n : Nat) : E47 rec n (cR (cR (cR (cf Tryz.f17)))) x0 (aS CF1 Tryz.f17) = E47 rec n (cL (cR (cR (cR (cf Tryz.f17))))) x0 (fun (env : bF) (h : Hp) => tH rec n (env 0) (env 3) (env 9) h) :=
 congrArg (fun k => E47 rec n (cL (cR (cR (cR (cf Tryz.f17))))) x0 k) (cKx rec n)
theorem cTw (rec : FuncId → List DV → Hp → aG) (n : Nat) : E47 rec n (cR (cR (cR (cf Tryz.f17)))) x0 (aS CF1 Tryz.f17) = (fun (env : bF) (h : Hp) => aTs rec n (env 0) (env 1) (env 3) (env 9) h) :=
 (cHh rec n).trans
 ((by kernel_rfl))
theorem cCo (rec : FuncId → List DV → Hp → aG) (n : Nat) : E47 rec n (cR (cR (cf Tryz.f17))) x0 (aS CF1 Tryz.f17) = E47 rec n (cL (cR (cR (cf Tryz.f17)))) x0 (fun (env : bF) (h : Hp) => aTs rec n (env 0) (env 1) (env 3) (env 9) h) :=
 congrArg (fun k => E47 rec n (cL (cR (cR (cf Tryz.f17)))) x0 k) (cTw rec n)
theorem cQx (rec : FuncId → List DV → Hp → aG) (n : Nat) : E47 rec n (cR (cR (cf Tryz.f17))) x0 (aS CF1 Tryz.f17) = (fun (env : bF) (h : Hp) => aLg rec n (env 0) (env 1) (env 3) (env 9) (env 10) h) :=
 (cCo rec n).trans
 ((by kernel_rfl))
theorem cFs (rec : FuncId → List DV → Hp → aG) (n : Nat) : E47 rec n (cR (cf Tryz.f17)) x0 (aS CF1 Tryz.f17) = E47 rec n (cL (cR (cf Tryz.f17))) x0 (fun (env : bF) (h : Hp) => aLg rec n (env 0) (env 1) (env 3) (env 9) (env 10) h) :=
 congrArg (fun k => E47 rec n (cL (cR (cf Tryz.f17))) x0 k) (cQx rec n)
theorem cMe (rec : FuncId → List DV → Hp → aG) (n : Nat) : E47 rec n (cR (cf Tryz.f17)) x0 (aS CF1 Tryz.f17) = (fun (env : bF) (h : Hp) => aSj rec n (env 0) (env 1) (env 2) (env 3) h) :=
 (cFs rec n).trans
 ((by kernel_rfl))
theorem cXy (rec : FuncId → List DV → Hp → aG) (n : Nat) : E47 rec n (cf Tryz.f17) x0 (aS CF1 Tryz.f17) = E47 rec n (cL (cf Tryz.f17)) x0 (fun (env : bF) (h : Hp) => aSj rec n (env 0) (env 1) (env 2) (env 3) h) :=
 congrArg (fun k => E47 rec n (cL (cf Tryz.f17)) x0 k) (cMe rec n)
theorem dJb (rec : FuncId → List DV → Hp → aG) (n : Nat) : E47 rec n (cf Tryz.f17) x0 (aS CF1 Tryz.f17) = (fun (env : bF) (h : Hp) => t47 rec n (env 0) (env 1) (env 2) (env 3) h) :=
 (cXy rec n).trans
 ((by kernel_rfl))
theorem cZh (rec : FuncId → List DV → Hp → aG) (n : Nat) (args : List DV) (h : Hp) : aE CF1 rec n 17 args h = t47 rec n (args.getD 0 aR) (args.getD 1 aR) (args.getD 2 aR) (args.getD 3 aR) h :=
 (by kernel_rfl : aE CF1 rec n 17 args h = E47 rec n (cf Tryz.f17) x0 (aS CF1 Tryz.f17) (aH args) h).trans ((congrFun (congrFun (dJb rec n) (aH args)) h).trans (by kernel_rfl))
noncomputable def t50 (rec : FuncId → List DV → Hp → aG) (n : Nat) (x0 x1 : DV) (h0 : Hp) : aG :=
 bnd (bD x0 h0) fun v1 h1 =>
 bnd (aB 0 v1 h1) fun v2 h2 =>
 bnd (aA v2 h2) fun v3 h3 =>
 bnd (rec 68 [x0, x1] h3) fun v4 h4 =>
 cnd (bQ (aA v2 h4) v3 && true) (
 bnd (aD .add v4 (.i .i64 (Int.ofNat 1)) h4) fun v5 h5 =>
 bnd (aF 1 v3 v5 h5) fun v6 h6 =>
 bnd (aA v6 h6) fun v7 h7 =>
 some (v7, h7))
noncomputable def E50 (rec : FuncId → List DV → Hp → aG) (n : Nat) (c : Code) (X : Nat → K) (k : K) : K := aP CF1 rec 15 n c X (aS CF1 Tryz.f80) k
theorem dHt (rec : FuncId → List DV → Hp → aG) (n : Nat) : E50 rec n (cf Tryz.f80) x0 (aS CF1 Tryz.f80) = (fun (env : bF) (h : Hp) => t50 rec n (env 0) (env 1) h) :=
 (by kernel_rfl)
theorem cZo (rec : FuncId → List DV → Hp → aG) (n : Nat) (args : List DV) (h : Hp) : aE CF1 rec n 80 args h = t50 rec n (args.getD 0 aR) (args.getD 1 aR) h :=
 (by kernel_rfl : aE CF1 rec n 80 args h = E50 rec n (cf Tryz.f80) x0 (aS CF1 Tryz.f80) (aH args) h).trans ((congrFun (congrFun (dHt rec n) (aH args)) h).trans (by kernel_rfl))
noncomputable def t51 (rec : FuncId → List DV → Hp → aG) (n : Nat) (x0 x1 : DV) (h0 : Hp) : aG :=
 bnd (bD x0 h0) fun v1 h1 =>
 bnd (aB 0 v1 h1) fun v2 h2 =>
 bnd (aA v2 h2) fun v3 h3 =>
 bnd (rec 68 [x0, x1] h3) fun v4 h4 =>
 cnd (bQ (aA v2 h4) v3 && true) (
 bnd (aF 1 v3 v4 h4) fun v5 h5 =>
 bnd (aA v5 h5) fun v6 h6 =>
 bnd (aD .and v6 (.i .i64 (Int.ofNat 3)) h6) fun v7 h7 =>
 some (v7, h7))
noncomputable def E51 (rec : FuncId → List DV → Hp → aG) (n : Nat) (c : Code) (X : Nat → K) (k : K) : K := aP CF1 rec 15 n c X (aS CF1 Tryz.f35) k
theorem dHs (rec : FuncId → List DV → Hp → aG) (n : Nat) : E51 rec n (cf Tryz.f35) x0 (aS CF1 Tryz.f35) = (fun (env : bF) (h : Hp) => t51 rec n (env 0) (env 1) h) :=
 (by kernel_rfl)
theorem cYn (rec : FuncId → List DV → Hp → aG) (n : Nat) (args : List DV) (h : Hp) : aE CF1 rec n 35 args h = t51 rec n (args.getD 0 aR) (args.getD 1 aR) h :=
 (by kernel_rfl : aE CF1 rec n 35 args h = E51 rec n (cf Tryz.f35) x0 (aS CF1 Tryz.f35) (aH args) h).trans ((congrFun (congrFun (dHs rec n) (aH args)) h).trans (by kernel_rfl))
noncomputable def t52 (rec : FuncId → List DV → Hp → aG) (n : Nat) (x0 x1 : DV) (h0 : Hp) : aG :=
 bnd (bD x0 h0) fun v1 h1 =>
 bnd (aB 0 v1 h1) fun v2 h2 =>
 bnd (aA v2 h2) fun v3 h3 =>
 bnd (rec 68 [x0, x1] h3) fun v4 h4 =>
 cnd (bQ (aA v2 h4) v3 && true) (
 bnd (aF 1 v3 v4 h4) fun v5 h5 =>
 bnd (aA v5 h5) fun v6 h6 =>
 bnd (dO .shr v6 (.i .u64 (Int.ofNat 2)) h6) fun v7 h7 =>
 some (v7, h7))
noncomputable def E52 (rec : FuncId → List DV → Hp → aG) (n : Nat) (c : Code) (X : Nat → K) (k : K) : K := aP CF1 rec 15 n c X (aS CF1 Tryz.f69) k
theorem dGi (rec : FuncId → List DV → Hp → aG) (n : Nat) : E52 rec n (cf Tryz.f69) x0 (aS CF1 Tryz.f69) = (fun (env : bF) (h : Hp) => t52 rec n (env 0) (env 1) h) :=
 (by kernel_rfl)
theorem dCu (rec : FuncId → List DV → Hp → aG) (n : Nat) (args : List DV) (h : Hp) : aE CF1 rec n 69 args h = t52 rec n (args.getD 0 aR) (args.getD 1 aR) h :=
 (by kernel_rfl : aE CF1 rec n 69 args h = E52 rec n (cf Tryz.f69) x0 (aS CF1 Tryz.f69) (aH args) h).trans ((congrFun (congrFun (dGi rec n) (aH args)) h).trans (by kernel_rfl))
noncomputable def t54 (rec : FuncId → List DV → Hp → aG) (n : Nat) (x0 : DV) (h0 : Hp) : aG :=
 bnd (aD .and x0 (.i .i64 (Int.ofNat 1)) h0) fun v1 h1 =>
 bnd (aD .eql v1 (.i .i64 (Int.ofNat 1)) h1) fun v2 h2 =>
 bnd (gD v2 true (some (x0, h2)) h2) fun v3 h3 =>
 bnd (gD v2 true (dO .shr v3 (.i .u64 (Int.ofNat 1)) h3) h3) fun v4 h4 =>
 bnd (gD v2 true (rec 64 [v4, (.i .i64 (Int.negSucc 1073741823)), (.i .i64 (Int.ofNat 1073741823))] h4) h4) fun v5 h5 =>
 bnd (aQ v2 v5 (.b false) h5) fun v6 h6 =>
 some (v6, h6)
noncomputable def E54 (rec : FuncId → List DV → Hp → aG) (n : Nat) (c : Code) (X : Nat → K) (k : K) : K := aP CF1 rec 11 n c X (aS CF1 Tryz.f29) k
theorem dJl (rec : FuncId → List DV → Hp → aG) (n : Nat) : E54 rec n (cf Tryz.f29) x0 (aS CF1 Tryz.f29) = (fun (env : bF) (h : Hp) => t54 rec n (env 0) h) :=
 (by kernel_rfl)
theorem cXv (rec : FuncId → List DV → Hp → aG) (n : Nat) (args : List DV) (h : Hp) : aE CF1 rec n 29 args h = t54 rec n (args.getD 0 aR) h :=
 (by kernel_rfl : aE CF1 rec n 29 args h = E54 rec n (cf Tryz.f29) x0 (aS CF1 Tryz.f29) (aH args) h).trans ((congrFun (congrFun (dJl rec n) (aH args)) h).trans (by kernel_rfl))
noncomputable def t60 (rec : FuncId → List DV → Hp → aG) (n : Nat) (x0 : DV) (h0 : Hp) : aG :=
 bnd (rec 64 [x0, (.i .i64 (Int.negSucc 1073741823)), (.i .i64 (Int.ofNat 1073741823))] h0) fun v1 h1 =>
 bnd (jW .not v1 h1) fun v2 h2 =>
 aX v2 (
  some (.t [(.i .i64 (Int.ofNat 0)), (.b false)], h2)) (
  bnd (dO .shl x0 (.i .u64 (Int.ofNat 1)) h2) fun v3 h3 =>
  bnd (aD .or v3 (.i .i64 (Int.ofNat 1)) h3) fun v4 h4 =>
  some (.t [v4, (.b true)], h4))
noncomputable def E60 (rec : FuncId → List DV → Hp → aG) (n : Nat) (c : Code) (X : Nat → K) (k : K) : K := aP CF1 rec 10 n c X (aS CF1 Tryz.f58) k
theorem dGc (rec : FuncId → List DV → Hp → aG) (n : Nat) : E60 rec n (cf Tryz.f58) x0 (aS CF1 Tryz.f58) = (fun (env : bF) (h : Hp) => t60 rec n (env 0) h) :=
 (by kernel_rfl)
theorem cXt (rec : FuncId → List DV → Hp → aG) (n : Nat) (args : List DV) (h : Hp) : aE CF1 rec n 58 args h = t60 rec n (args.getD 0 aR) h :=
 (by kernel_rfl : aE CF1 rec n 58 args h = E60 rec n (cf Tryz.f58) x0 (aS CF1 Tryz.f58) (aH args) h).trans ((congrFun (congrFun (dGc rec n) (aH args)) h).trans (by kernel_rfl))
noncomputable def t62 (rec : FuncId → List DV → Hp → aG) (n : Nat) (x0 : DV) (h0 : Hp) : aG :=
 bnd (rec 29 [x0] h0) fun v1 h1 =>
 bnd (jW .not v1 h1) fun v2 h2 =>
 aX v2 (
  some ((.i .i64 (Int.ofNat 0)), h2)) (
  bnd (dO .shr x0 (.i .u64 (Int.ofNat 1)) h2) fun v3 h3 =>
  some (v3, h3))
noncomputable def E62 (rec : FuncId → List DV → Hp → aG) (n : Nat) (c : Code) (X : Nat → K) (k : K) : K := aP CF1 rec 8 n c X (aS CF1 Tryz.f74) k
theorem dEx (rec : FuncId → List DV → Hp → aG) (n : Nat) : E62 rec n (cf Tryz.f74) x0 (aS CF1 Tryz.f74) = (fun (env : bF) (h : Hp) => t62 rec n (env 0) h) :=
 (by kernel_rfl)
theorem dAz (rec : FuncId → List DV → Hp → aG) (n : Nat) (args : List DV) (h : Hp) : aE CF1 rec n 74 args h = t62 rec n (args.getD 0 aR) h :=
 (by kernel_rfl : aE CF1 rec n 74 args h = E62 rec n (cf Tryz.f74) x0 (aS CF1 Tryz.f74) (aH args) h).trans ((congrFun (congrFun (dEx rec n) (aH args)) h).trans (by kernel_rfl))
noncomputable def t63 (rec : FuncId → List DV → Hp → aG) (n : Nat) (x0 : DV) (h0 : Hp) : aG :=
 bnd (aD .and x0 (.i .i64 (Int.ofNat 1)) h0) fun v1 h1 =>
 bnd (aD .eql v1 (.i .i64 (Int.ofNat 0)) h1) fun v2 h2 =>
 bnd (gD v2 true (some (x0, h2)) h2) fun v3 h3 =>
 bnd (gD v2 true (dO .shr v3 (.i .u64 (Int.ofNat 1)) h3) h3) fun v4 h4 =>
 bnd (gD v2 true (rec 64 [v4, (.i .i64 (Int.ofNat 3)), (.i .i64 (Int.ofNat 131072))] h4) h4) fun v5 h5 =>
 bnd (aQ v2 v5 (.b false) h5) fun v6 h6 =>
 some (v6, h6)
noncomputable def E63 (rec : FuncId → List DV → Hp → aG) (n : Nat) (c : Code) (X : Nat → K) (k : K) : K := aP CF1 rec 11 n c X (aS CF1 Tryz.f65) k
theorem dJx (rec : FuncId → List DV → Hp → aG) (n : Nat) : E63 rec n (cf Tryz.f65) x0 (aS CF1 Tryz.f65) = (fun (env : bF) (h : Hp) => t63 rec n (env 0) h) :=
 (by kernel_rfl)
theorem dAg (rec : FuncId → List DV → Hp → aG) (n : Nat) (args : List DV) (h : Hp) : aE CF1 rec n 65 args h = t63 rec n (args.getD 0 aR) h :=
 (by kernel_rfl : aE CF1 rec n 65 args h = E63 rec n (cf Tryz.f65) x0 (aS CF1 Tryz.f65) (aH args) h).trans ((congrFun (congrFun (dJx rec n) (aH args)) h).trans (by kernel_rfl))
noncomputable def t64 (rec : FuncId → List DV → Hp → aG) (n : Nat) (x0 : DV) (h0 : Hp) : aG :=
 bnd (rec 65 [x0] h0) fun v1 h1 =>
 bnd (jW .not v1 h1) fun v2 h2 =>
 aX v2 (
  some ((.i .i64 (Int.ofNat 0)), h2)) (
  bnd (dO .shr x0 (.i .u64 (Int.ofNat 1)) h2) fun v3 h3 =>
  some (v3, h3))
noncomputable def E64 (rec : FuncId → List DV → Hp → aG) (n : Nat) (c : Code) (X : Nat → K) (k : K) : K := aP CF1 rec 8 n c X (aS CF1 Tryz.f66) k
theorem dGr (rec : FuncId → List DV → Hp → aG) (n : Nat) : E64 rec n (cf Tryz.f66) x0 (aS CF1 Tryz.f66) = (fun (env : bF) (h : Hp) => t64 rec n (env 0) h) :=
 (by kernel_rfl)
theorem dEg (rec : FuncId → List DV → Hp → aG) (n : Nat) (args : List DV) (h : Hp) : aE CF1 rec n 66 args h = t64 rec n (args.getD 0 aR) h :=
 (by kernel_rfl : aE CF1 rec n 66 args h = E64 rec n (cf Tryz.f66) x0 (aS CF1 Tryz.f66) (aH args) h).trans ((congrFun (congrFun (dGr rec n) (aH args)) h).trans (by kernel_rfl))
noncomputable def t73 (rec : FuncId → List DV → Hp → aG) (n : Nat) (x0 x1 x2 : DV) (h0 : Hp) : aG :=
 bnd (rec 34 [x0, x1, x2] h0) fun v1 h1 =>
 bnd (aC 0 v1 h1) fun v2 h2 =>
 bnd (aC 1 v1 h2) fun v3 h3 =>
 bnd (aD .neq v3 (.i .i64 (Int.ofNat 0)) h3) fun v4 h4 =>
 aX v4 (
  some (.t [(.i .i64 (Int.ofNat 0)), v3], h4)) (
  bnd (bD x0 h4) fun v5 h5 =>
  bnd (aB 0 v5 h5) fun v6 h6 =>
  bnd (aA v6 h6) fun v7 h7 =>
  bnd (aF 1 v7 v2 h7) fun v8 h8 =>
  bnd (aA v8 h8) fun v9 h9 =>
  some (.t [v9, (.i .i64 (Int.ofNat 0))], h9))
noncomputable def E73 (rec : FuncId → List DV → Hp → aG) (n : Nat) (c : Code) (X : Nat → K) (k : K) : K := aP CF1 rec 27 n c X (aS CF1 Tryz.f83) k
theorem dJg (rec : FuncId → List DV → Hp → aG) (n : Nat) : E73 rec n (cf Tryz.f83) x0 (aS CF1 Tryz.f83) = (fun (env : bF) (h : Hp) => t73 rec n (env 0) (env 1) (env 2) h) :=
 (by kernel_rfl)
theorem cIm (rec : FuncId → List DV → Hp → aG) (n : Nat) (args : List DV) (h : Hp) : aE CF1 rec n 83 args h = t73 rec n (args.getD 0 aR) (args.getD 1 aR) (args.getD 2 aR) h :=
 (by kernel_rfl : aE CF1 rec n 83 args h = E73 rec n (cf Tryz.f83) x0 (aS CF1 Tryz.f83) (aH args) h).trans ((congrFun (congrFun (dJg rec n) (aH args)) h).trans (by kernel_rfl))
noncomputable def t74 (rec : FuncId → List DV → Hp → aG) (n : Nat) (x0 x1 : DV) (h0 : Hp) : aG :=
 bnd (aD .eql x1 (.i .i64 (Int.ofNat 0)) h0) fun v1 h1 =>
 bnd (gD v1 false (some (x0, h1)) h1) fun v2 h2 =>
 bnd (gD v1 false (some (x1, h2)) h2) fun v3 h3 =>
 bnd (gD v1 false (rec 30 [v2, v3] h3) h3) fun v4 h4 =>
 bnd (aQ v1 (.b true) v4 h4) fun v5 h5 =>
 some (v5, h5)
noncomputable def E74 (rec : FuncId → List DV → Hp → aG) (n : Nat) (c : Code) (X : Nat → K) (k : K) : K := aP CF1 rec 12 n c X (aS CF1 Tryz.f60) k
theorem dGm (rec : FuncId → List DV → Hp → aG) (n : Nat) : E74 rec n (cf Tryz.f60) x0 (aS CF1 Tryz.f60) = (fun (env : bF) (h : Hp) => t74 rec n (env 0) (env 1) h) :=
 (by kernel_rfl)
theorem dBp (rec : FuncId → List DV → Hp → aG) (n : Nat) (args : List DV) (h : Hp) : aE CF1 rec n 60 args h = t74 rec n (args.getD 0 aR) (args.getD 1 aR) h :=
 (by kernel_rfl : aE CF1 rec n 60 args h = E74 rec n (cf Tryz.f60) x0 (aS CF1 Tryz.f60) (aH args) h).trans ((congrFun (congrFun (dGm rec n) (aH args)) h).trans (by kernel_rfl))
noncomputable def t75 (rec : FuncId → List DV → Hp → aG) (n : Nat) (x0 : DV) (h0 : Hp) : aG :=
 bnd (rec 64 [x0, (.i .i64 (Int.ofNat 3)), (.i .i64 (Int.ofNat 131072))] h0) fun v1 h1 =>
 bnd (jW .not v1 h1) fun v2 h2 =>
 aX v2 (
  some (.t [(.i .i64 (Int.ofNat 0)), (.b false)], h2)) (
  bnd (dO .shl x0 (.i .u64 (Int.ofNat 1)) h2) fun v3 h3 =>
  some (.t [v3, (.b true)], h3))
noncomputable def E75 (rec : FuncId → List DV → Hp → aG) (n : Nat) (c : Code) (X : Nat → K) (k : K) : K := aP CF1 rec 9 n c X (aS CF1 Tryz.f61) k
theorem dGb (rec : FuncId → List DV → Hp → aG) (n : Nat) : E75 rec n (cf Tryz.f61) x0 (aS CF1 Tryz.f61) = (fun (env : bF) (h : Hp) => t75 rec n (env 0) h) :=
 (by kernel_rfl)
theorem cZr (rec : FuncId → List DV → Hp → aG) (n : Nat) (args : List DV) (h : Hp) : aE CF1 rec n 61 args h = t75 rec n (args.getD 0 aR) h :=
 (by kernel_rfl : aE CF1 rec n 61 args h = E75 rec n (cf Tryz.f61) x0 (aS CF1 Tryz.f61) (aH args) h).trans ((congrFun (congrFun (dGb rec n) (aH args)) h).trans (by kernel_rfl))
noncomputable def t105 (rec : FuncId → List DV → Hp → aG) (n : Nat) (x0 x1 : DV) (h0 : Hp) : aG :=
 bnd (rec 30 [x0, x1] h0) fun v1 h1 =>
 bnd (jW .not v1 h1) fun v2 h2 =>
 aX v2 (
  some ((.i .i64 (Int.ofNat 0)), h2)) (
  bnd (rec 66 [x1] h2) fun v3 h3 =>
  some (v3, h3))
noncomputable def dAq (rec : FuncId → List DV → Hp → aG) (n : Nat) (c : Code) (X : Nat → K) (k : K) : K := aP CF1 rec 11 n c X (aS CF1 Tryz.f68) k
theorem cWy (rec : FuncId → List DV → Hp → aG) (n : Nat) : dAq rec n (cf Tryz.f68) x0 (aS CF1 Tryz.f68) = (fun (env : bF) (h : Hp) => t105 rec n (env 0) (env 1) h) :=
 (by kernel_rfl)
theorem cMx (rec : FuncId → List DV → Hp → aG) (n : Nat) (args : List DV) (h : Hp) : aE CF1 rec n 68 args h = t105 rec n (args.getD 0 aR) (args.getD 1 aR) h :=
 (by kernel_rfl : aE CF1 rec n 68 args h = dAq rec n (cf Tryz.f68) x0 (aS CF1 Tryz.f68) (aH args) h).trans ((congrFun (congrFun (cWy rec n) (aH args)) h).trans (by kernel_rfl))
noncomputable def bBd (rec : FuncId → List DV → Hp → aG) (n : Nat) (x0 x1 x2 : DV) (h0 : Hp) : aG :=
 bnd (rec 68 [x0, x1] h0) fun v1 h1 =>
 bnd (aD .eql v1 (.i .i64 (Int.ofNat 0)) h1) fun v2 h2 =>
 aX v2 (
  some (.t [(.i .i64 (Int.ofNat 0)), (.i .i64 (Int.ofNat 1))], h2)) (
  bnd (aD .lss x2 (.i .i64 (Int.ofNat 0)) h2) fun v3 h3 =>
  bnd (gD v3 false (some (x2, h3)) h3) fun v4 h4 =>
  bnd (gD v3 false (some (x0, h4)) h4) fun v5 h5 =>
  bnd (gD v3 false (some (x1, h5)) h5) fun v6 h6 =>
  bnd (gD v3 false (rec 69 [v5, v6] h6) h6) fun v7 h7 =>
  bnd (gD v3 false (aD .geq v4 v7 h7) h7) fun v8 h8 =>
  bnd (aQ v3 (.b true) v8 h8) fun v9 h9 =>
  aX v9 (
   some (.t [(.i .i64 (Int.ofNat 0)), (.i .i64 (Int.ofNat 5))], h9)) (
   bnd (aD .add v1 (.i .i64 (Int.ofNat 3)) h9) fun v10 h10 =>
   bnd (aD .add v10 x2 h10) fun v11 h11 =>
   some (.t [v11, (.i .i64 (Int.ofNat 0))], h11)))
noncomputable def dBm (rec : FuncId → List DV → Hp → aG) (n : Nat) (c : Code) (X : Nat → K) (k : K) : K := aP CF1 rec 29 n c X (aS CF1 Tryz.f34) k
theorem dAi (rec : FuncId → List DV → Hp → aG) (n : Nat) : dBm rec n (cf Tryz.f34) x0 (aS CF1 Tryz.f34) = (fun (env : bF) (h : Hp) => bBd rec n (env 0) (env 1) (env 2) h) :=
 (by kernel_rfl)
theorem aGw (rec : FuncId → List DV → Hp → aG) (n : Nat) (args : List DV) (h : Hp) : aE CF1 rec n 34 args h = bBd rec n (args.getD 0 aR) (args.getD 1 aR) (args.getD 2 aR) h :=
 (by kernel_rfl : aE CF1 rec n 34 args h = dBm rec n (cf Tryz.f34) x0 (aS CF1 Tryz.f34) (aH args) h).trans ((congrFun (congrFun (dAi rec n) (aH args)) h).trans (by kernel_rfl))
noncomputable def cLj (rec : FuncId → List DV → Hp → aG) (n : Nat) (x0 x1 x2 : DV) (h0 : Hp) : aG :=
 bnd (aD .geq x0 x1 h0) fun v1 h1 =>
 bnd (gD v1 true (some (x0, h1)) h1) fun v2 h2 =>
 bnd (gD v1 true (some (x2, h2)) h2) fun v3 h3 =>
 bnd (gD v1 true (aD .leq v2 v3 h3) h3) fun v4 h4 =>
 bnd (aQ v1 v4 (.b false) h4) fun v5 h5 =>
 some (v5, h5)
noncomputable def cZn (rec : FuncId → List DV → Hp → aG) (n : Nat) (c : Code) (X : Nat → K) (k : K) : K := aP CF1 rec 15 n c X (aS CF1 Tryz.f64) k
theorem dCb (rec : FuncId → List DV → Hp → aG) (n : Nat) : cZn rec n (cf Tryz.f64) x0 (aS CF1 Tryz.f64) = (fun (env : bF) (h : Hp) => cLj rec n (env 0) (env 1) (env 2) h) :=
 (by kernel_rfl)
theorem cSi (rec : FuncId → List DV → Hp → aG) (n : Nat) (args : List DV) (h : Hp) : aE CF1 rec n 64 args h = cLj rec n (args.getD 0 aR) (args.getD 1 aR) (args.getD 2 aR) h :=
 (by kernel_rfl : aE CF1 rec n 64 args h = cZn rec n (cf Tryz.f64) x0 (aS CF1 Tryz.f64) (aH args) h).trans ((congrFun (congrFun (dCb rec n) (aH args)) h).trans (by kernel_rfl))
end Go.Dd

namespace Go.Dd
theorem qX {a b : Nat} : Nat.beq a b = decide (a = b) := by
 cases h : Nat.beq a b with
 | true => simp [Nat.eq_of_beq_eq_true h]
 | false =>
  have : a ≠ b := by intro e; subst e; simp at h
  simp [this]
theorem jN {a b : Nat} : Nat.ble a b = decide (a ≤ b) := by
 cases h : Nat.ble a b with
 | true => simp [Nat.le_of_ble_eq_true h]
 | false =>
  have : ¬ a ≤ b := by intro e; rw [Nat.ble_eq_true_of_le e] at h; cases h
  simp [this]
theorem gF {a b : Nat} : Nat.blt a b = decide (a < b) := by
 show Nat.ble (a + 1) b = _
 rw [jN]
 simp [Nat.succ_le_iff]
theorem rL (w : Int) : (iV w ≠ 0 ↔ (w % 2 = 0 ∧ 3 ≤ w / 2 ∧ w / 2 ≤ 131072)) ∧ (iV w ≠ 0 → (iV w : Int) = w / 2) ∧ iV w ≤ 131072 := by
 cases w with
 | ofNat w =>
  simp only [iV, qX, jN]
  have e1 : Nat.mod w 2 = w % 2 := rfl
  have e2 : Nat.div w 2 = w / 2 := rfl
  rw [e1, e2]
  by_cases hc : w % 2 = 0 ∧ 6 ≤ w ∧ w ≤ 262144
  ·obtain ⟨h1, h2, h3⟩ := hc
   simp only [h1, h2, h3, decide_true, Bool.and_self, cond_true]
   simp only [Int.ofNat_eq_natCast]
   refine ⟨⟨fun _ => ⟨by omega, by omega, by omega⟩, fun _ => by omega⟩, fun _ => by omega, by omega⟩
  ·have : (decide (w % 2 = 0) && (decide (6 ≤ w) && decide (w ≤ 262144))) = false := by
    rw [← Bool.not_eq_true]
    simpa using hc
   rw [this]
   simp only [cond_false, Int.ofNat_eq_natCast]
   refine ⟨⟨fun h => absurd rfl h, fun h => by omega⟩, fun h => absurd rfl h, by omega⟩
 | negSucc w =>
  simp only [iV]
  refine ⟨⟨fun h => absurd rfl h, fun h => by omega⟩, fun h => absurd rfl h, by omega⟩
theorem iT (w : Int) : cU w = decide (w % 2 = 1 ∧ -1073741824 ≤ w / 2 ∧ w / 2 ≤ 1073741823) := by
 rw [Bool.eq_iff_iff, decide_eq_true_iff]
 cases w with
 | ofNat w =>
  simp only [cU, qX, gF, Bool.and_eq_true, decide_eq_true_eq]
  have e1 : Nat.mod w 2 = w % 2 := rfl
  rw [e1]
  simp only [Int.ofNat_eq_natCast]
  omega
 | negSucc w =>
  simp only [cU, qX, gF, Bool.and_eq_true, decide_eq_true_eq]
  have e1 : Nat.mod w 2 = w % 2 := rfl
  rw [e1]
  omega
theorem oI (w : Int) : nJ w = w / 2 := by
 cases w with
 | ofNat w => show Int.ofNat (w / 2) = _; simp
 | negSucc w => show Int.negSucc (w / 2) = _; omega
theorem hC (a : Int) (h : -9223372036854775808 ≤ a ∧ a ≤ 9223372036854775807) : IntKind.i64.wrap a = a := by
 simp [IntKind.wrap, IntKind.signed, IntKind.bits, Int.bmod]
 omega
theorem gX (a : Int) : (BitVec.ofInt 64 a).toNat = (a % 18446744073709551616).toNat := by
 rw [BitVec.toNat_ofInt]
 rfl
theorem dHp (w : Int) : IntKind.i64.wrap (((BitVec.ofInt 64 w &&& BitVec.ofInt 64 1).toNat : Nat) : Int) = w % 2 := by
 rw [BitVec.toNat_and, gX, gX]
 rw [show ((1 : Int) % 18446744073709551616).toNat = 1 from rfl, Nat.and_one_is_mod]
 rw [hC _ (by omega)]
 omega
theorem dGy (w : Int) : IntKind.i64.wrap (((BitVec.ofInt 64 w &&& BitVec.ofInt 64 3).toNat : Nat) : Int) = w % 4 := by
 rw [BitVec.toNat_and, gX, gX]
 rw [show ((3 : Int) % 18446744073709551616).toNat = 2 ^ 2 - 1 from rfl, Nat.and_two_pow_sub_one_eq_mod]
 rw [hC _ (by omega)]
 omega
theorem cOi (a : Nat) (k b : Nat) (hb : b < 2 ^ k) (hs : a * 2 ^ k + b < 9223372036854775808) : IntKind.i64.wrap (((BitVec.ofInt 64 ((a * 2 ^ k : Nat) : Int) ||| BitVec.ofInt 64 (b : Int)).toNat : Nat) : Int) = ((a * 2 ^ k + b : Nat) : Int) := by
 have h1 : (BitVec.ofInt 64 ((a * 2 ^ k : Nat) : Int)).toNat = a * 2 ^ k := by rw [gX]; omega
 have h2 : (BitVec.ofInt 64 (b : Int)).toNat = b := by rw [gX]; omega
 rw [BitVec.toNat_or, h1, h2, Nat.mul_comm a, ← Nat.two_pow_add_eq_or_of_lt hb, Nat.mul_comm]
 exact hC _ (by omega)
theorem aLr (a : Int) (b : Int) (hb : 0 ≤ b) : a.fdiv b = a / b := Int.fdiv_eq_ediv_of_nonneg a hb
theorem bI (k : IntKind) (a b : Int) (h : Hp) : aD .eql (.i k a) (.i k b) h = some (.b (a == b), h) := by simp only [aD, if_true, fD]
theorem jJ (k : IntKind) (a b : Int) (h : Hp) : aD .neq (.i k a) (.i k b) h = some (.b (a != b), h) := by simp only [aD, if_true, fD]
theorem bJ (k : IntKind) (a b : Int) (h : Hp) : aD .lss (.i k a) (.i k b) h = some (.b (decide (a < b)), h) := by simp only [aD, if_true, fD]
theorem wA (k : IntKind) (a b : Int) (h : Hp) : aD .leq (.i k a) (.i k b) h = some (.b (decide (a ≤ b)), h) := by simp only [aD, if_true, fD]
theorem cM (k : IntKind) (a b : Int) (h : Hp) : aD .gtr (.i k a) (.i k b) h = some (.b (decide (a > b)), h) := by simp only [aD, if_true, fD]
theorem jM (k : IntKind) (a b : Int) (h : Hp) : aD .geq (.i k a) (.i k b) h = some (.b (decide (a ≥ b)), h) := by simp only [aD, if_true, fD]
theorem jO (a b : Int) (h : Hp) (hr : -9223372036854775808 ≤ a + b ∧ a + b ≤ 9223372036854775807) : aD .add (.i .i64 a) (.i .i64 b) h = some (.i .i64 (a + b), h) := by simp only [aD, if_true, fD, hC _ hr]
theorem aDa (a b : Int) (h : Hp) (hr : -9223372036854775808 ≤ a - b ∧ a - b ≤ 9223372036854775807) : aD .sub (.i .i64 a) (.i .i64 b) h = some (.i .i64 (a - b), h) := by simp only [aD, if_true, fD, hC _ hr]
theorem aUt (w : Int) (h : Hp) : aD .and (.i .i64 w) (.i .i64 (Int.ofNat 1)) h = some (.i .i64 (w % 2), h) := by
 have : fD .and .i64 w (Int.ofNat 1) = some (.i .i64 (w % 2)) := by
  rw [← dHp w]; rfl
 simp only [aD, if_true, this]
theorem bXp (w : Int) (h : Hp) : aD .and (.i .i64 w) (.i .i64 (Int.ofNat 3)) h = some (.i .i64 (w % 4), h) := by
 have : fD .and .i64 w (Int.ofNat 3) = some (.i .i64 (w % 4)) := by
  rw [← dGy w]; rfl
 simp only [aD, if_true, this]
theorem uO (w : Int) (h : Hp) : dO .shr (.i .i64 w) (.i .u64 (Int.ofNat 1)) h = some (.i .i64 (w / 2), h) := by
 have : w.fdiv (2 ^ (min (Int.ofNat 1).toNat IntKind.i64.bits)) = w / 2 := aLr w (2 ^ 1) (by decide)
 simp only [dO, show ¬ ((Int.ofNat 1) < 0) by decide, if_false, this]
theorem bUf (w : Int) (h : Hp) : dO .shr (.i .i64 w) (.i .u64 (Int.ofNat 2)) h = some (.i .i64 (w / 4), h) := by
 have : w.fdiv (2 ^ (min (Int.ofNat 2).toNat IntKind.i64.bits)) = w / 4 := aLr w (2 ^ 2) (by decide)
 simp only [dO, show ¬ ((Int.ofNat 2) < 0) by decide, if_false, this]
theorem aVw (w : Int) (h : Hp) (hr : -4611686018427387904 ≤ w ∧ w ≤ 4611686018427387903) : dO .shl (.i .i64 w) (.i .u64 (Int.ofNat 1)) h = some (.i .i64 (2 * w), h) := by
 have : IntKind.i64.wrap (w * 2 ^ (min (Int.ofNat 1).toNat IntKind.i64.bits)) = 2 * w := by
  rw [show w * 2 ^ (min (Int.ofNat 1).toNat IntKind.i64.bits) = 2 * w from Int.mul_comm w 2]
  exact hC _ (by omega)
 simp only [dO, show ¬ ((Int.ofNat 1) < 0) by decide, if_false, this]
theorem bUj (w : Int) (h : Hp) (hr : -2305843009213693952 ≤ w ∧ w ≤ 2305843009213693951) : dO .shl (.i .i64 w) (.i .u64 (Int.ofNat 2)) h = some (.i .i64 (4 * w), h) := by
 have : IntKind.i64.wrap (w * 2 ^ (min (Int.ofNat 2).toNat IntKind.i64.bits)) = 4 * w := by
  rw [show w * 2 ^ (min (Int.ofNat 2).toNat IntKind.i64.bits) = 4 * w from Int.mul_comm w 4]
  exact hC _ (by omega)
 simp only [dO, show ¬ ((Int.ofNat 2) < 0) by decide, if_false, this]
theorem fT (r : aG) (h : Hp) : gD (.b true) true r h = r := Eq.trans rfl rfl
theorem fX (r : aG) (h : Hp) : gD (.b false) false r h = r := Eq.trans rfl rfl
theorem fJ (r : aG) (h : Hp) : gD (.b true) false r h = some (aR, h) := Eq.trans rfl rfl
theorem gM (r : aG) (h : Hp) : gD (.b false) true r h = some (aR, h) := Eq.trans rfl rfl
theorem jK (w : Bool) (r : aG) (h : Hp) : gD aR w r h = some (aR, h) := Eq.trans rfl rfl
theorem aL (v : DV) (h : Hp) (k : DV → Hp → aG) : bnd (some (v, h)) k = k v h := Eq.trans rfl rfl
theorem bL (x y : DV) (h : Hp) : aQ (.b true) x y h = some (x, h) := Eq.trans rfl rfl
theorem bN (x y : DV) (h : Hp) : aQ (.b false) x y h = some (y, h) := Eq.trans rfl rfl
theorem gT (b : Bool) (h : Hp) : jW .not (.b b) h = some (.b (!b), h) := Eq.trans rfl rfl
theorem aZ (a b : aG) : aX (.b true) a b = a := Eq.trans rfl rfl
theorem aV (a b : aG) : aX (.b false) a b = b := Eq.trans rfl rfl
theorem g0 (a : DV) (l : List DV) : (a :: l).getD 0 aR = a := Eq.trans rfl rfl
theorem g1 (a b : DV) (l : List DV) : (a :: b :: l).getD 1 aR = b := Eq.trans rfl rfl
theorem g2 (a b c : DV) (l : List DV) : (a :: b :: c :: l).getD 2 aR = c := Eq.trans rfl rfl
theorem g3 (a b c d : DV) (l : List DV) : (a :: b :: c :: d :: l).getD 3 aR = d := Eq.trans rfl rfl
theorem aXp (n : Nat) (a b c : Int) (h : Hp) : gH CF1 (n + 1) 64 [.i .i64 a, .i .i64 b, .i .i64 c] h = some (.b (decide (b ≤ a ∧ a ≤ c)), h) := by
 rw [cA 64 rfl, cSi]
 simp only [cLj, g0, g1, g2, jM, aL]
 by_cases h1 : b ≤ a
 ·simp only [ge_iff_le, h1, decide_true, fT, aL, wA, bL, true_and]
 ·simp only [ge_iff_le, h1, decide_false, gM, aL, bN, false_and]
theorem cPt (n : Nat) (w : Int) (h : Hp) : gH CF1 (n + 2) 29 [.i .i64 w] h = some (.b (cU w), h) := by
 rw [cA 29 rfl, cXv]
 simp only [t54, g0, aUt, aL, bI, iT]
 by_cases h1 : w % 2 = 1
 ·have e : (w % 2 == Int.ofNat 1) = true := by simpa using h1
  rw [e]
  simp only [fT, aL, uO, aXp, bL, h1, true_and]
  rfl
 ·have e : (w % 2 == Int.ofNat 1) = false := by simpa using h1
  rw [e]
  simp only [gM, aL, bN, h1, false_and, decide_false]
theorem dDq (n : Nat) (w : Int) (h : Hp) : gH CF1 (n + 2) 65 [.i .i64 w] h = some (.b (!(Nat.beq (iV w) 0)), h) := by
 rw [cA 65 rfl, dAg]
 simp only [t63, g0, aUt, aL, bI, qX]
 have hp := (rL w).1
 by_cases h1 : w % 2 = 0
 ·have e : (w % 2 == Int.ofNat 0) = true := by simpa using h1
  rw [e]
  simp only [fT, aL, uO, aXp, bL]
  by_cases h2 : iV w = 0
  ·have : ¬ (Int.ofNat 3 ≤ w / 2 ∧ w / 2 ≤ Int.ofNat 131072) := fun h => (hp.2 ⟨h1, h⟩) h2
   simp only [h2, this, decide_true, Bool.not_true, decide_false]
  ·have : Int.ofNat 3 ≤ w / 2 ∧ w / 2 ≤ Int.ofNat 131072 := (hp.1 h2).2
   simp only [h2, this, decide_false, Bool.not_false, and_self, decide_true]
 ·have h2 : iV w = 0 := by
   by_cases h2 : iV w = 0
   ·exact h2
   ·exact absurd (hp.1 h2).1 h1
  have e : (w % 2 == Int.ofNat 0) = false := by simpa using h1
  rw [e]
  simp only [gM, aL, bN, h2, decide_true, Bool.not_true]
theorem cXu (n : Nat) (w : Int) (h : Hp) : gH CF1 (n + 3) 66 [.i .i64 w] h = some (.i .i64 (iV w), h) := by
 rw [cA 66 rfl, dEg]
 simp only [t64, g0, dDq, aL, gT, qX]
 by_cases h2 : iV w = 0
 ·simp only [h2, decide_true, Bool.not_true, Bool.not_false, aZ]; rfl
 ·have hp := (rL w).2.1 h2
  simp only [h2, decide_false, Bool.not_false, Bool.not_true, aV, uO, aL, hp]
theorem dAx (n : Nat) (w : Int) (h : Hp) : gH CF1 (n + 2) 58 [.i .i64 w] h = some (if -1073741824 ≤ w ∧ w ≤ 1073741823 then .t [.i .i64 (2 * w + 1), .b true] else .t [.i .i64 0, .b false], h) := by
 rw [cA 58 rfl, cXt]
 simp only [t60, g0, aXp, aL, gT]
 by_cases h1 : -1073741824 ≤ w ∧ w ≤ 1073741823
 ·have h1' : Int.negSucc 1073741823 ≤ w ∧ w ≤ Int.ofNat 1073741823 := h1
  rw [if_pos h1]
  simp only [h1', decide_true, and_self, aV, Bool.not_true]
  rw [aVw w h (by omega)]
  have hb : fD .or .i64 (2 * w) (Int.ofNat 1) = some (.i .i64 (2 * w + 1)) := by
   have : IntKind.i64.wrap (((BitVec.ofInt 64 (2 * w) ||| BitVec.ofInt 64 (Int.ofNat 1)).toNat : Nat) : Int) = 2 * w + 1 := by
    rw [BitVec.toNat_or, gX, gX]
    rw [show ((Int.ofNat 1) % 18446744073709551616).toNat = 1 from rfl]
    obtain ⟨q, hq⟩ : ∃ q : Nat, ((2 * w) % 18446744073709551616).toNat = 2 ^ 1 * q := ⟨((2 * w) % 18446744073709551616).toNat / 2, by omega⟩
    rw [hq, ← Nat.two_pow_add_eq_or_of_lt (show 1 < 2 ^ 1 by omega)]
    rw [← hq]
    simp [IntKind.wrap, IntKind.signed, IntKind.bits, Int.bmod]
    omega
   rw [← this]; rfl
  simp only [aL, aD, if_true, hb]
 ·have h1' : ¬ (Int.negSucc 1073741823 ≤ w ∧ w ≤ Int.ofNat 1073741823) := h1
  rw [if_neg h1]
  simp only [h1', decide_false, aZ, Bool.not_false]
  rfl
theorem dGe (n : Nat) (w : Int) (h : Hp) : gH CF1 (n + 3) 74 [.i .i64 w] h = some (if cU w then .i .i64 (w / 2) else .i .i64 0, h) := by
 rw [cA 74 rfl, dAz]
 simp only [t62, g0, cPt, aL, gT]
 cases cU w with
 | false => rfl
 | true => simp only [Bool.not_true, aV, uO, aL, if_true]
theorem dGv (n : Nat) (a : Int) (h : Hp) : gH CF1 (n + 2) 61 [.i .i64 a] h = some (if 3 ≤ a ∧ a ≤ 131072 then .t [.i .i64 (2 * a), .b true] else .t [.i .i64 0, .b false], h) := by
 rw [cA 61 rfl, cZr]
 simp only [t75, g0, aXp, aL, gT]
 by_cases h1 : 3 ≤ a ∧ a ≤ 131072
 ·have h1' : Int.ofNat 3 ≤ a ∧ a ≤ Int.ofNat 131072 := h1
  rw [if_pos h1]
  simp only [h1', decide_true, and_self, aV, Bool.not_true]
  rw [aVw a h (by omega)]
  rfl
 ·have h1' : ¬ (Int.ofNat 3 ≤ a ∧ a ≤ Int.ofNat 131072) := h1
  rw [if_neg h1]
  simp only [h1', decide_false, aZ, Bool.not_false]
  rfl
end Go.Dd

namespace Go.Dd
structure ML (m : Pos) (M : MemV) (h : Hp) : Prop where
 row : h.bl.get m = some (.row .ex [.l M.wb 0 M.n M.n, .i .i64 (Int.ofNat M.fin), .i .i64 (Int.ofNat M.made), .m M.pb])
 words : h.bl.get M.wb = some (.row .ex (iJ M.n M.t))
 places : ∃ es, h.bl.get M.pb = some (.mp es) ∧ ∀ a : Int, dL (.int .i64) (.i .i64 a) es = some (if 0 ≤ a ∧ M.pl.get a.toNat ≠ 0 then some (.b true) else none)
 n_lt : M.n < 1000000
 fin_le : M.fin ≤ M.n
 made_lt : M.made < 2000000
 d1 : m ≠ M.wb
 d2 : m ≠ M.pb
 d3 : M.wb ≠ M.pb
theorem sB {m : Pos} {M : MemV} {h : Hp} (hm : mV m h = some M) :
  h.bl.get m = some (.row .ex [.l M.wb 0 M.n M.n, .i .i64 (Int.ofNat M.fin), .i .i64 (Int.ofNat M.made), .m M.pb]) ∧ h.bl.get M.wb = some (.big M.n M.t) ∧ h.bl.get M.pb = some (.mi M.pl) ∧ M.n < 1000000 ∧ M.fin ≤ M.n ∧ M.made < 1000000 := by
 unfold mV at hm
 split at hm <;> (try (cases hm; done))
 rename_i wb n c fin made pb hr
 split at hm <;> (try (cases hm; done))
 rename_i n' t pl h1 h2
 cases hb : (Nat.beq n n' && Nat.beq n c) with
 | false => rw [hb] at hm; cases hm
 | true =>
  rw [hb] at hm
  simp only [cond_true] at hm
  cases hc : (Nat.blt n 1000000 && (Nat.ble fin n && Nat.blt made 1000000)) with
  | false => rw [hc] at hm; cases hm
  | true =>
   rw [hc] at hm
   simp only [cond_true, bC] at hm
   subst hm
   simp only [qX, jN, gF, Bool.and_eq_true, decide_eq_true_eq] at hb hc
   obtain ⟨rfl, rfl⟩ := hb
   exact ⟨hr, h1, h2, hc.1, hc.2.1, hc.2.2⟩
theorem fV {m : Pos} {M : MemV} {h h' : Hp} (hm : mV m h = some M) (S : Sim false h h') : ML m M h' := by
 obtain ⟨h1, h2, h3, h4, h5, h6⟩ := sB hm
 refine ⟨S.row h1, ?_, ?_, h4, h5, by omega, fun e => by (rw [e, h2] at h1; cases h1), fun e => by (rw [e, h3] at h1; cases h1), fun e => by (rw [e, h3] at h2; cases h2)⟩
 ·obtain ⟨o', e1, e2⟩ := S.get _ _ h2
  have e2' : o' = .row .ex (iJ M.n M.t) := by simpa [aK, vK] using e2
  rw [e1, e2']
 ·obtain ⟨o', e1, e2⟩ := S.get _ _ h3
  have e2' : ∃ es, o' = .mp es ∧ ∀ a : Int, dL (.int .i64) (.i .i64 a) es = some (if 0 ≤ a ∧ M.pl.get a.toNat ≠ 0 then some (.b true) else none) := by simpa [aK, vK] using e2
  obtain ⟨es, rfl, e3⟩ := e2'
  exact ⟨es, e1, e3⟩
section
variable {m : Pos} {M : MemV} {h : Hp}
theorem iE (b : Pos) (o : Nat) (h : Hp) : bD (.p b o) h = some (.p b o, h) := Eq.trans rfl rfl
theorem eG (k : Nat) (b : Pos) (o : Nat) (h : Hp) : aB k (.p b o) h = some (.p b (o + k), h) := Eq.trans rfl rfl
theorem ML.l0 (H : ML m M h) : aA (.p m (0 + 0)) h = some (.l M.wb 0 M.n M.n, h) := by
 simp [aA, cellD, rowOf, H.row, DV.one]
theorem ML.l1 (H : ML m M h) : aA (.p m (0 + 1)) h = some (.i .i64 (Int.ofNat M.fin), h) := by
 simp [aA, cellD, rowOf, H.row, DV.one]
theorem ML.l2 (H : ML m M h) : aA (.p m (0 + 2)) h = some (.i .i64 (Int.ofNat M.made), h) := by
 simp [aA, cellD, rowOf, H.row, DV.one]
theorem ML.l3 (H : ML m M h) : aA (.p m (0 + 3)) h = some (.m M.pb, h) := by
 simp [aA, cellD, rowOf, H.row, DV.one]
theorem lV {n : Nat} {t : WT} {i : Nat} (h : i < n) : (iJ n t)[i]? = some (.i .i64 (t.get i)) := by
 simp [iJ, h]
theorem ML.ix (H : ML m M h) {a : Nat} (ha : a < M.n) : aF 1 (.l M.wb 0 M.n M.n) (.i .i64 (a : Int)) h = some (.p M.wb a, h) := by
 have : (0 : Int) ≤ (a : Int) ∧ (a : Int) < (M.n : Int) := by omega
 simp [aF, this]
theorem ML.ld (H : ML m M h) {a : Nat} (ha : a < M.n) : aA (.p M.wb a) h = some (.i .i64 (M.t.get a), h) := by
 simp [aA, cellD, rowOf, H.words, lV ha, DV.one]
theorem mR (o : Int) (pl : WT) : bM o pl = 0 ∨ (bM o pl = iV o ∧ iV o ≠ 0) := by
 unfold bM
 by_cases h0 : iV o = 0
 ·simp [h0, qX]
 ·simp only [qX, h0, decide_false, cond_false]
  split
  ·exact .inl rfl
  ·exact .inr ⟨rfl, h0⟩
theorem atN_pos {o : Int} {pl : WT} : (bM o pl ≠ 0) ↔ (iV o ≠ 0 ∧ pl.get (iV o) ≠ 0) := by
 unfold bM
 by_cases h0 : iV o = 0
 ·simp [h0, qX]
 ·simp only [qX, h0, decide_false, cond_false]
  split
  ·rename_i e; simp [e]
  ·rename_i e
   refine ⟨fun _ => ⟨h0, fun e' => e (by rw [e']; rfl)⟩, fun _ => h0⟩
theorem ML.lookup (H : ML m M h) (a : Nat) : dS (.int .i64) (.b false) false (.m M.pb) (.i .i64 (a : Int)) h = some (.b (decide (M.pl.get a ≠ 0)), h) := by
 obtain ⟨es, h1, h2⟩ := H.places
 have := h2 a
 simp only [Int.toNat_natCast] at this
 simp only [dS, gE, h1, this]
 by_cases hc : M.pl.get a = 0
 ·simp [hc]
 ·simp [hc]
theorem mU {r : aG} {v : DV} {h : Hp} (hr : r = some (v, h)) (hv : DV.beq v v = true) : bQ r v = true := by
 rw [hr]; exact hv
theorem cYq (b : Pos) : DV.beq (.m b) (.m b) = true := by simp [DV.beq]
theorem bRp (b : Pos) (o n c : Nat) : DV.beq (.l b o n c) (.l b o n c) = true := by simp [DV.beq]
theorem cAk (H : ML m M h) (n : Nat) (w : Int) : gH CF1 (n + 4) 30 [.p m 0, .i .i64 w] h = some (.b (!(Nat.beq (bM w M.pl) 0)), h) := by
 rw [cA 30 rfl, cZk]
 simp only [t21, g0, g1, dDq, aL, qX]
 by_cases h0 : iV w = 0
 ·have : bM w M.pl = 0 := by
   rcases mR w M.pl with e | ⟨e, e'⟩
   ·exact e
   ·exact absurd h0 e'
  simp only [h0, decide_true, Bool.not_true, gM, aL, this]
  simp [bQ, aR, DV.beq, dKu, cnd, bnd, aQ]
 ·simp only [h0, decide_false, Bool.not_false, fT, aL, iE, eG, H.l3, cXu]
  rw [mU rfl (cYq _), Bool.and_self]
  simp only [cnd, H.lookup, aL, bL]
  by_cases h1 : M.pl.get (iV w) = 0
  ·have : bM w M.pl = 0 := by
    by_cases e : bM w M.pl = 0
    ·exact e
    ·exact absurd h1 (atN_pos.1 e).2
   simp [h1, this]
  ·have : bM w M.pl ≠ 0 := atN_pos.2 ⟨h0, h1⟩
   simp [h1, this]
theorem dFs (H : ML m M h) (n : Nat) : gH CF1 (n + 1) 76 [.p m 0] h = some (.i .i64 (Int.ofNat M.n), h) := by
 rw [cA 76 rfl, cYh]
 simp only [t22, g0, aL, iE, eG, H.l0]
 rfl
theorem cZc (H : ML m M h) (n : Nat) : gH CF1 (n + 1) 18 [.p m 0] h = some (.i .i64 (Int.ofNat (M.n - M.fin)), h) := by
 rw [cA 18 rfl, dAj]
 have h1 := H.n_lt
 have h2 := H.fin_le
 have e : cO (.l M.wb 0 M.n M.n) h = some (.i .i64 (M.n : Int), h) := rfl
 simp only [t29, g0, aL, iE, eG, H.l0, H.l1, e]
 rw [aDa _ _ _ (by simp only [Int.ofNat_eq_natCast]; omega)]
 simp only [aL]
 congr 3
 simp only [Int.ofNat_eq_natCast]
 omega
theorem dDs (H : ML m M h) (n : Nat) (w : Int) : gH CF1 (n + 5) 15 [.p m 0, .i .i64 w] h = some (.b (dK w M.pl), h) := by
 rw [cA 15 rfl, dBl]
 have hm : dK w M.pl = (decide (w = 0) || (decide (w = 2) || (decide (w = 4) || (cU w || !(Nat.beq (bM w M.pl) 0))))) := by
  unfold dK
  split
  ·simp
  ·simp
  ·simp
  ·rename_i h1 h2 h3
   have e1 : w ≠ 0 := fun e => h1 (by rw [e]; rfl)
   have e2 : w ≠ 2 := fun e => h2 (by rw [e]; rfl)
   have e3 : w ≠ 4 := fun e => h3 (by rw [e]; rfl)
   simp [e1, e2, e3]
 rw [hm]
 simp only [t20, g0, g1, bI, aL]
 have b0 : (w == Int.ofNat 0) = decide (w = 0) := rfl
 have b2 : (w == Int.ofNat 2) = decide (w = 2) := rfl
 have b4 : (w == Int.ofNat 4) = decide (w = 4) := rfl
 rw [b0]
 cases decide (w = 0) with
 | true => simp only [fJ, aL, bL, Bool.true_or]
 | false =>
  simp only [fX, aL, bI, bN, b2, Bool.false_or]
  cases decide (w = 2) with
  | true => simp only [fJ, aL, bL, Bool.true_or]
  | false =>
   simp only [fX, aL, bI, bN, b4, Bool.false_or]
   cases decide (w = 4) with
   | true => simp only [fJ, aL, bL, Bool.true_or]
   | false =>
    simp only [fX, aL, cPt, bN, Bool.false_or]
    cases cU w with
    | true => simp only [fJ, aL, bL, Bool.true_or]
    | false => simp only [fX, aL, cAk H, bN, Bool.false_or]
theorem cYe (H : ML m M h) (n : Nat) (w : Int) : gH CF1 (n + 5) 60 [.p m 0, .i .i64 w] h = some (.b (sS w M.pl), h) := by
 rw [cA 60 rfl, dBp]
 have hm : sS w M.pl = (decide (w = 0) || !(Nat.beq (bM w M.pl) 0)) := by
  unfold sS
  split
  ·simp
  ·rename_i h1
   have e1 : w ≠ 0 := fun e => h1 (by rw [e]; rfl)
   simp [e1]
 rw [hm]
 have b0 : (w == Int.ofNat 0) = decide (w = 0) := rfl
 simp only [t74, g0, g1, bI, aL, b0]
 cases decide (w = 0) with
 | true => simp only [fJ, aL, bL, Bool.true_or]
 | false => simp only [fX, aL, cAk H, bN, Bool.false_or]
theorem tJ (H : ML m M h) (n : Nat) (w : Int) : gH CF1 (n + 5) 68 [.p m 0, .i .i64 w] h = some (.i .i64 (bM w M.pl), h) := by
 rw [cA 68 rfl, cMx]
 simp only [t105, g0, g1, cAk H, aL, gT, qX]
 rcases mR w M.pl with e | ⟨e, e'⟩
 ·simp only [e, decide_true, Bool.not_true, Bool.not_false, aZ]; rfl
 ·simp only [e, e', decide_false, Bool.not_false, Bool.not_true, aV, cXu, aL]
theorem uG {o : Int} {k : Nat → aG} {r : DV × Hp} (hh : iK M o k = some r) : bM o M.pl + 1 < M.n ∧ ∃ hd, M.t.get (bM o M.pl) = Int.ofNat hd ∧ hd < 1000000000000 ∧ k hd = some r := by
 unfold iK at hh
 cases hb : Nat.blt (Nat.add (bM o M.pl) 1) M.n with
 | false => rw [hb] at hh; cases hh
 | true =>
  rw [hb] at hh
  simp only [cond_true] at hh
  simp only [gF, decide_eq_true_eq] at hb
  split at hh <;> (try (cases hh; done))
  rename_i hd he
  cases hc : Nat.blt hd 1000000000000 with
  | false => rw [hc] at hh; cases hh
  | true =>
   rw [hc] at hh
   simp only [gF, decide_eq_true_eq] at hc
   exact ⟨hb, hd, he, hc, hh⟩
theorem dJp (H : ML m M h) (n : Nat) (o : Int) (ho : bM o M.pl + 1 < M.n) : gH CF1 (n + 6) 80 [.p m 0, .i .i64 o] h = some (.i .i64 (M.t.get (bM o M.pl + 1)), h) := by
 rw [cA 80 rfl, cZo]
 have hn := H.n_lt
 simp only [t50, g0, g1, aL, iE, eG, H.l0, tJ H]
 rw [mU rfl (bRp _ _ _ _), Bool.and_self]
 simp only [cnd]
 rw [jO _ _ _ (by simp only [Int.ofNat_eq_natCast]; omega)]
 have e : (bM o M.pl : Int) + Int.ofNat 1 = ((bM o M.pl + 1 : Nat) : Int) := by simp
 simp only [aL, e, H.ix ho, H.ld ho]
theorem dCf (H : ML m M h) (n : Nat) (o : Int) (ho : bM o M.pl < M.n) : gH CF1 (n + 6) 35 [.p m 0, .i .i64 o] h = some (.i .i64 (M.t.get (bM o M.pl) % 4), h) := by
 rw [cA 35 rfl, cYn]
 simp only [t51, g0, g1, aL, iE, eG, H.l0, tJ H]
 rw [mU rfl (bRp _ _ _ _), Bool.and_self]
 simp only [cnd, aL, H.ix ho, H.ld ho, bXp]
theorem cZe (H : ML m M h) (n : Nat) (o : Int) (ho : bM o M.pl < M.n) : gH CF1 (n + 6) 69 [.p m 0, .i .i64 o] h = some (.i .i64 (M.t.get (bM o M.pl) / 4), h) := by
 rw [cA 69 rfl, dCu]
 simp only [t52, g0, g1, aL, iE, eG, H.l0, tJ H]
 rw [mU rfl (bRp _ _ _ _), Bool.and_self]
 simp only [cnd, aL, H.ix ho, H.ld ho, bUf]
end
end Go.Dd

namespace Go.Dd
section
variable {m : Pos} {M : MemV} {h : Hp}
theorem bGk (H : ML m M h) {o i : Int} {bad : Nat → aG} {k : Nat → Nat → aG} {r : DV × Hp} (hf : gR M o i bad k = some r) :
  (∃ e : Nat, e ≠ 0 ∧ bad e = some r ∧ ∀ n, gH CF1 (n + 7) 34 [.p m 0, .i .i64 o, .i .i64 i] h = some (.t [.i .i64 (Int.ofNat 0), .i .i64 (Int.ofNat e)], h)) ∨
  (∃ hd a : Nat, bM o M.pl ≠ 0 ∧ a < M.n ∧ bM o M.pl + 1 < M.n ∧ M.t.get (bM o M.pl) = Int.ofNat hd ∧ k hd a = some r ∧ ∀ n, gH CF1 (n + 7) 34 [.p m 0, .i .i64 o, .i .i64 i] h = some (.t [.i .i64 (a : Int), .i .i64 (Int.ofNat 0)], h)) := by
 have hn := H.n_lt
 unfold gR at hf
 rw [qX] at hf
 by_cases h0 : bM o M.pl = 0
 ·simp only [h0, decide_true, cond_true] at hf
  refine .inl ⟨1, by omega, hf, fun n => ?_⟩
  rw [cA 34 rfl, aGw]
  simp only [bBd, g0, g1, g2, tJ H, aL, bI, h0]
  rfl
 ·simp only [h0, decide_false, cond_false] at hf
  have e0 : ((bM o M.pl : Int) == Int.ofNat 0) = false := by simpa using h0
  cases i with
  | negSucc i =>
   refine .inl ⟨5, by omega, hf, fun n => ?_⟩
   rw [cA 34 rfl, aGw]
   have hlt : decide (Int.negSucc i < Int.ofNat 0) = true := decide_eq_true (Int.negSucc_lt_zero i)
   simp only [bBd, g0, g1, g2, tJ H, aL, bI, e0, aV, bJ, hlt, fJ, bL, aZ]
  | ofNat i =>
   dsimp only at hf
   obtain ⟨h1, hd, h2, h3, h4⟩ := uG hf
   rw [jN] at h4
   have hlt : decide (Int.ofNat i < Int.ofNat 0) = false := by simp
   have h52 := fun n => cZe H n o (show bM o M.pl < M.n by omega)
   rw [h2] at h52
   by_cases hi : Nat.div hd 4 ≤ i
   ·simp only [hi, decide_true, cond_true] at h4
    refine .inl ⟨5, by omega, h4, fun n => ?_⟩
    rw [cA 34 rfl, aGw]
    have hge : decide (Int.ofNat i ≥ Int.ofNat hd / 4) = true := by
     have : hd / 4 ≤ i := hi
     simp only [decide_eq_true_eq, Int.ofNat_eq_natCast]
     omega
    simp only [bBd, g0, g1, g2, tJ H, aL, bI, e0, aV, bJ, hlt, fX, h52, jM, hge, bN, aZ]
   ·simp only [hi, decide_false, cond_false] at h4
    rw [gF] at h4
    by_cases ha : Nat.add (Nat.add (bM o M.pl) 3) i < M.n
    ·simp only [ha, decide_true, cond_true] at h4
     have ha' : bM o M.pl + 3 + i < M.n := ha
     refine .inr ⟨hd, _, h0, ha, h1, h2, h4, fun n => ?_⟩
     rw [cA 34 rfl, aGw]
     have hge : decide (Int.ofNat i ≥ Int.ofNat hd / 4) = false := by
      have : ¬ hd / 4 ≤ i := hi
      simp only [decide_eq_false_iff_not, Int.ofNat_eq_natCast]
      omega
     simp only [bBd, g0, g1, g2, tJ H, aL, bI, e0, aV, bJ, hlt, fX, h52, jM, hge, bN]
     rw [jO _ _ _ (by simp only [Int.ofNat_eq_natCast]; omega)]
     simp only [aL]
     rw [jO _ _ _ (by simp only [Int.ofNat_eq_natCast]; omega)]
     simp only [aL]
     congr 4
    ·simp only [ha, decide_false, cond_false] at h4
     cases h4
theorem bPl (a b : DV) (h : Hp) : aC 0 (.t [a, b]) h = some (a, h) := Eq.trans rfl rfl
theorem bKg (a b : DV) (h : Hp) : aC 1 (.t [a, b]) h = some (b, h) := Eq.trans rfl rfl
theorem cHr {e : Nat} (he : e ≠ 0) : (Int.ofNat e != Int.ofNat 0) = true := by
 simpa using he
theorem ML.put (H : ML m M h) {a : Nat} (ha : a < M.n) (w : Int) : aI 1 (.p M.wb a) (.i .i64 w) h = some (aR, ⟨h.next, Tr.set (.row .ex (iJ M.n (M.t.set a w))) M.wb h.bl⟩) := by
 have hput : ∀ (n : Nat) (l : List DV) (x : DV), (∀ v ∈ l, v.one = true) → x.one = true → n < l.length → fI n l [x] = some (l.set n x) := by
  intro n
  induction n with
  | zero =>
   intro l x hl hx hlt
   cases l with
   | nil => simp at hlt
   | cons y l =>
    have hp : jV l [] = some l := by cases l <;> rfl
    simp [fI, jV, hl y (by simp), hx, hp]
  | succ n ih =>
   intro l x hl hx hlt
   cases l with
   | nil => simp at hlt
   | cons y l =>
    simp only [fI, List.set_cons_succ]
    rw [ih l x (fun v hv => hl v (by simp [hv])) hx (by simpa using hlt)]
    rfl
 have hb : ∀ v ∈ iJ M.n M.t, v.one = true := by
  intro v hv
  simp only [iJ, List.mem_map] at hv
  obtain ⟨i, _, rfl⟩ := hv
  rfl
 have hlen : (iJ M.n M.t).length = M.n := by simp [iJ]
 have hset : (iJ M.n M.t).set a (.i .i64 w) = iJ M.n (M.t.set a w) := by
  apply List.ext_getElem?
  intro i
  rw [List.getElem?_set]
  by_cases hi : i < M.n
  ·rw [lV hi, lV hi, WT.get_set M.t a w i (by have := H.n_lt; omega)]
   by_cases e : a = i
   ·subst e
    simp [hlen, hi]
   ·rw [if_neg e, if_neg (by omega)]
  ·have h1 : (iJ M.n M.t)[i]? = none := List.getElem?_eq_none (by omega)
   have h2 : (iJ M.n (M.t.set a w))[i]? = none := List.getElem?_eq_none (by simp [iJ]; omega)
   rw [h2]
   split
   ·rename_i e; subst e; rw [if_neg (by omega)]
   ·exact h1
 simp only [aI, cT, List.length_singleton, if_true, cV, H.words, Kind.writable]
 rw [hput a _ _ hb rfl (by omega), hset]
theorem dFn (H : ML m M h) {o i : Int} {k : Nat → aG} {kk : Nat → Nat → aG} {r : DV × Hp} (hf : gR M o i k kk = some r) :
  (∃ e : Nat, k e = some r ∧ ∀ n, gH CF1 (n + 8) 83 [.p m 0, .i .i64 o, .i .i64 i] h = some (.t [.i .i64 (Int.ofNat 0), .i .i64 (Int.ofNat e)], h)) ∨
  (∃ hd a : Nat, kk hd a = some r ∧ ∀ n, gH CF1 (n + 8) 83 [.p m 0, .i .i64 o, .i .i64 i] h = some (.t [.i .i64 (M.t.get a), .i .i64 (Int.ofNat 0)], h)) := by
 rcases bGk H hf with ⟨e, he, h1, h2⟩ | ⟨hd, a, h0, h1, h2, h3, h4, h5⟩
 ·refine .inl ⟨e, h1, fun n => ?_⟩
  rw [cA 83 rfl, cIm]
  simp only [t73, g0, g1, g2, h2, aL, bPl, bKg, jJ, cHr he, aZ]
 ·refine .inr ⟨hd, a, h4, fun n => ?_⟩
  rw [cA 83 rfl, cIm]
  have e0 : (Int.ofNat 0 != Int.ofNat 0) = false := rfl
  simp only [t73, g0, g1, g2, h5, aL, bPl, bKg, jJ, e0, aV, iE, eG, H.l0, H.ix h1, H.ld h1]
end
theorem eX {args : List DV} {h : Hp} {k : MemV → List DV → aG} {r : DV × Hp} (hr : iS args h k = some r) :
  ∃ m rest M, args = .p m 0 :: rest ∧ mV m h = some M ∧ k M rest = some r := by
 unfold iS at hr
 split at hr <;> (try (cases hr; done))
 rename_i m rest
 split at hr <;> (try (cases hr; done))
 rename_i M hM
 exact ⟨m, rest, M, rfl, hM, hr⟩
theorem cKr (n : Nat) (args : List DV) : SimP false (isF args) (gH CF1 (n + 12) 30 args) := fun h h' S v k e => by
 obtain ⟨m, rest, M, rfl, hM, e⟩ := eX e
 split at e <;> (try (cases e; done))
 simp only [bC, bO] at e
 obtain ⟨rfl, rfl⟩ := e
 exact ⟨h', cAk (fV hM S) (n + 8) _, S⟩
theorem cAt (n : Nat) (args : List DV) : SimP false (aEb args) (gH CF1 (n + 12) 15 args) := fun h h' S v k e => by
 obtain ⟨m, rest, M, rfl, hM, e⟩ := eX e
 split at e <;> (try (cases e; done))
 simp only [bC, bO] at e
 obtain ⟨rfl, rfl⟩ := e
 exact ⟨h', dDs (fV hM S) (n + 7) _, S⟩
theorem bRr (n : Nat) (args : List DV) : SimP false (aKq args) (gH CF1 (n + 12) 76 args) := fun h h' S v k e => by
 obtain ⟨m, rest, M, rfl, hM, e⟩ := eX e
 split at e <;> (try (cases e; done))
 simp only [bC, bO] at e
 obtain ⟨rfl, rfl⟩ := e
 exact ⟨h', dFs (fV hM S) (n + 11), S⟩
theorem bPa (n : Nat) (args : List DV) : SimP false (aAu args) (gH CF1 (n + 12) 18 args) := fun h h' S v k e => by
 obtain ⟨m, rest, M, rfl, hM, e⟩ := eX e
 split at e <;> (try (cases e; done))
 simp only [bC, bO] at e
 obtain ⟨rfl, rfl⟩ := e
 exact ⟨h', cZc (fV hM S) (n + 11), S⟩
theorem bAc (n : Nat) (args : List DV) : SimP false (jL args) (gH CF1 (n + 12) 80 args) := fun h h' S v k e => by
 obtain ⟨m, rest, M, rfl, hM, e⟩ := eX e
 split at e <;> (try (cases e; done))
 obtain ⟨h1, hd, h2, h3, e⟩ := uG e
 simp only [bC, bO] at e
 obtain ⟨rfl, rfl⟩ := e
 exact ⟨h', dJp (fV hM S) (n + 6) _ h1, S⟩
theorem aQf (n : Nat) (args : List DV) : SimP false (iW args) (gH CF1 (n + 12) 35 args) := fun h h' S v k e => by
 obtain ⟨m, rest, M, rfl, hM, e⟩ := eX e
 split at e <;> (try (cases e; done))
 obtain ⟨h1, hd, h2, h3, e⟩ := uG e
 simp only [bC, bO] at e
 obtain ⟨rfl, rfl⟩ := e
 refine ⟨h', ?_, S⟩
 rw [dCf (fV hM S) (n + 6) _ (by omega), h2]
 rfl
theorem aNd (n : Nat) (args : List DV) : SimP false (hZ args) (gH CF1 (n + 12) 69 args) := fun h h' S v k e => by
 obtain ⟨m, rest, M, rfl, hM, e⟩ := eX e
 split at e <;> (try (cases e; done))
 obtain ⟨h1, hd, h2, h3, e⟩ := uG e
 simp only [bC, bO] at e
 obtain ⟨rfl, rfl⟩ := e
 refine ⟨h', ?_, S⟩
 rw [cZe (fV hM S) (n + 6) _ (by omega), h2]
 rfl
theorem cGy (n : Nat) (args : List DV) : SimP false (sZ args) (gH CF1 (n + 12) 83 args) := fun h h' S v k e => by
 obtain ⟨m, rest, M, rfl, hM, e⟩ := eX e
 split at e <;> (try (cases e; done))
 rename_i o i
 rcases dFn (fV hM S) e with ⟨er, e1, e2⟩ | ⟨hd, a, e1, e2⟩
 ·simp only [err, bC, bO] at e1
  obtain ⟨rfl, rfl⟩ := e1
  exact ⟨h', e2 (n + 4), S⟩
 ·simp only [bC, bO] at e1
  obtain ⟨rfl, rfl⟩ := e1
  exact ⟨h', e2 (n + 4), S⟩
theorem aKd (n : Nat) (args : List DV) : SimP false (eW args) (gH CF1 (n + 12) 29 args) := fun h h' S v k e => by
 unfold eW at e
 split at e <;> (try (cases e; done))
 simp only [bC, bO] at e
 obtain ⟨rfl, rfl⟩ := e
 exact ⟨h', cPt (n + 10) _ h', S⟩
theorem bCx (n : Nat) (args : List DV) : SimP false (kH args) (gH CF1 (n + 12) 74 args) := fun h h' S v k e => by
 unfold kH at e
 split at e <;> (try (cases e; done))
 rename_i w
 have hc := dGe (n + 9) w h'
 cases hs : cU w with
 | true =>
  rw [hs] at e hc
  simp only [cond_true, bC, bO] at e
  obtain ⟨rfl, rfl⟩ := e
  exact ⟨h', by rw [hc, oI]; rfl, S⟩
 | false =>
  rw [hs] at e hc
  simp only [cond_false, bC, bO] at e
  obtain ⟨rfl, rfl⟩ := e
  exact ⟨h', by rw [hc]; rfl, S⟩
theorem bBe (n : Nat) (args : List DV) : SimP false (iG args) (gH CF1 (n + 12) 58 args) := fun h h' S v k e => by
 unfold iG at e
 split at e <;> (try (cases e; done))
 ·rename_i w
  have hc := dAx (n + 10) (Int.ofNat w) h'
  rw [gF] at e
  by_cases hw : w < 1073741824
  ·simp only [hw, decide_true, cond_true, bC, bO] at e
   obtain ⟨rfl, rfl⟩ := e
   rw [if_pos (by simp only [Int.ofNat_eq_natCast]; omega)] at hc
   refine ⟨h', ?_, S⟩
   rw [hc]
   have : 2 * Int.ofNat w + 1 = Int.ofNat (Nat.succ (Nat.mul w 2)) := by
    have : Nat.mul w 2 = w * 2 := rfl
    rw [this]
    simp only [Int.ofNat_eq_natCast]; omega
   rw [this]
  ·simp only [hw, decide_false, cond_false, bC, bO] at e
   obtain ⟨rfl, rfl⟩ := e
   rw [if_neg (by simp only [Int.ofNat_eq_natCast]; omega)] at hc
   exact ⟨h', by rw [hc]; rfl, S⟩
 ·rename_i w
  have hc := dAx (n + 10) (Int.negSucc w) h'
  rw [gF] at e
  by_cases hw : w < 1073741824
  ·simp only [hw, decide_true, cond_true, bC, bO] at e
   obtain ⟨rfl, rfl⟩ := e
   rw [if_pos (by omega)] at hc
   refine ⟨h', ?_, S⟩
   rw [hc]
   have : 2 * Int.negSucc w + 1 = Int.negSucc (Nat.mul w 2) := by
    have : Nat.mul w 2 = w * 2 := rfl
    rw [this]; omega
   rw [this]
  ·simp only [hw, decide_false, cond_false, bC, bO] at e
   obtain ⟨rfl, rfl⟩ := e
   rw [if_neg (by omega)] at hc
   exact ⟨h', by rw [hc]; rfl, S⟩
end Go.Dd

namespace Go.Dd
def Oth (m wb pb : Pos) (h h1 : Hp) : Prop := h1.next = h.next ∧ ∀ b, b ≠ m → b ≠ wb → b ≠ pb → h1.bl.get b = h.bl.get b
theorem Oth.refl (m wb pb : Pos) (h : Hp) : Oth m wb pb h h := ⟨rfl, fun _ _ _ _ => rfl⟩
theorem Oth.trans {m wb pb : Pos} {a b c : Hp} (h : Oth m wb pb a b) (k : Oth m wb pb b c) : Oth m wb pb a c := ⟨k.1.trans h.1, fun x h1 h2 h3 => (k.2 x h1 h2 h3).trans (h.2 x h1 h2 h3)⟩
section
variable {m : Pos} {M : MemV} {h : Hp}
def bDv (M : MemV) : Ob := .row .ex [.l M.wb 0 M.n M.n, .i .i64 (Int.ofNat M.fin), .i .i64 (Int.ofNat M.made), .m M.pb]
theorem ML.setM (H : ML m M h) (M' : MemV) (e1 : M'.wb = M.wb) (e2 : M'.pb = M.pb) (e3 : M'.n = M.n) (e4 : M'.t = M.t) (e5 : M'.pl = M.pl) (h1 : M'.fin ≤ M.n) (h2 : M'.made < 2000000) :
  ML m M' ⟨h.next, Tr.set (bDv M') m h.bl⟩ ∧ Oth m M.wb M.pb h ⟨h.next, Tr.set (bDv M') m h.bl⟩ := by
 refine ⟨⟨by rw [dKc]; rfl, ?_, ?_, by rw [e3]; exact H.n_lt, by rw [e3]; exact h1, h2, by rw [e1]; exact H.d1, by rw [e2]; exact H.d2, by rw [e1, e2]; exact H.d3⟩, rfl, fun b h1 _ _ => dKb _ _ _ _ h1⟩
 ·rw [e1, e3, e4, dKb _ _ _ _ (Ne.symm H.d1)]; exact H.words
 ·rw [e2, e5, dKb _ _ _ _ (Ne.symm H.d2)]; exact H.places
theorem ML.st1 (H : ML m M h) {x : Nat} (hx : x ≤ M.n) : ∃ h1, aI 1 (.p m (0 + 1)) (.i .i64 (Int.ofNat x)) h = some (aR, h1) ∧ ML m { M with fin := x } h1 ∧ Oth m M.wb M.pb h h1 := by
 obtain ⟨a, b⟩ := H.setM { M with fin := x } rfl rfl rfl rfl rfl hx H.made_lt
 exact ⟨_, by simp [aI, cT, cV, H.row, Kind.writable, fI, jV, DV.one, bDv], a, b⟩
theorem ML.st2 (H : ML m M h) {x : Nat} (hx : x < 2000000) : ∃ h1, aI 1 (.p m (0 + 2)) (.i .i64 (Int.ofNat x)) h = some (aR, h1) ∧ ML m { M with made := x } h1 ∧ Oth m M.wb M.pb h h1 := by
 obtain ⟨a, b⟩ := H.setM { M with made := x } rfl rfl rfl rfl rfl H.fin_le hx
 exact ⟨_, by simp [aI, cT, cV, H.row, Kind.writable, fI, jV, DV.one, bDv], a, b⟩
theorem ML.setW (H : ML m M h) (t : WT) : ML m { M with t := t } ⟨h.next, Tr.set (.row .ex (iJ M.n t)) M.wb h.bl⟩ ∧ Oth m M.wb M.pb h ⟨h.next, Tr.set (.row .ex (iJ M.n t)) M.wb h.bl⟩ := by
 refine ⟨⟨?_, by rw [dKc], ?_, H.n_lt, H.fin_le, H.made_lt, H.d1, H.d2, H.d3⟩, rfl, fun b _ h1 _ => dKb _ _ _ _ h1⟩
 ·rw [dKb _ _ _ _ H.d1]; exact H.row
 ·rw [dKb _ _ _ _ (Ne.symm H.d3)]; exact H.places
theorem ML.put' (H : ML m M h) {a : Nat} (ha : a < M.n) (w : Int) : ∃ h1, aI 1 (.p M.wb a) (.i .i64 w) h = some (aR, h1) ∧ ML m { M with t := M.t.set a w } h1 ∧ Oth m M.wb M.pb h h1 :=
 ⟨_, H.put ha w, (H.setW _).1, (H.setW _).2⟩
theorem bCr {a : Int} {es : List (DV × DV)} : ∀ (b : Int) {r r' : Option DV}, dL (.int .i64) (.i .i64 a) es = some r → dL (.int .i64) (.i .i64 b) es = some r' →
  dL (.int .i64) (.i .i64 b) (rR (.int .i64) (.i .i64 a) (.b true) es) = some (if b = a then some (.b true) else r') := by
 induction es with
 | nil =>
  intro b r r' h1 h2
  simp only [dL, bC] at h2
  subst h2
  simp only [rR, dL, oR, if_true]
  by_cases e : b = a
  ·simp [e]
  ·have : (b == a) = false := by simpa using e
   simp [e, this]
 | cons e es ih =>
  intro b r r' h1 h2
  simp only [dL] at h1 h2
  have hk : ∃ c, e.1 = .i .i64 c := by
   obtain ⟨x, y⟩ := e
   cases x <;> simp [oR] at h1
   rename_i k c
   cases k <;> simp at h1
   exact ⟨c, rfl⟩
  obtain ⟨c, hc⟩ := hk
  simp only [hc, oR, if_true] at h1 h2
  simp only [rR, hc, oR, if_true]
  by_cases hac : a = c
  ·subst hac
   simp only [beq_self_eq_true] at h1 ⊢
   simp only [dL, oR, if_true]
   by_cases hba : b = a
   ·subst hba; simp
   ·have : (b == a) = false := by simpa using hba
    simp only [this] at h2 ⊢
    rw [h2]; simp [hba]
  ·have hac' : (a == c) = false := by simpa using hac
   simp only [hac'] at h1 ⊢
   simp only [dL, hc, oR, if_true]
   by_cases hbc : b = c
   ·subst hbc
    simp only [beq_self_eq_true, bC] at h2 ⊢
    rw [if_neg (fun e => hac e.symm), h2]
   ·have hbc' : (b == c) = false := by simpa using hbc
    simp only [hbc'] at h2 ⊢
    exact ih b h1 h2
theorem ML.place (H : ML m M h) {a : Nat} (ha : a < 16000000) : ∃ h1, gP (.int .i64) (.m M.pb) (.i .i64 (a : Int)) (.b true) h = some (aR, h1) ∧ ML m { M with pl := M.pl.set a 1 } h1 ∧ Oth m M.wb M.pb h h1 := by
 obtain ⟨es, h1, h2⟩ := H.places
 refine ⟨⟨h.next, Tr.set (.mp (rR (.int .i64) (.i .i64 (a : Int)) (.b true) es)) M.pb h.bl⟩, by simp [gP, h1, h2 a], ⟨?_, ?_, ⟨_, by rw [dKc], fun b => ?_⟩, H.n_lt, H.fin_le, H.made_lt, H.d1, H.d2, H.d3⟩, rfl, fun b _ _ h1 => dKb _ _ _ _ h1⟩
 ·rw [dKb _ _ _ _ H.d2]; exact H.row
 ·rw [dKb _ _ _ _ H.d3]; exact H.words
 ·rw [bCr b (h2 a) (h2 b)]
  congr 1
  by_cases e : b = (a : Int)
  ·subst e
   simp [WT.get_set _ _ _ _ ha]
  ·rw [if_neg e]
   by_cases hb : 0 ≤ b
   ·have : b.toNat ≠ a := by omega
    rw [WT.get_set _ _ _ _ ha, if_neg this]
   ·simp [hb]
theorem bUk {h' h1 : Hp} {M' : MemV} (S : Sim false h h') (hM : mV m h = some M) (H1 : ML m M' h1) (e1 : M'.wb = M.wb) (e2 : M'.pb = M.pb) (e3 : M'.n = M.n) (O : Oth m M.wb M.pb h' h1) :
  Sim false ⟨h.next, Tr.set (bDv M') m (Tr.set (.mi M'.pl) M.pb (Tr.set (.big M.n M'.t) M.wb h.bl))⟩ h1 := by
 have H := fV hM S
 refine ⟨O.1.trans S.next, fun b o hb => ?_⟩
 by_cases b1 : b = m
 ·subst b1
  simp only [dKc, bC] at hb
  subst hb
  exact ⟨_, H1.row, rfl⟩
 ·simp only [dKb _ _ _ _ b1] at hb
  by_cases b2 : b = M.pb
  ·subst b2
   simp only [dKc, bC] at hb
   subst hb
   obtain ⟨es, p1, p2⟩ := H1.places
   rw [e2] at p1
   exact ⟨_, p1, by simp only [vK]; exact ⟨es, rfl, p2⟩⟩
  ·simp only [dKb _ _ _ _ b2] at hb
   by_cases b3 : b = M.wb
   ·subst b3
    simp only [dKc, bC] at hb
    subst hb
    have := H1.words
    rw [e1, e3] at this
    exact ⟨_, this, by simp [vK]⟩
   ·simp only [dKb _ _ _ _ b3] at hb
    rw [O.2 b b1 b3 b2]
    exact S.get b o hb
theorem bAa {h' h1 : Hp} {t : WT} (S : Sim false h h') (hM : mV m h = some M) (H1 : ML m { M with t := t } h1) (O : Oth m M.wb M.pb h' h1) (hm : h1.bl.get m = h'.bl.get m) (hp : h1.bl.get M.pb = h'.bl.get M.pb) :
  Sim false ⟨h.next, Tr.set (.big M.n t) M.wb h.bl⟩ h1 := by
 refine ⟨O.1.trans S.next, fun b o hb => ?_⟩
 by_cases b3 : b = M.wb
 ·subst b3
  simp only [dKc, bC] at hb
  subst hb
  exact ⟨_, H1.words, by simp [vK]⟩
 ·simp only [dKb _ _ _ _ b3] at hb
  by_cases b1 : b = m
  ·subst b1; rw [hm]; exact S.get _ o hb
  ·by_cases b2 : b = M.pb
   ·subst b2; rw [hp]; exact S.get _ o hb
   ·rw [O.2 b b1 b3 b2]
    exact S.get b o hb
end
theorem aLq {m : Pos} {M : MemV} {h h' : Hp} (S : Sim false h h') (hM : mV m h = some M) {a : Nat} (ha : a < M.n) (w : Int) {v : DV} {k : Hp} (hp : nB M a w h = some (v, k)) :
  v = .i .i64 (Int.ofNat 0) ∧ ∃ h1, aI 1 (.p M.wb a) (.i .i64 w) h' = some (aR, h1) ∧ Sim false k h1 := by
 have H := fV hM S
 simp only [nB, bC, bO] at hp
 obtain ⟨rfl, rfl⟩ := hp
 refine ⟨rfl, _, H.put ha w, bAa S hM (H.setW _).1 (H.setW _).2 ?_ ?_⟩
 ·exact dKb _ _ _ _ H.d1
 ·exact dKb _ _ _ _ (Ne.symm H.d3)
theorem cEm (n : Nat) (args : List DV) : SimP false (wX args) (gH CF1 (n + 12) 17 args) := fun h h' S v k e => by
 obtain ⟨m, rest, M, rfl, hM, e⟩ := eX e
 split at e <;> (try (cases e; done))
 rename_i o i w _
 have H := fV hM S
 rw [cA 17 rfl, cZh]
 simp only [t47, aSj, g0, g1, g2, g3]
 rcases bGk H e with ⟨er, he, e1, e2⟩ | ⟨hd, a, h0, h1, h2, h3, e1, e2⟩
 ·simp only [bC, bO] at e1
  obtain ⟨rfl, rfl⟩ := e1
  refine ⟨h', ?_, S⟩
  simp only [e2 (n + 4), aL, bPl, bKg, aLg, jJ, cHr he, aZ]
 ·have e0 : (Int.ofNat 0 != Int.ofNat 0) = false := rfl
  have h51 := dCf H (n + 5) o (show bM o M.pl < M.n by omega)
  rw [h3] at h51
  simp only [e2 (n + 4), aL, bPl, bKg, aLg, jJ, e0, aV, aTs, h51, bI]
  have hmod : Int.ofNat hd % 4 = Int.ofNat (Nat.mod hd 4) := rfl
  have h4 : tH (gH CF1 (n + 11)) (n + 11) (.p m 0) (.i .i64 w) (.i .i64 (a : Int)) h' = bnd (aI 1 (.p M.wb a) (.i .i64 w) h') fun _ h5 => some (.i .i64 (Int.ofNat 0), h5) := by
   simp only [tH, iE, eG, aL, H.l0, H.ix h1]
  have hput : nB M a w h = some (v, k) → ∃ h1, tH (gH CF1 (n + 11)) (n + 11) (.p m 0) (.i .i64 w) (.i .i64 (a : Int)) h' = some (v, h1) ∧ Sim false k h1 := by
   intro hp
   obtain ⟨rfl, h1', p1, p2⟩ := aLq S hM h1 w hp
   exact ⟨h1', by rw [h4, p1]; rfl, p2⟩
  rw [hmod]
  split at e1
  ·rename_i hz
   rw [hz]
   have : (Int.ofNat 0 == Int.ofNat 0) = true := rfl
   simp only [this, aZ, dDs H, aL, gT]
   cases hmay : dK w M.pl with
   | true =>
    rw [hmay] at e1
    simp only [cond_true] at e1
    simp only [Bool.not_true, aV]
    exact hput e1
   | false =>
    rw [hmay] at e1
    simp only [cond_false, bC, bO] at e1
    obtain ⟨rfl, rfl⟩ := e1
    exact ⟨h', rfl, S⟩
  ·rename_i hz
   rw [hz]
   have q0 : (Int.ofNat 2 == Int.ofNat 0) = false := rfl
   have q2 : (Int.ofNat 2 == Int.ofNat 2) = true := rfl
   simp only [q0, aV, aL, q2, aZ, bJ]
   cases w with
   | negSucc c =>
    simp only [bC, bO] at e1
    obtain ⟨rfl, rfl⟩ := e1
    have hlt : decide (Int.negSucc c < Int.ofNat 0) = true := decide_eq_true (Int.negSucc_lt_zero c)
    simp only [hlt, fJ, aL, bL, aZ]
    exact ⟨h', rfl, S⟩
   | ofNat c =>
    dsimp only at e1
    have hlt : decide (Int.ofNat c < Int.ofNat 0) = false := by simp
    simp only [hlt, fX, aL, bN, cM]
    rw [jN] at e1
    by_cases hc : c ≤ 255
    ·simp only [hc, decide_true, cond_true] at e1
     have hgt : decide (Int.ofNat c > Int.ofNat 255) = false := by
      simp only [decide_eq_false_iff_not, Int.ofNat_eq_natCast]; omega
     simp only [hgt, aV]
     exact hput e1
    ·simp only [hc, decide_false, cond_false, bC, bO] at e1
     obtain ⟨rfl, rfl⟩ := e1
     have hgt : decide (Int.ofNat c > Int.ofNat 255) = true := by
      simp only [decide_eq_true_eq, Int.ofNat_eq_natCast]; omega
     simp only [hgt, aZ]
     exact ⟨h', rfl, S⟩
  ·rename_i hz0 hz2
   have q0 : (Int.ofNat (Nat.mod hd 4) == Int.ofNat 0) = false := by
    simp only [beq_eq_false_iff_ne, ne_eq, Int.ofNat_eq_natCast]
    intro e; exact hz0 (by exact_mod_cast e)
   have q2 : (Int.ofNat (Nat.mod hd 4) == Int.ofNat 2) = false := by
    simp only [beq_eq_false_iff_ne, ne_eq, Int.ofNat_eq_natCast]
    intro e; exact hz2 (by exact_mod_cast e)
   simp only [q0, aV, aL, q2, aV]
   exact hput e1
theorem aFr (n : Nat) (args : List DV) : SimP false (lQ args) (gH CF1 (n + 12) 38 args) := fun h h' S v k e => by
 obtain ⟨m, rest, M, rfl, hM, e⟩ := eX e
 split at e <;> (try (cases e; done))
 rename_i o c _
 have H := fV hM S
 rw [cA 38 rfl, dCi]
 simp only [t44, g0, g1, g2, tJ H, aL, bI]
 rw [qX] at e
 by_cases h0 : bM o M.pl = 0
 ·simp only [h0, decide_true, Bool.true_or, cond_true, bC, bO] at e
  obtain ⟨rfl, rfl⟩ := e
  have : ((0 : Nat) : Int) = Int.ofNat 0 := rfl
  have q : (((bM o M.pl : Nat) : Int) == Int.ofNat 0) = true := by rw [h0]; rfl
  simp only [q, fJ, aL, bL, aZ]
  exact ⟨h', rfl, S⟩
 ·have q : (((bM o M.pl : Nat) : Int) == Int.ofNat 0) = false := by simpa using h0
  simp only [q, fX, aL, bN, cYe H, gT]
  cases hc : sS c M.pl with
  | false =>
   rw [hc] at e
   simp only [h0, decide_false, Bool.not_false, Bool.false_or, cond_true, bC, bO] at e
   obtain ⟨rfl, rfl⟩ := e
   simp only [Bool.not_false, aZ]
   exact ⟨h', rfl, S⟩
  | true =>
   rw [hc] at e
   simp only [h0, decide_false, Bool.not_true, Bool.false_or, cond_false] at e
   rw [gF] at e
   by_cases ha : Nat.add (bM o M.pl) 1 < M.n
   ·simp only [ha, decide_true, cond_true] at e
    have ha' : bM o M.pl + 1 < M.n := ha
    have hn := H.n_lt
    simp only [Bool.not_true, aV, iE, eG, aL, H.l0]
    rw [jO _ _ _ (by simp only [Int.ofNat_eq_natCast]; omega)]
    have ee : (bM o M.pl : Int) + Int.ofNat 1 = ((bM o M.pl + 1 : Nat) : Int) := by simp
    obtain ⟨rfl, h1', p1, p2⟩ := aLq S hM ha' c e
    simp only [aL, ee, H.ix ha', p1]
    exact ⟨h1', rfl, p2⟩
   ·simp only [ha, decide_false, cond_false] at e
    cases e
end Go.Dd

namespace Go.Dd
theorem cY (a b : Nat) (h : Hp) (hr : a + b < 4611686018427387904) : aD .add (.i .i64 (Int.ofNat a)) (.i .i64 (Int.ofNat b)) h = some (.i .i64 (Int.ofNat (a + b)), h) := by
 rw [jO _ _ _ (by simp only [Int.ofNat_eq_natCast]; omega)]
 rfl
theorem cVg (c f : Nat) (h : Hp) (hc : c ≤ 256) (hf : f ≤ 2) : aD .or (.i .i64 (4 * Int.ofNat c)) (.i .i64 (Int.ofNat f)) h = some (.i .i64 (Int.ofNat (c * 4 + f)), h) := by
 have hb : fD .or .i64 (4 * Int.ofNat c) (Int.ofNat f) = some (.i .i64 (Int.ofNat (c * 4 + f))) := by
  have := cOi c 2 f (by omega) (by omega)
  have e1 : ((c * 2 ^ 2 : Nat) : Int) = 4 * Int.ofNat c := by simp only [Int.ofNat_eq_natCast]; omega
  have e2 : ((c * 2 ^ 2 + f : Nat) : Int) = Int.ofNat (c * 4 + f) := rfl
  rw [e1, e2] at this
  rw [← this]; rfl
 simp only [aD, if_true, hb]
theorem oC (t : WT) : ∀ (c a j : Nat), a + c < 16000000 → (lT t c a).get j = if a ≤ j ∧ j < a + c then 0 else t.get j
 | 0, a, j, h => by rw [if_neg (by omega)]; rfl
 | c + 1, a, j, h => by
  have e : lT t (c + 1) a = (lT t c (a + 1)).set a (.ofNat 0) := rfl
  rw [e, WT.get_set _ _ _ _ (by omega), oC t c (a + 1) j (by omega)]
  by_cases h1 : j = a
  ·rw [if_pos h1, if_pos (by omega)]; rfl
  ·rw [if_neg h1]
   by_cases h2 : a + 1 ≤ j ∧ j < a + 1 + c
   ·rw [if_pos h2, if_pos (by omega)]
   ·rw [if_neg h2, if_neg (by omega)]
theorem aZp : ∀ (l vs : List DV), (∀ v ∈ l, v.one = true) → (∀ v ∈ vs, v.one = true) → vs.length ≤ l.length → ∃ l', jV l vs = some l'
 | l, [], _, _, _ => ⟨l, by cases l <;> rfl⟩
 | [], v :: vs, _, _, h => by simp at h
 | x :: l, v :: vs, h1, h2, h3 => by
  obtain ⟨l', e⟩ := aZp l vs (fun u hu => h1 u (by simp [hu])) (fun u hu => h2 u (by simp [hu])) (by simpa using h3)
  exact ⟨v :: l', by simp [jV, h1 x (by simp), h2 v (by simp), e]⟩
theorem aLb : ∀ (o : Nat) (l vs : List DV), (∀ v ∈ l, v.one = true) → (∀ v ∈ vs, v.one = true) → o + vs.length ≤ l.length → ∃ l', fI o l vs = some l'
 | 0, l, vs, h1, h2, h3 => by
  obtain ⟨l', e⟩ := aZp l vs h1 h2 (by omega)
  exact ⟨l', e⟩
 | o + 1, [], vs, h1, h2, h3 => by simp at h3
 | o + 1, x :: l, vs, h1, h2, h3 => by
  obtain ⟨l', e⟩ := aLb o l vs (fun u hu => h1 u (by simp [hu])) h2 (by simp at h3; omega)
  exact ⟨x :: l', by simp [fI, e]⟩
section
variable {m : Pos} {M : MemV} {h : Hp}
theorem bDl {n : Nat} {t : WT} : ∀ v ∈ iJ n t, v.one = true := by
 intro v hv
 simp only [iJ, List.mem_map] at hv
 obtain ⟨i, _, rfl⟩ := hv
 rfl
theorem ML.ix' (H : ML m M h) {a : Nat} (ha : a < M.n) : aF 1 (.l M.wb 0 M.n M.n) (.i .i64 (Int.ofNat a)) h = some (.p M.wb a, h) := H.ix ha
theorem zK (c : Nat) : (List.replicate c [DV.i .i64 (Int.ofNat 0)]).flatten = List.replicate c (.i .i64 (Int.ofNat 0)) := by
 induction c with
 | zero => rfl
 | succ c ih => simp [List.replicate_succ, ih]
theorem ML.clear (H : ML m M h) {a c : Nat} (hac : a + c ≤ M.n) : ∃ v h1, dC 1 (.l M.wb 0 M.n M.n) (some (.i .i64 (Int.ofNat a))) (some (.i .i64 (Int.ofNat (a + c)))) h = some (v, h) ∧
  kR [.i .i64 (Int.ofNat 0)] v h = some (.t [], h1) ∧ ML m { M with t := lT M.t c a } h1 ∧ Oth m M.wb M.pb h h1 := by
 have hn := H.n_lt
 have e1 : iL (.i .i64 (Int.ofNat (a + c))) M.n = some (a + c) := by
  have : (0 : Int) ≤ Int.ofNat (a + c) ∧ Int.ofNat (a + c) ≤ (M.n : Int) := by simp only [Int.ofNat_eq_natCast]; omega
  simp only [iL, this, and_self, if_true]
  rfl
 have e2 : iL (.i .i64 (Int.ofNat a)) (a + c) = some a := by
  have : (0 : Int) ≤ Int.ofNat a ∧ Int.ofNat a ≤ ((a + c : Nat) : Int) := by simp only [Int.ofNat_eq_natCast]; omega
  simp only [iL, this, and_self, if_true]
  rfl
 refine ⟨.l M.wb (if M.n = a then 0 else 0 + a * 1) (a + c - a) (M.n - a), ?_⟩
 have hs : dC 1 (.l M.wb 0 M.n M.n) (some (.i .i64 (Int.ofNat a))) (some (.i .i64 (Int.ofNat (a + c)))) h = some (.l M.wb (if M.n = a then 0 else 0 + a * 1) (a + c - a) (M.n - a), h) := by
  simp only [dC, hiD, loD, e1, e2, H.words]
 by_cases hc : c = 0
 ·subst hc
  refine ⟨h, hs, by simp [kR], H, Oth.refl _ _ _ _⟩
 ·obtain ⟨l', hl'⟩ := aLb a (iJ M.n M.t) (List.replicate c (.i .i64 (Int.ofNat 0))) bDl (fun v hv => by rw [List.eq_of_mem_replicate hv]; rfl) (by simp [iJ]; omega)
  obtain ⟨p1, p2, p3, p4, p5⟩ := mF _ _ _ _ hl'
  have hll : l' = iJ M.n (lT M.t c a) := by
   apply List.ext_getElem?
   intro j
   by_cases hj : j < M.n
   ·rw [lV hj, oC _ _ _ _ (by omega)]
    by_cases hin : a ≤ j ∧ j < a + c
    ·rw [if_pos hin]
     obtain ⟨q1, _⟩ := p4 (j - a) (.i .i64 (Int.ofNat 0)) (by rw [List.getElem?_replicate, if_pos (by omega)])
     rw [show a + (j - a) = j from by omega] at q1
     exact q1
    ·rw [if_neg hin, p5 j (by rw [List.length_replicate]; omega), lV hj]
   ·rw [List.getElem?_eq_none (by rw [p1]; simp [iJ]; omega), List.getElem?_eq_none (by simp [iJ]; omega)]
  refine ⟨⟨h.next, Tr.set (.row .ex (iJ M.n (lT M.t c a))) M.wb h.bl⟩, hs, ?_, (H.setW _).1, (H.setW _).2⟩
  have hna : M.n ≠ a := by omega
  rw [if_neg hna]
  simp only [kR, show a + c - a = c from by omega, hc, if_false, zK, cV, H.words, Kind.writable, if_true, Nat.zero_add, Nat.mul_one, hl', hll]
end
noncomputable def aTo (rec : FuncId → List DV → Hp → aG) (x0 x3 v26 : DV) (h0 : Hp) : aG :=
 bnd (bD x0 h0) fun v64 h64 =>
 bnd (aB 1 v64 h64) fun v65 h65 =>
 bnd (aA v65 h65) fun v66 h66 =>
 bnd (aD .add x3 (.i .i64 (Int.ofNat 3)) h66) fun v67 h67 =>
 bnd (aD .add v66 v67 h67) fun v68 h68 =>
 bnd (bD x0 h68) fun v69 h69 =>
 bnd (aB 1 v69 h69) fun v70 h70 =>
 bnd (aI 1 v70 v68 h70) fun _ h71 =>
 bnd (bD x0 h71) fun v72 h72 =>
 bnd (aB 3 v72 h72) fun v73 h73 =>
 bnd (aA v73 h73) fun v74 h74 =>
 bnd (gP (.int .i64) v74 v26 (.b true) h74) fun _ h75 =>
 bnd (rec 61 [v26] h75) fun v76 h76 =>
 bnd (aC 0 v76 h76) fun v77 h77 =>
 bnd (aC 1 v76 h77) fun v78 h78 =>
 some (.t [v77, (.i .i64 (Int.ofNat 0))], h78)
noncomputable def aTv (rec : FuncId → List DV → Hp → aG) (x0 x3 v26 : DV) (h0 : Hp) : aG :=
 bnd (bD x0 h0) fun v56 h56 =>
 bnd (aB 0 v56 h56) fun v57 h57 =>
 bnd (aA v57 h57) fun v58 h58 =>
 bnd (aD .add v26 (.i .i64 (Int.ofNat 3)) h58) fun v59 h59 =>
 bnd (aD .add v26 (.i .i64 (Int.ofNat 3)) h59) fun v60 h60 =>
 bnd (aD .add v60 x3 h60) fun v61 h61 =>
 bnd (dC 1 v58 (some v59) (some v61) h61) fun v62 h62 =>
 bnd (kR [(.i .i64 (Int.ofNat 0))] v62 h62) fun _ h63 =>
 aTo rec x0 x3 v26 h63
noncomputable def aRq (rec : FuncId → List DV → Hp → aG) (x0 x1 x2 x3 v26 : DV) (h0 : Hp) : aG :=
 bnd (bD x0 h0) fun v34 h34 =>
 bnd (aB 0 v34 h34) fun v35 h35 =>
 bnd (aA v35 h35) fun v36 h36 =>
 bnd (bD x0 h36) fun v37 h37 =>
 bnd (aB 0 v37 h37) fun v38 h38 =>
 bnd (aA v38 h38) fun v39 h39 =>
 bnd (aD .add v26 (.i .i64 (Int.ofNat 1)) h39) fun v40 h40 =>
 bnd (bD x0 h40) fun v41 h41 =>
 bnd (aB 0 v41 h41) fun v42 h42 =>
 bnd (aA v42 h42) fun v43 h43 =>
 bnd (aD .add v26 (.i .i64 (Int.ofNat 2)) h43) fun v44 h44 =>
 bnd (dO .shl x3 (.i .u64 (Int.ofNat 2)) h44) fun v45 h45 =>
 bnd (aD .or v45 x2 h45) fun v46 h46 =>
 bnd (bD x0 h46) fun v47 h47 =>
 bnd (aB 2 v47 h47) fun v48 h48 =>
 bnd (aA v48 h48) fun v49 h49 =>
 bnd (aF 1 v36 v26 h49) fun v50 h50 =>
 bnd (aI 1 v50 v46 h50) fun v51 h51 =>
 bnd (aF 1 v39 v40 h51) fun v52 h52 =>
 bnd (aI 1 v52 x1 h52) fun v53 h53 =>
 bnd (aF 1 v43 v44 h53) fun v54 h54 =>
 bnd (aI 1 v54 v49 h54) fun v55 h55 =>
 aTv rec x0 x3 v26 h55
noncomputable def aDo (rec : FuncId → List DV → Hp → aG) (x0 x1 x2 x3 : DV) (h0 : Hp) : aG :=
 bnd (bD x0 h0) fun v24 h24 =>
 bnd (aB 1 v24 h24) fun v25 h25 =>
 bnd (aA v25 h25) fun v26 h26 =>
 bnd (bD x0 h26) fun v27 h27 =>
 bnd (aB 2 v27 h27) fun v28 h28 =>
 bnd (aA v28 h28) fun v29 h29 =>
 bnd (aD .add v29 (.i .i64 (Int.ofNat 1)) h29) fun v30 h30 =>
 bnd (bD x0 h30) fun v31 h31 =>
 bnd (aB 2 v31 h31) fun v32 h32 =>
 bnd (aI 1 v32 v30 h32) fun _ h33 =>
 aRq rec x0 x1 x2 x3 v26 h33
theorem cTh (rec : FuncId → List DV → Hp → aG) (n : Nat) (x0 x1 x2 x3 : DV) (h0 : Hp) : t30 rec n x0 x1 x2 x3 h0 = (
 bnd (rec 60 [x0, x1] h0) fun v1 h1 =>
 bnd (jW .not v1 h1) fun v2 h2 =>
 bnd (gD v2 false (some (x2, h2)) h2) fun v3 h3 =>
 bnd (gD v2 false (aD .lss v3 (.i .i64 (Int.ofNat 0)) h3) h3) fun v4 h4 =>
 bnd (aQ v2 (.b true) v4 h4) fun v5 h5 =>
 bnd (gD v5 false (some (x2, h5)) h5) fun v6 h6 =>
 bnd (gD v5 false (aD .gtr v6 (.i .i64 (Int.ofNat 2)) h6) h6) fun v7 h7 =>
 bnd (aQ v5 (.b true) v7 h7) fun v8 h8 =>
 bnd (gD v8 false (some (x3, h8)) h8) fun v9 h9 =>
 bnd (gD v8 false (aD .lss v9 (.i .i64 (Int.ofNat 0)) h9) h9) fun v10 h10 =>
 bnd (aQ v8 (.b true) v10 h10) fun v11 h11 =>
 bnd (gD v11 false (some (x3, h11)) h11) fun v12 h12 =>
 bnd (gD v11 false (aD .gtr v12 (.i .i64 (Int.ofNat 256)) h12) h12) fun v13 h13 =>
 bnd (aQ v11 (.b true) v13 h13) fun v14 h14 =>
 aX v14 (
 some (.t [(.i .i64 (Int.ofNat 0)), (.i .i64 (Int.ofNat 1))], h14)) (
 bnd (rec 18 [x0] h14) fun v15 h15 =>
 bnd (aD .add x3 (.i .i64 (Int.ofNat 3)) h15) fun v16 h16 =>
 bnd (aD .lss v15 v16 h16) fun v17 h17 =>
 bnd (gD v17 false (some (x0, h17)) h17) fun v18 h18 =>
 bnd (gD v17 false (bD v18 h18) h18) fun v19 h19 =>
 bnd (gD v17 false (aB 2 v19 h19) h19) fun v20 h20 =>
 bnd (gD v17 false (aA v20 h20) h20) fun v21 h21 =>
 bnd (gD v17 false (aD .geq v21 (.i .i64 (Int.ofNat 1099511627776)) h21) h21) fun v22 h22 =>
 bnd (aQ v17 (.b true) v22 h22) fun v23 h23 =>
 aX v23 (
 some (.t [(.i .i64 (Int.ofNat 0)), (.i .i64 (Int.ofNat 4))], h23)) (
 aDo rec x0 x1 x2 x3 h23))) := rfl
section
variable {m : Pos} {M : MemV} {h : Hp}
theorem bRd (H : ML m M h) {c : Nat} (hr : M.fin + (c + 3) ≤ M.n) (ha : 3 ≤ M.fin ∧ M.fin ≤ 131072) (n : Nat) :
  ∃ h1, aTo (gH CF1 (n + 11)) (.p m 0) (.i .i64 (Int.ofNat c)) (.i .i64 (Int.ofNat M.fin)) h = some (.t [.i .i64 (Int.ofNat (Nat.mul M.fin 2)), .i .i64 (Int.ofNat 0)], h1) ∧
   ML m { M with fin := M.fin + (c + 3), pl := M.pl.set M.fin 1 } h1 ∧ Oth m M.wb M.pb h h1 := by
 have hn := H.n_lt
 simp only [aTo, iE, eG, aL, H.l1, cY c 3 _ (show c + 3 < 4611686018427387904 by omega), cY M.fin (c + 3) _ (show M.fin + (c + 3) < 4611686018427387904 by omega)]
 obtain ⟨h6, s6, H6, O6⟩ := H.st1 (x := M.fin + (c + 3)) hr
 simp only [s6, aL, H6.l3]
 obtain ⟨h7, s7, H7, O7⟩ := H6.place (a := M.fin) (by omega)
 rw [show gP (.int .i64) (.m M.pb) (.i .i64 (Int.ofNat M.fin)) (.b true) h6 = some (aR, h7) from s7]
 have hp : 3 ≤ Int.ofNat M.fin ∧ Int.ofNat M.fin ≤ 131072 := by simp only [Int.ofNat_eq_natCast]; omega
 have e2 : 2 * Int.ofNat M.fin = Int.ofNat (Nat.mul M.fin 2) := by
  have : Nat.mul M.fin 2 = M.fin * 2 := rfl
  rw [this]; simp only [Int.ofNat_eq_natCast]; omega
 have h75 := dGv (n + 9) (Int.ofNat M.fin) h7
 rw [if_pos hp, e2] at h75
 simp only [aL, h75, bPl, bKg]
 exact ⟨h7, rfl, H7, O6.trans O7⟩
theorem bIn (H : ML m M h) {c : Nat} (hr : M.fin + (c + 3) ≤ M.n) (n : Nat) :
  ∃ h1, aTv (gH CF1 (n + 11)) (.p m 0) (.i .i64 (Int.ofNat c)) (.i .i64 (Int.ofNat M.fin)) h = aTo (gH CF1 (n + 11)) (.p m 0) (.i .i64 (Int.ofNat c)) (.i .i64 (Int.ofNat M.fin)) h1 ∧
   ML m { M with t := lT M.t c (M.fin + 3) } h1 ∧ Oth m M.wb M.pb h h1 := by
 have hn := H.n_lt
 obtain ⟨vv, h5, s5, s5', H5, O5⟩ := H.clear (a := M.fin + 3) (c := c) (show M.fin + 3 + c ≤ M.n by omega)
 refine ⟨h5, ?_, H5, O5⟩
 simp only [aTv, iE, eG, aL, H.l0, cY M.fin 3 _ (show M.fin + 3 < 4611686018427387904 by omega), cY (M.fin + 3) c _ (show M.fin + 3 + c < 4611686018427387904 by omega), s5, s5']
theorem bFd (H : ML m M h) {cls : Int} {c f : Nat} (hcc : c ≤ 256) (hf : f ≤ 2) (hr : M.fin + (c + 3) ≤ M.n) (n : Nat) :
  ∃ h1, aRq (gH CF1 (n + 11)) (.p m 0) (.i .i64 cls) (.i .i64 (Int.ofNat f)) (.i .i64 (Int.ofNat c)) (.i .i64 (Int.ofNat M.fin)) h = aTv (gH CF1 (n + 11)) (.p m 0) (.i .i64 (Int.ofNat c)) (.i .i64 (Int.ofNat M.fin)) h1 ∧
   ML m { M with t := ((M.t.set M.fin (Int.ofNat (c * 4 + f))).set (M.fin + 1) cls).set (M.fin + 2) (Int.ofNat M.made) } h1 ∧ Oth m M.wb M.pb h h1 := by
 have hn := H.n_lt
 obtain ⟨h2, s2, H2, O2⟩ := H.put' (a := M.fin) (show M.fin < M.n by omega) (Int.ofNat (c * 4 + f))
 obtain ⟨h3, s3, H3, O3⟩ := H2.put' (a := M.fin + 1) (show M.fin + 1 < M.n by omega) cls
 obtain ⟨h4, s4, H4, O4⟩ := H3.put' (a := M.fin + 2) (show M.fin + 2 < M.n by omega) (Int.ofNat M.made)
 have i1 := H.ix' (a := M.fin) (by omega)
 have i2 : aF 1 (.l M.wb 0 M.n M.n) (.i .i64 (Int.ofNat (M.fin + 1))) h2 = some (.p M.wb (M.fin + 1), h2) := H2.ix' (a := M.fin + 1) (show M.fin + 1 < M.n by omega)
 have i3 : aF 1 (.l M.wb 0 M.n M.n) (.i .i64 (Int.ofNat (M.fin + 2))) h3 = some (.p M.wb (M.fin + 2), h3) := H3.ix' (a := M.fin + 2) (show M.fin + 2 < M.n by omega)
 have s3' : aI 1 (.p M.wb (M.fin + 1)) (.i .i64 cls) h2 = some (aR, h3) := s3
 have s4' : aI 1 (.p M.wb (M.fin + 2)) (.i .i64 (Int.ofNat M.made)) h3 = some (aR, h4) := s4
 refine ⟨h4, ?_, H4, (O2.trans O3).trans O4⟩
 simp only [aRq, iE, eG, aL, H.l0, H.l2, cY M.fin 1 _ (show M.fin + 1 < 4611686018427387904 by omega), cY M.fin 2 _ (show M.fin + 2 < 4611686018427387904 by omega),
  bUj (Int.ofNat c) _ (show -2305843009213693952 ≤ Int.ofNat c ∧ Int.ofNat c ≤ 2305843009213693951 by simp only [Int.ofNat_eq_natCast]; omega), cVg c f _ hcc hf, i1, s2, i2, s3', i3, s4']
end
theorem bCy {m : Pos} {M : MemV} {h h' : Hp} (S : Sim false h h') (hM : mV m h = some M) {cls : Int} {c f : Nat} (hcc : c ≤ 256) (hf : f ≤ 2) (hr : M.fin + (c + 3) ≤ M.n) (ha : 3 ≤ M.fin ∧ M.fin ≤ 131072) (n : Nat) :
  ∃ h1, aDo (gH CF1 (n + 11)) (.p m 0) (.i .i64 cls) (.i .i64 (Int.ofNat f)) (.i .i64 (Int.ofNat c)) h' = some (.t [.i .i64 (Int.ofNat (Nat.mul M.fin 2)), .i .i64 (Int.ofNat 0)], h1) ∧
   Sim false ⟨h.next, Tr.set (.row .ex [.l M.wb 0 M.n M.n, .i .i64 (Int.ofNat (M.fin + (c + 3))), .i .i64 (Int.ofNat (M.made + 1)), .m M.pb]) m
    (Tr.set (.mi (M.pl.set M.fin 1)) M.pb
     (Tr.set (.big M.n (lT (((M.t.set M.fin (Int.ofNat (c * 4 + f))).set (M.fin + 1) cls).set (M.fin + 2) (Int.ofNat (M.made + 1))) c (M.fin + 3))) M.wb h.bl))⟩ h1 := by
 have H := fV hM S
 have hmd : M.made < 1000000 := (sB hM).2.2.2.2.2
 obtain ⟨h1, s1, H1, O1⟩ := H.st2 (x := M.made + 1) (by omega)
 obtain ⟨h2, s2, H2, O2⟩ := bFd H1 (cls := cls) hcc hf hr n
 obtain ⟨h3, s3, H3, O3⟩ := bIn H2 hr n
 obtain ⟨h4, s4, H4, O4⟩ := bRd H3 hr ha n
 have e : aDo (gH CF1 (n + 11)) (.p m 0) (.i .i64 cls) (.i .i64 (Int.ofNat f)) (.i .i64 (Int.ofNat c)) h' = aRq (gH CF1 (n + 11)) (.p m 0) (.i .i64 cls) (.i .i64 (Int.ofNat f)) (.i .i64 (Int.ofNat c)) (.i .i64 (Int.ofNat M.fin)) h1 := by
  simp only [aDo, iE, eG, aL, H.l1, H.l2, cY M.made 1 _ (show M.made + 1 < 4611686018427387904 by omega), s1]
 refine ⟨h4, e.trans (s2.trans (s3.trans s4)), ?_⟩
 dsimp only at H4
 have H5 : ML m ⟨M.wb, M.n, M.fin + (c + 3), M.made + 1, M.pb, lT (((M.t.set M.fin (Int.ofNat (c * 4 + f))).set (M.fin + 1) cls).set (M.fin + 2) (Int.ofNat (M.made + 1))) c (M.fin + 3), M.pl.set M.fin 1⟩ h4 := H4
 exact bUk S hM H5 rfl rfl rfl (((O1.trans O2).trans O3).trans O4)
theorem bKt (n : Nat) (args : List DV) : SimP false (jQ args) (gH CF1 (n + 12) 25 args) := fun h h' S v k e => by
 unfold jQ at e
 split at e <;> (try (cases e; done))
 rename_i m cls fmt cnt
 split at e <;> (try (cases e; done))
 rename_i M hM
 have H := fV hM S
 have hn := H.n_lt
 have hfn := H.fin_le
 rw [cA 25 rfl, dBh, cTh]
 simp only [g0, g1, g2, g3, cYe H, aL, gT]
 have herr : ∀ er : Nat, err er h = some (v, k) → ∃ h1, (some (.t [.i .i64 (Int.ofNat 0), .i .i64 (Int.ofNat er)], h') : aG) = some (v, h1) ∧ Sim false k h1 := by
  intro er he
  simp only [err, bC, bO] at he
  obtain ⟨rfl, rfl⟩ := he
  exact ⟨h', rfl, S⟩
 cases hc : sS cls M.pl with
 | false =>
  rw [hc] at e
  simp only [Bool.not_false, cond_true] at e
  simp only [Bool.not_false, fJ, aL, bL, aZ]
  exact herr 1 e
 | true =>
  rw [hc] at e
  simp only [Bool.not_true, cond_false] at e
  simp only [Bool.not_true, fX, aL, bN, bJ]
  cases fmt with
  | negSucc f =>
   have hlt : decide (Int.negSucc f < Int.ofNat 0) = true := decide_eq_true (Int.negSucc_lt_zero f)
   simp only [hlt, fJ, aL, bL, aZ]
   exact herr 1 e
  | ofNat f =>
   have hlt : decide (Int.ofNat f < Int.ofNat 0) = false := by simp
   simp only [hlt, fX, aL, bN, cM]
   by_cases hf : f ≤ 2
   ·have hgt : decide (Int.ofNat f > Int.ofNat 2) = false := by simp only [decide_eq_false_iff_not, Int.ofNat_eq_natCast]; omega
    simp only [hgt, fX, aL, bN, bJ]
    cases cnt with
    | negSucc c =>
     have hlt : decide (Int.negSucc c < Int.ofNat 0) = true := decide_eq_true (Int.negSucc_lt_zero c)
     simp only [hlt, fJ, aL, bL, aZ]
     exact herr 1 e
    | ofNat c =>
     have hlt : decide (Int.ofNat c < Int.ofNat 0) = false := by simp
     simp only [hlt, fX, aL, bN, cM]
     dsimp only at e
     simp only [jN, gF, hf, decide_true, Bool.true_and] at e
     by_cases hcc : c ≤ 256
     ·have hgt : decide (Int.ofNat c > Int.ofNat 256) = false := by simp only [decide_eq_false_iff_not, Int.ofNat_eq_natCast]; omega
      simp only [hgt, aV, cZc H, aL, cY c 3 _ (by omega), bJ]
      simp only [hcc, decide_true, cond_true] at e
      have hsub : Nat.sub M.n M.fin = M.n - M.fin := rfl
      have hadd : Nat.add c 3 = c + 3 := rfl
      rw [hsub, hadd] at e
      by_cases hr : M.n - M.fin < c + 3
      ·simp only [hr, decide_true, cond_true] at e
       have hl : decide (Int.ofNat (M.n - M.fin) < Int.ofNat (c + 3)) = true := by simp only [decide_eq_true_eq, Int.ofNat_eq_natCast]; omega
       simp only [hl, fJ, aL, bL, aZ]
       exact herr 4 e
      ·simp only [hr, decide_false, cond_false] at e
       have hl : decide (Int.ofNat (M.n - M.fin) < Int.ofNat (c + 3)) = false := by simp only [decide_eq_false_iff_not, Int.ofNat_eq_natCast]; omega
       simp only [hl, fX, aL, bN, iE, eG, H.l2, jM]
       have hg : decide (Int.ofNat M.made ≥ Int.ofNat 1099511627776) = false := by
        have hmd : M.made < 1000000 := (sB hM).2.2.2.2.2
        simp only [decide_eq_false_iff_not, Int.ofNat_eq_natCast]; omega
       simp only [hg, aV]
       by_cases ha : 3 ≤ M.fin ∧ M.fin ≤ 131072
       ·simp only [ha.1, ha.2, decide_true, Bool.and_self, cond_true, bC, bO] at e
        obtain ⟨rfl, rfl⟩ := e
        exact bCy S hM hcc hf (by omega) ha n
       ·have : (decide (3 ≤ M.fin) && decide (M.fin ≤ 131072)) = false := by
         rw [← Bool.not_eq_true]
         simpa using ha
        rw [this] at e
        simp only [cond_false] at e
        cases e
     ·have hgt : decide (Int.ofNat c > Int.ofNat 256) = true := by simp only [decide_eq_true_eq, Int.ofNat_eq_natCast]; omega
      simp only [hcc, decide_false, cond_false] at e
      simp only [hgt, aZ]
      exact herr 1 e
   ·have hgt : decide (Int.ofNat f > Int.ofNat 2) = true := by simp only [decide_eq_true_eq, Int.ofNat_eq_natCast]; omega
    simp only [hgt, fJ, aL, bL, aZ]
    cases cnt with
    | negSucc c => exact herr 1 e
    | ofNat c =>
     dsimp only at e
     simp only [jN, hf, decide_false, Bool.false_and, cond_false] at e
     exact herr 1 e
theorem aNm (n : Nat) (args : List DV) : SimP false (aOi args) (gH CF1 (n + 12) 36 args) := fun h h' S v k e => by
 unfold aOi at e
 split at e <;> (try (cases e; done))
 ·rename_i w
  rw [cA 36 rfl, cIb]
  simp only [t41, g0, bJ, aL]
  simp only [gF] at e
  by_cases h1 : w < 16
  ·simp only [h1, decide_true, Bool.true_or, cond_true, bC, bO] at e
   obtain ⟨rfl, rfl⟩ := e
   have hl : decide (Int.ofNat w < Int.ofNat 16) = true := by simp only [decide_eq_true_eq, Int.ofNat_eq_natCast]; omega
   simp only [hl, fJ, aL, bL, aZ]
   exact ⟨h', rfl, S⟩
  ·have hl : decide (Int.ofNat w < Int.ofNat 16) = false := by simp only [decide_eq_false_iff_not, Int.ofNat_eq_natCast]; omega
   simp only [hl, fX, aL, bN, cM]
   by_cases h2 : 131072 < w
   ·simp only [h2, decide_true, Bool.or_true, cond_true, bC, bO] at e
    obtain ⟨rfl, rfl⟩ := e
    have hg : decide (Int.ofNat w > Int.ofNat 131072) = true := by simp only [decide_eq_true_eq, Int.ofNat_eq_natCast]; omega
    simp only [hg, aZ]
    exact ⟨h', rfl, S⟩
   ·simp only [h1, h2, decide_false, Bool.or_self, cond_false, bC, bO] at e
    obtain ⟨rfl, rfl⟩ := e
    have hg : decide (Int.ofNat w > Int.ofNat 131072) = false := by simp only [decide_eq_false_iff_not, Int.ofNat_eq_natCast]; omega
    simp only [hg, aV]
    have hms : cJ 1 8 [.i .i64 (Int.ofNat 0)] (.i .i64 (Int.ofNat w)) (.i .i64 (Int.ofNat w)) h' = some (.l h'.next 0 w w, ⟨h'.next.succ, Tr.set (.row .ex (iJ w .e)) h'.next h'.bl⟩) := by
     have hc : (0 : Int) ≤ Int.ofNat w ∧ Int.ofNat w ≤ Int.ofNat w ∧ (Int.ofNat w).toNat * 8 ≤ 2 ^ 30 ∧ (Int.ofNat w).toNat * 1 ≤ 2 ^ 24 ∧ Int.ofNat w < 2 ^ 32 := by
      have : (Int.ofNat w).toNat = w := rfl
      rw [this]
      simp only [Int.ofNat_eq_natCast]
      omega
     have hz : (List.replicate (Int.ofNat w).toNat [DV.i .i64 (Int.ofNat 0)]).flatten = iJ w .e := by
      have : (Int.ofNat w).toNat = w := rfl
      rw [this, zK]
      apply List.ext_getElem?
      intro j
      by_cases hj : j < w
      ·rw [lV hj, List.getElem?_replicate, if_pos hj]; rfl
      ·rw [List.getElem?_replicate, if_neg hj, List.getElem?_eq_none (by simp [iJ]; omega)]
     simp only [cJ, hc, and_self, if_true, hz]
     rfl
    simp only [hms, aL, eE]
    have hb : ∀ x y h, cI [.l0, .i .i64 (Int.ofNat 0), .i .i64 (Int.ofNat 0), .m0] [(0, 1, .l x 0 w w), (1, 1, .i .i64 (Int.ofNat 3)), (3, 1, .m y)] h = some (.a [.l x 0 w w, .i .i64 (Int.ofNat 3), .i .i64 (Int.ofNat 0), .m y], h) := fun x y h => rfl
    simp only [hb, aL, cB, cT, cF]
    have hnx := S.next
    refine ⟨_, by rw [hnx]; rfl, ?_⟩
    refine ⟨rfl, fun b o hb => ?_⟩
    show ∃ o', (Tr.set _ (cH 2 h.next) (Tr.set _ (cH 1 h.next) (Tr.set _ h.next h'.bl))).get b = some o' ∧ _
    by_cases b1 : b = cH 2 h.next
    ·subst b1
     simp only [dKc, bC] at hb ⊢
     subst hb
     exact ⟨_, rfl, rfl⟩
    ·simp only [dKb _ _ _ _ b1] at hb ⊢
     by_cases b2 : b = cH 1 h.next
     ·subst b2
      simp only [dKc, bC] at hb ⊢
      subst hb
      exact ⟨_, rfl, by simp only [vK]; exact ⟨[], rfl, fun a => by simp [dL, WT.get_e]⟩⟩
     ·simp only [dKb _ _ _ _ b2] at hb ⊢
      by_cases b3 : b = h.next
      ·subst b3
       simp only [dKc, bC] at hb ⊢
       subst hb
       exact ⟨_, rfl, by simp [vK]⟩
      ·simp only [dKb _ _ _ _ b3] at hb ⊢
       exact S.get b o hb
 ·rename_i w
  simp only [bC, bO] at e
  obtain ⟨rfl, rfl⟩ := e
  rw [cA 36 rfl, cIb]
  have hl : decide (Int.negSucc w < Int.ofNat 16) = true := by simp only [decide_eq_true_eq]; have := Int.negSucc_lt_zero w; simp only [Int.ofNat_eq_natCast]; omega
  simp only [t41, g0, bJ, aL, hl, fJ, bL, aZ]
  exact ⟨h', rfl, S⟩
end Go.Dd

namespace Go.Dd
theorem aFz {gg : Bool} (args : List DV) : SimP gg (lI args) (lI args) := fun h h' S v k e => by
 unfold lI at e ⊢
 split at e <;> (try (cases e; done))
 rename_i l c
 cases hc : Nat.blt c 256 with
 | false => rw [hc] at e; cases e
 | true =>
  rw [hc] at e
  simp only [cond_true, bC, bO] at e
  obtain ⟨rfl, rfl⟩ := e
  exact ⟨h', rfl, S⟩
theorem wF {gg : Bool} (args : List DV) : SimP gg (gV args) (gV args) := fun h h' S v k e => by
 unfold gV at e ⊢
 split at e <;> (try (cases e; done))
 rename_i s c new
 cases hc : Nat.blt c 256 with
 | false => rw [hc] at e; cases e
 | true =>
 rw [hc] at e
 cases hc2 : Nat.ble s.length 4000000000 with
 | false => rw [hc2] at e; cases e
 | true =>
 rw [hc2] at e
 cases hc3 : Nat.ble new.length 1000 with
 | false => rw [hc3] at e; cases e
 | true =>
  rw [hc3] at e
  simp only [cond_true, bC, bO] at e
  obtain ⟨rfl, rfl⟩ := e
  exact ⟨h', by simp only [hc3, cond_true], S⟩
theorem wO {gg : Bool} (args : List DV) : SimP gg (gU args) (gU args) := fun h h' S v k e => by
 unfold gU at e ⊢
 split at e <;> (try (cases e; done))
 rename_i n
 cases hc : (decide (-9223372036854775808 ≤ n) && decide (n ≤ 9223372036854775807)) with
 | false => rw [hc] at e; cases e
 | true =>
  rw [hc] at e
  simp only [cond_true, bC, bO] at e
  obtain ⟨rfl, rfl⟩ := e
  exact ⟨h', by simp only [hc, cond_true], S⟩
theorem aQe {gg : Bool} (q : Pos) (l1 : DV) (cs : List DV) : SimP gg (kT q l1 cs) (kT q l1 cs) := fun h h' S v k e => by
 unfold kT at e ⊢
 split at e <;> (try (cases e; done))
 ·simp only [bC, bO] at e ⊢
  obtain ⟨rfl, rfl⟩ := e
  exact ⟨_, ⟨by rw [S.next], rfl⟩, by rw [S.next]; exact S.setR _ _ _ _⟩
 ·rename_i b o len cap
  cases hc : (Nat.ble cap len && !(lW b q)) with
  | false => rw [hc] at e; cases e
  | true =>
   rw [hc] at e
   simp only [cnd] at e ⊢
   split at e <;> (try (cases e; done))
   rename_i es l old hb hold
   rw [S.row hb, S.cellsAt hold]
   dsimp only
   split at e <;> (try (cases e; done))
   rename_i hr
   rw [if_pos hr]
   simp only [bC, bO] at e ⊢
   obtain ⟨rfl, rfl⟩ := e
   refine ⟨_, ⟨by rw [S.next], rfl⟩, ?_⟩
   rw [S.next]
   exact (S.setR .sp (bU o l) b h.next).setR _ _ _ _
theorem aPg {gg : Bool} (c q : Pos) : SimP gg (rN c q) (rN c q) := by
 intro h h' S
 unfold rN
 refine dKj (lR _ h h' S) fun l1 _ _ _ => ?_
 refine dKj (dKf (nS l1) h h' S) fun n _ _ _ => ?_
 refine dKj (lN _ _ h h' S) fun x _ _ _ => ?_
 split
 ·refine dLa id ?_
  have S2 : Sim gg ⟨h.next.succ.succ, h.bl⟩ ⟨h'.next.succ.succ, h'.bl⟩ := ⟨by show h'.next.succ.succ = _; rw [S.next], S.get⟩
  refine dKj (aQe _ _ _ _ _ S2) fun l2 h3 h3' T3 => ?_
  exact dKj (lU _ _ _ h3 h3' T3) fun u h4 h4' T4 => SimR.some T4 _
 ·exact SimR.none _
theorem bVu {gg : Bool} (n : Nat) (f : FuncId) (args : List DV) : SimP gg (fnD CF0 n f args) (fnD CF0 n f args) :=
 bDu (gg := gg) (P := Go.Proofs.Tryz.prog) (I2 := fun _ => none) (I1 := fun _ => none) 0 (fun _ _ => rfl) (fun _ _ h => by cases h) n f args
theorem aGg {gg : Bool} (args : List DV) : SimP gg (nA args) (nA args) := by
 unfold nA
 intro h h' S
 split
 ·rename_i c lit
  dsimp only
  rw [show h'.next = h.next from S.next]
  refine dKj (aCn _ h h' S) fun b h1 h1' T1 => ?_
  refine dKj (lR _ h1 h1' T1) fun ls h2 h2' T2 => ?_
  refine dKj (bVu _ _ _ h2 h2' T2) fun i h3 h3' T3 => ?_
  refine dKj (dKf (xC _ _ _) h3 h3' T3) fun t h4 h4' T4 => ?_
  exact aDt (aPg _ _ h4 h4' T4) (SimR.some T4 _)
 ·exact SimR.none _
theorem iR {C : Cfg} {rec : FuncId → List DV → Hp → aG} {g : FuncId} (h : C.I g = none) (args : List DV) : bT C rec g args = rec g args := by
 funext k
 unfold bT
 rw [h]
theorem aKs (g : FuncId) (F : List DV → Hp → aG) (hg : aAm g = some F) (n : Nat) (args : List DV) : SimP false (F args) (gH CF1 (n + 12) g args) := by
 unfold aAm at hg
 have hb : ∀ k, Nat.beq g k = true → g = k := fun k h => Nat.eq_of_beq_eq_true h
 cases h1 : Nat.beq g 15 with
 | true => rw [h1] at hg; cases hg; rw [hb _ h1]; exact cAt n args
 | false =>
 cases h2 : Nat.beq g 30 with
 | true => rw [h1, h2] at hg; cases hg; rw [hb _ h2]; exact cKr n args
 | false =>
 cases h3 : Nat.beq g 76 with
 | true => rw [h1, h2, h3] at hg; cases hg; rw [hb _ h3]; exact bRr n args
 | false =>
 cases h4 : Nat.beq g 18 with
 | true => rw [h1, h2, h3, h4] at hg; cases hg; rw [hb _ h4]; exact bPa n args
 | false =>
 cases h5 : Nat.beq g 25 with
 | true => rw [h1, h2, h3, h4, h5] at hg; cases hg; rw [hb _ h5]; exact bKt n args
 | false =>
 cases h6 : Nat.beq g 36 with
 | true => rw [h1, h2, h3, h4, h5, h6] at hg; cases hg; rw [hb _ h6]; exact aNm n args
 | false =>
 cases h7 : Nat.beq g 38 with
 | true => rw [h1, h2, h3, h4, h5, h6, h7] at hg; cases hg; rw [hb _ h7]; exact aFr n args
 | false =>
 cases h8 : Nat.beq g 17 with
 | true => rw [h1, h2, h3, h4, h5, h6, h7, h8] at hg; cases hg; rw [hb _ h8]; exact cEm n args
 | false =>
 cases h9 : Nat.beq g 80 with
 | true => rw [h1, h2, h3, h4, h5, h6, h7, h8, h9] at hg; cases hg; rw [hb _ h9]; exact bAc n args
 | false =>
 cases h10 : Nat.beq g 35 with
 | true => rw [h1, h2, h3, h4, h5, h6, h7, h8, h9, h10] at hg; cases hg; rw [hb _ h10]; exact aQf n args
 | false =>
 cases h11 : Nat.beq g 69 with
 | true => rw [h1, h2, h3, h4, h5, h6, h7, h8, h9, h10, h11] at hg; cases hg; rw [hb _ h11]; exact aNd n args
 | false =>
 cases h12 : Nat.beq g 29 with
 | true => rw [h1, h2, h3, h4, h5, h6, h7, h8, h9, h10, h11, h12] at hg; cases hg; rw [hb _ h12]; exact aKd n args
 | false =>
 cases h13 : Nat.beq g 58 with
 | true => rw [h1, h2, h3, h4, h5, h6, h7, h8, h9, h10, h11, h12, h13] at hg; cases hg; rw [hb _ h13]; exact bBe n args
 | false =>
 cases h14 : Nat.beq g 74 with
 | true => rw [h1, h2, h3, h4, h5, h6, h7, h8, h9, h10, h11, h12, h13, h14] at hg; cases hg; rw [hb _ h14]; exact bCx n args
 | false =>
 cases h15 : Nat.beq g 83 with
 | true => rw [h1, h2, h3, h4, h5, h6, h7, h8, h9, h10, h11, h12, h13, h14, h15] at hg; cases hg; rw [hb _ h15]; exact cGy n args
 | false => rw [h1, h2, h3, h4, h5, h6, h7, h8, h9, h10, h11, h12, h13, h14, h15] at hg; cases hg
theorem aOu (n : Nat) (f : FuncId) (args : List DV) : SimP false (gH CF n f args) (gH CF1 (n + 12) f args) := by
 have key := aGc (I := itm) (q := rgB) (gg := false) (P := Go.Proofs.Tryz.prog) (I2 := CF.I) (I1 := CF1.I) 12 (fun g hg => by
  show (bif Nat.beq g 97 then some lI else bif Nat.beq g 158 then some nA else bif Nat.beq g 54 then some gV else bif Nat.beq g 50 then some gU else none) = none
  change (bif Nat.beq g 97 then some lI else bif Nat.beq g 158 then some nA else bif Nat.beq g 54 then some gV else bif Nat.beq g 50 then some gU else aAm g) = none at hg
  cases h1 : Nat.beq g 97 with
  | true => rw [h1] at hg; cases hg
  | false =>
   cases h2 : Nat.beq g 158 with
   | true => rw [h1, h2] at hg; cases hg
   | false =>
   cases h3 : Nat.beq g 54 with
   | true => rw [h1, h2, h3] at hg; cases hg
   | false =>
   cases h4 : Nat.beq g 50 with
   | true => rw [h1, h2, h3, h4] at hg; cases hg
   | false => rfl) (fun g F hg n args => by
  change (bif Nat.beq g 97 then some lI else bif Nat.beq g 158 then some nA else bif Nat.beq g 54 then some gV else bif Nat.beq g 50 then some gU else aAm g) = some F at hg
  have hcall : bT ⟨Go.Proofs.Tryz.prog, CF1.I⟩ (gH ⟨Go.Proofs.Tryz.prog, CF1.I⟩ (n + 12)) g args = fun h => match (bif Nat.beq g 97 then some lI else bif Nat.beq g 158 then some nA else bif Nat.beq g 54 then some gV else bif Nat.beq g 50 then some gU else none : Option (List DV → Hp → aG)) with
   | some F => F args h
   | none => gH ⟨Go.Proofs.Tryz.prog, CF1.I⟩ (n + 12) g args h := rfl
  rw [hcall]
  cases h1 : Nat.beq g 97 with
  | true => rw [h1] at hg; cases hg; exact aFz args
  | false =>
   cases h2 : Nat.beq g 158 with
   | true => rw [h1, h2] at hg; cases hg; exact aGg args
   | false =>
   cases h3 : Nat.beq g 54 with
   | true => rw [h1, h2, h3] at hg; cases hg; exact wF args
   | false =>
   cases h4 : Nat.beq g 50 with
   | true => rw [h1, h2, h3, h4] at hg; cases hg; exact wO args
   | false =>
    rw [h1, h2, h3, h4] at hg
    exact aKs g F hg n args) n f args
 exact key
end Go.Dd

namespace Go.Dd
open Go.Proofs
theorem aBy {m : Pos} {M : MemV} {h h' : Hp} (S : Sim true h h') (hm : mV m h = some M) : mV m h' = some M := by
 have hget : ∀ b o, h.bl.get b = some o → h'.bl.get b = some o := fun b o hb => by
  obtain ⟨o', h1, h2⟩ := S.get b o hb
  rw [h1, kY h2]
 unfold mV at hm ⊢
 split at hm <;> (try (cases hm; done))
 rename_i wb n c fin made pb hr
 split at hm <;> (try (cases hm; done))
 rename_i n' t pl h1 h2
 simp only [hget _ _ hr, hget _ _ h1, hget _ _ h2]
 exact hm
theorem fN {args : List DV} {k : Hp → MemV → List DV → aG} (hk : ∀ M r, SimP true (fun h => k h M r) (fun h => k h M r)) : SimP true (fun h => iS args h (k h)) (fun h => iS args h (k h)) := fun h h' S v g e => by
 obtain ⟨m, rest, M, rfl, hM, e⟩ := eX e
 obtain ⟨g', e1, e2⟩ := hk M rest h h' S v g e
 refine ⟨g', ?_, e2⟩
 show (match mV m h' with
  | some M => k h' M rest
  | none => none) = some (v, g')
 rw [aBy S hM]
 exact e1
theorem mH {M : MemV} {o : Int} {k k' : Nat → aG} (h : ∀ n, SimR true (k n) (k' n)) : SimR true (iK M o k) (iK M o k') := by
 unfold iK
 cases Nat.blt (Nat.add (bM o M.pl) 1) M.n with
 | false => exact SimR.none _
 | true =>
  simp only [cond_true]
  cases M.t.get (bM o M.pl) with
  | negSucc a => exact SimR.none _
  | ofNat hd =>
   dsimp only
   cases Nat.blt hd 1000000000000 with
   | false => exact SimR.none _
   | true => exact h hd
theorem uA {M : MemV} {o i : Int} {b b' : Nat → aG} {k k' : Nat → Nat → aG} (hb : ∀ n, SimR true (b n) (b' n)) (h : ∀ n m, SimR true (k n m) (k' n m)) : SimR true (gR M o i b k) (gR M o i b' k') := by
 unfold gR
 cases Nat.beq (bM o M.pl) 0 with
 | true => exact hb 1
 | false =>
  simp only [cond_false]
  cases i with
  | negSucc i => exact hb 5
  | ofNat i =>
   dsimp only
   refine mH fun hd => ?_
   cases Nat.ble (Nat.div hd 4) i with
   | true => exact hb 5
   | false =>
    simp only [cond_false]
    cases Nat.blt (Nat.add (Nat.add (bM o M.pl) 3) i) M.n with
    | false => exact SimR.none _
    | true => exact h _ _
theorem kF {h h' : Hp} (S : Sim true h h') (o : Ob) (b n : Pos) : Sim true ⟨n, Tr.set o b h.bl⟩ ⟨n, Tr.set o b h'.bl⟩ := S.set (kL o) b n
theorem oG {M : MemV} {a : Nat} {w : Int} : SimP true (nB M a w) (nB M a w) := fun h h' S v g e => by
 simp only [nB, bC, bO] at e ⊢
 obtain ⟨rfl, rfl⟩ := e
 exact ⟨_, ⟨rfl, rfl⟩, by rw [S.next]; exact kF S _ _ _⟩
theorem bPj (g : FuncId) (F : List DV → Hp → aG) (hg : aAm g = some F) (args : List DV) : SimP true (F args) (F args) := by
 have hmay : SimP true (aEb args) (aEb args) := fN (k := fun h M r => match r with
  | [.i .i64 w] => some (.b (dK w M.pl), h)
  | _ => none) fun M r h h' S => by dsimp only; split <;> first | exact SimR.some S _ | exact SimR.none _
 have his : SimP true (isF args) (isF args) := fN (k := fun h M r => match r with
  | [.i .i64 w] => some (.b (!(Nat.beq (bM w M.pl) 0)), h)
  | _ => none) fun M r h h' S => by dsimp only; split <;> first | exact SimR.some S _ | exact SimR.none _
 have hsize : SimP true (aKq args) (aKq args) := fN (k := fun h M r => match r with
  | [] => some (.i .i64 (.ofNat M.n), h)
  | _ => none) fun M r h h' S => by dsimp only; split <;> first | exact SimR.some S _ | exact SimR.none _
 have hroom : SimP true (aAu args) (aAu args) := fN (k := fun h M r => match r with
  | [] => some (.i .i64 (.ofNat (Nat.sub M.n M.fin)), h)
  | _ => none) fun M r h h' S => by dsimp only; split <;> first | exact SimR.some S _ | exact SimR.none _
 have hclass : SimP true (jL args) (jL args) := fN (k := fun h M r => match r with
  | [.i .i64 o] => iK M o fun _ => some (.i .i64 (M.t.get (Nat.add (bM o M.pl) 1)), h)
  | _ => none) fun M r h h' S => by dsimp only; split <;> first | exact mH (fun _ => SimR.some S _) | exact SimR.none _
 have hformat : SimP true (iW args) (iW args) := fN (k := fun h M r => match r with
  | [.i .i64 o] => iK M o fun hd => some (.i .i64 (.ofNat (Nat.mod hd 4)), h)
  | _ => none) fun M r h h' S => by dsimp only; split <;> first | exact mH (fun _ => SimR.some S _) | exact SimR.none _
 have hfields : SimP true (hZ args) (hZ args) := fN (k := fun h M r => match r with
  | [.i .i64 o] => iK M o fun hd => some (.i .i64 (.ofNat (Nat.div hd 4)), h)
  | _ => none) fun M r h h' S => by dsimp only; split <;> first | exact mH (fun _ => SimR.some S _) | exact SimR.none _
 have hget : SimP true (sZ args) (sZ args) := fN (k := fun h M r => match r with
  | [.i .i64 o, .i .i64 i] => gR M o i (fun e => err e h) fun _ a => some (.t [.i .i64 (M.t.get a), .i .i64 (.ofNat 0)], h)
  | _ => none) fun M r h h' S => by dsimp only; split <;> first | exact uA (fun _ => SimR.some S _) (fun _ _ => SimR.some S _) | exact SimR.none _
 have hput : SimP true (wX args) (wX args) := fN (k := fun h M r => match r with
  | [.i .i64 o, .i .i64 i, .i .i64 w] => gR M o i (fun e => some (.i .i64 (.ofNat e), h)) fun hd a =>
   match Nat.mod hd 4 with
   | 0 => bif dK w M.pl then nB M a w h else some (.i .i64 (.ofNat 6), h)
   | 2 => (match w with
    | .ofNat c => bif Nat.ble c 255 then nB M a w h else some (.i .i64 (.ofNat 6), h)
    | .negSucc _ => some (.i .i64 (.ofNat 6), h))
   | _ => nB M a w h
  | _ => none) fun M r h h' S => by
   dsimp only
   split
   ·rename_i o i w
    refine uA (fun _ => SimR.some S _) fun hd a => ?_
    split
    ·cases dK w M.pl with
     | true => exact oG h h' S
     | false => exact SimR.some S _
    ·cases w with
     | negSucc c => exact SimR.some S _
     | ofNat c =>
      dsimp only
      cases Nat.ble c 255 with
      | true => exact oG h h' S
      | false => exact SimR.some S _
    ·exact oG h h' S
   ·exact SimR.none _
 have hsetc : SimP true (lQ args) (lQ args) := fN (k := fun h M r => match r with
  | [.i .i64 o, .i .i64 c] => bif Nat.beq (bM o M.pl) 0 || !(sS c M.pl) then some (.i .i64 (.ofNat 1), h) else
   (bif Nat.blt (Nat.add (bM o M.pl) 1) M.n then nB M (Nat.add (bM o M.pl) 1) c h else none)
  | _ => none) fun M r h h' S => by
   dsimp only
   split
   ·rename_i o c
    cases Nat.beq (bM o M.pl) 0 || !(sS c M.pl) with
    | true => exact SimR.some S _
    | false =>
     simp only [cond_false]
     cases Nat.blt (Nat.add (bM o M.pl) 1) M.n with
     | true => exact oG h h' S
     | false => exact SimR.none _
   ·exact SimR.none _
 have hmake : SimP true (jQ args) (jQ args) := fun h h' S => by
  unfold jQ
  split
  ·rename_i m cls fmt cnt
   intro v g e
   split at e
   ·cases e
   ·rename_i M hM
    rw [aBy S hM]
    dsimp only
    revert e
    have herr : ∀ n, SimR true (err n h) (err n h') := fun n => SimR.some S _
    suffices hs : SimR true _ _ from fun e => hs v g e
    cases !(sS cls M.pl) with
    | true => exact herr 1
    | false =>
     simp only [cond_false]
     cases fmt with
     | negSucc f => exact herr 1
     | ofNat f =>
      cases cnt with
      | negSucc c => exact herr 1
      | ofNat c =>
       dsimp only
       cases Nat.ble f 2 && Nat.ble c 256 with
       | false => exact herr 1
       | true =>
        simp only [cond_true]
        cases Nat.blt (Nat.sub M.n M.fin) (Nat.add c 3) with
        | true => exact herr 4
        | false =>
         simp only [cond_false]
         cases Nat.ble 3 M.fin && Nat.ble M.fin 131072 with
         | false => exact SimR.none _
         | true =>
          simp only [cond_true]
          intro v g e
          simp only [bC, bO] at e ⊢
          obtain ⟨rfl, rfl⟩ := e
          refine ⟨_, ⟨rfl, rfl⟩, ?_⟩
          rw [S.next]
          exact kF (kF (kF S _ _ h.next) _ _ h.next) _ _ h.next
  ·exact SimR.none _
 have hnew : SimP true (aOi args) (aOi args) := fun h h' S => by
  unfold aOi
  split
  ·rename_i n
   cases Nat.blt n 16 || Nat.blt 131072 n with
   | true => exact SimR.some S _
   | false =>
    simp only [cond_false]
    intro v g e
    simp only [bC, bO] at e ⊢
    obtain ⟨rfl, rfl⟩ := e
    rw [S.next]
    exact ⟨_, ⟨rfl, rfl⟩, kF (kF (kF S _ _ h.next) _ _ h.next) _ _ _⟩
  ·exact SimR.some S _
  ·exact SimR.none _
 have hpure : ∀ F : Hp → aG, (∀ h h', Sim true h h' → SimR true (F h) (F h')) → SimP true F F := fun F hF => hF
 have hsm : SimP true (eW args) (eW args) := fun h h' S => by unfold eW; split <;> first | exact SimR.some S _ | exact SimR.none _
 have hva : SimP true (kH args) (kH args) := fun h h' S => by
  unfold kH
  split
  ·rename_i w
   cases cU w <;> exact SimR.some S _
  ·exact SimR.none _
 have hsl : SimP true (iG args) (iG args) := fun h h' S => by
  unfold iG
  split
  ·rename_i n; cases Nat.blt n 1073741824 <;> exact SimR.some S _
  ·rename_i n; cases Nat.blt n 1073741824 <;> exact SimR.some S _
  ·exact SimR.none _
 unfold aAm at hg
 cases h1 : Nat.beq g 15 with
 | true => rw [h1] at hg; cases hg; exact hmay
 | false =>
 cases h2 : Nat.beq g 30 with
 | true => rw [h1, h2] at hg; cases hg; exact his
 | false =>
 cases h3 : Nat.beq g 76 with
 | true => rw [h1, h2, h3] at hg; cases hg; exact hsize
 | false =>
 cases h4 : Nat.beq g 18 with
 | true => rw [h1, h2, h3, h4] at hg; cases hg; exact hroom
 | false =>
 cases h5 : Nat.beq g 25 with
 | true => rw [h1, h2, h3, h4, h5] at hg; cases hg; exact hmake
 | false =>
 cases h6 : Nat.beq g 36 with
 | true => rw [h1, h2, h3, h4, h5, h6] at hg; cases hg; exact hnew
 | false =>
 cases h7 : Nat.beq g 38 with
 | true => rw [h1, h2, h3, h4, h5, h6, h7] at hg; cases hg; exact hsetc
 | false =>
 cases h8 : Nat.beq g 17 with
 | true => rw [h1, h2, h3, h4, h5, h6, h7, h8] at hg; cases hg; exact hput
 | false =>
 cases h9 : Nat.beq g 80 with
 | true => rw [h1, h2, h3, h4, h5, h6, h7, h8, h9] at hg; cases hg; exact hclass
 | false =>
 cases h10 : Nat.beq g 35 with
 | true => rw [h1, h2, h3, h4, h5, h6, h7, h8, h9, h10] at hg; cases hg; exact hformat
 | false =>
 cases h11 : Nat.beq g 69 with
 | true => rw [h1, h2, h3, h4, h5, h6, h7, h8, h9, h10, h11] at hg; cases hg; exact hfields
 | false =>
 cases h12 : Nat.beq g 29 with
 | true => rw [h1, h2, h3, h4, h5, h6, h7, h8, h9, h10, h11, h12] at hg; cases hg; exact hsm
 | false =>
 cases h13 : Nat.beq g 58 with
 | true => rw [h1, h2, h3, h4, h5, h6, h7, h8, h9, h10, h11, h12, h13] at hg; cases hg; exact hsl
 | false =>
 cases h14 : Nat.beq g 74 with
 | true => rw [h1, h2, h3, h4, h5, h6, h7, h8, h9, h10, h11, h12, h13, h14] at hg; cases hg; exact hva
 | false =>
 cases h15 : Nat.beq g 83 with
 | true => rw [h1, h2, h3, h4, h5, h6, h7, h8, h9, h10, h11, h12, h13, h14, h15] at hg; cases hg; exact hget
 | false => rw [h1, h2, h3, h4, h5, h6, h7, h8, h9, h10, h11, h12, h13, h14, h15] at hg; cases hg
theorem aMd (g : FuncId) (F : List DV → Hp → aG) (hg : CF.I g = some F) (args : List DV) : SimP true (F args) (F args) := by
 change (bif Nat.beq g 97 then some lI else bif Nat.beq g 158 then some nA else bif Nat.beq g 54 then some gV else bif Nat.beq g 50 then some gU else aAm g) = some F at hg
 cases h1 : Nat.beq g 97 with
 | true => rw [h1] at hg; cases hg; exact aFz args
 | false =>
  cases h2 : Nat.beq g 158 with
  | true => rw [h1, h2] at hg; cases hg; exact aGg args
  | false =>
  cases h3 : Nat.beq g 54 with
  | true => rw [h1, h2, h3] at hg; cases hg; exact wF args
  | false =>
  cases h4 : Nat.beq g 50 with
  | true => rw [h1, h2, h3, h4] at hg; cases hg; exact wO args
  | false =>
   rw [h1, h2, h3, h4] at hg
   exact bPj g F hg args
theorem bAh (n : Nat) (f : FuncId) (args : List DV) : SimP true (cK n f args) (cK n f args) := by
 rw [xJ]
 exact aGc (I := itm) (q := rgB) (gg := true) (P := Tryz.prog) (I2 := CF.I) (I1 := CF.I) 0 (fun g h => h) (fun g F hg n args => by
  have : bT ⟨Tryz.prog, CF.I⟩ (gH ⟨Tryz.prog, CF.I⟩ (n + 0)) g args = F args := by
   funext h
   unfold bT
   rw [show (⟨Tryz.prog, CF.I⟩ : Cfg).I g = some F from hg]
  rw [this]
  exact aMd g F hg args) n f args
theorem bAn (n : Nat) (g : FuncId) (args : List DV) : SimP true (bT CF (cK n) g args) (bT CF (cK n) g args) := by
 unfold bT
 cases hg : CF.I g with
 | none => exact bAh n g args
 | some F => exact aMd g F hg args
end Go.Dd

namespace Go.Dd
open Go.Proofs
abbrev K4T := DV → DV → DV → DV → Hp → aG
noncomputable abbrev R9 : RT := cK 899
noncomputable def XL : Nat → K := xs x0 7 (fun env h => fM R9 899 (env 5) h)
noncomputable def krN : K := aS CF Tryz.f19
noncomputable def bEx : Code := cL (cL (cR (cL (cR (cR (cR (cR (cR (cR (cf Tryz.f19))))))))))
noncomputable def kb (kk : K4T) : K := fun env h => kk (env 5) (env 155) (env 156) (env 157) h
noncomputable def aJs (a b c d : DV) : bF := fun t => bif Nat.beq t 5 then a else bif Nat.beq t 155 then b else bif Nat.beq t 156 then c else bif Nat.beq t 157 then d else .u
theorem aCl (kk : K4T) (a b c d : DV) (h : Hp) : lB R9 899 kk a b c d h = aP CF R9 179 899 bEx XL krN (kb kk) (aJs a b c d) h :=
 (congrFun (congrFun (aZo R9 899 kk) (aJs a b c d)) h).symm
theorem aOm (e : bF) (h : Hp) : krN e h = some (.t [e 2, e 3], h) := by kernel_rfl
def dJq (r : aG) : Prop := ∃ a b c d h, r = some (.t [a, b, c, d], h)
theorem bOc (a b c d : DV) (h : Hp) : (∃ a' b' c' d' h', ∀ kk : K4T, lB R9 899 kk a b c d h = kk a' b' c' d' h') ∨ (∃ r, ¬ dJq r ∧ ∀ kk : K4T, lB R9 899 kk a b c d h = r) := by
 obtain ⟨O, hO⟩ := aLm (C := CF) (rec := R9) (nt := 179) 899 bEx
 have key : ∀ kk : K4T, lB R9 899 kk a b c d h = dLh (O (aJs a b c d) h) XL krN (kb kk) := fun kk => (aCl kk a b c d h).trans (hO _ _ _ _ _)
 cases ho : O (aJs a b c d) h with
 | none => exact .inr ⟨none, (by rintro ⟨_, _, _, _, _, e⟩; cases e), fun kk => by rw [key kk, ho]; rfl⟩
 | some o =>
  cases o with
  | n e h' => exact .inl ⟨e 5, e 155, e 156, e 157, h', fun kk => by rw [key kk, ho]; rfl⟩
  | r e h' => exact .inr ⟨some (.t [e 2, e 3], h'), (by rintro ⟨_, _, _, _, _, q⟩; cases q), fun kk => by rw [key kk, ho]; exact aOm e h'⟩
  | x i e h' =>
   refine .inr ⟨XL i e h', ?_, fun kk => by rw [key kk, ho]; rfl⟩
   rintro ⟨_, _, _, _, _, q⟩
   unfold XL xs at q
   cases hi : Nat.beq i 7 with
   | true => rw [hi] at q; cases q
   | false => rw [hi] at q; cases q
theorem yE (n : Nat) (kk : K4T) : itN (n + 1) kk = lB R9 899 (itN n kk) := rfl
theorem bLa : ∀ (n : Nat) (a b c d : DV) (h : Hp) (a' b' c' d' : DV) (h' : Hp), itN n bGu a b c d h = some (.t [a', b', c', d'], h') → ∀ kk : K4T, itN n kk a b c d h = kk a' b' c' d' h'
 | 0, a, b, c, d, h, a', b', c', d', h', e, kk => by
  have e' : (some (.t [a, b, c, d], h) : aG) = some (.t [a', b', c', d'], h') := e
  simp only [bC, bO, DV.t.injEq, List.cons.injEq, and_true] at e'
  obtain ⟨⟨rfl, rfl, rfl, rfl⟩, rfl⟩ := e'
  rfl
 | n + 1, a, b, c, d, h, a', b', c', d', h', e, kk => by
  rw [yE] at e ⊢
  rcases bOc a b c d h with ⟨a1, b1, c1, d1, h1, hs⟩ | ⟨r, hr, hs⟩
  ·rw [hs] at e ⊢
   exact bLa n a1 b1 c1 d1 h1 a' b' c' d' h' e kk
  ·rw [hs] at e
   exact absurd ⟨_, _, _, _, _, e⟩ hr
theorem bIc (kk : K4T) (hk : ∀ a b c d, SimP true (kk a b c d) (kk a b c d)) : ∀ (n : Nat) (a b c d : DV), SimP true (itN n kk a b c d) (itN n kk a b c d)
 | 0, a, b, c, d => hk a b c d
 | n + 1, a, b, c, d => by
  have ih := bIc kk hk n
  rw [yE]
  have hX : ∀ j, SimK true (XL j) (XL j) := by
   intro j env h h' S
   unfold XL xs
   cases Nat.beq j 7 with
   | true => exact SimR.some S _
   | false => exact SimR.none _
  have hR : SimK true krN krN := fun env h h' S => by rw [aOm, aOm]; exact SimR.some S _
  have hK : SimK true (kb (itN n kk)) (kb (itN n kk)) := fun env => ih _ _ _ _
  have hc := gN (gg := true) (P := Tryz.prog) (I2 := CF.I) (I1 := CF.I) (rec2 := R9) (rec1 := R9) (fun g args => bAn 899 g args) 179 899 0 bEx XL XL krN krN (kb (itN n kk)) (kb (itN n kk)) hX hR hK (aJs a b c d)
  intro h h' S
  rw [aCl, aCl]
  exact hc h h' S
theorem yC (m : Nat) : ∀ n, lE R9 899 (m + n) = itN n (lE R9 899 m)
 | 0 => rfl
 | n + 1 => by
  rw [yE, ← yC m n]
  rfl
theorem kG {k n nx nx' : Nat} {L L' : List (Pos × Ob)} (hc : mX (oQ k n (iI nx L)) (lK (k + n)) nx' L' = true) (m : Nat) {h : Hp} (S : Sim true (iI nx L) h) :
  ∃ h', Sim true (iI nx' L') h' ∧ lE R9 899 (m + n) (.p (aM 7) 0) (.l (aM 431) 0 75 75) (.i .i64 (.ofNat 75)) (.i .i64 (.ofNat k)) h =
   lE R9 899 m (.p (aM 7) 0) (.l (aM 431) 0 75 75) (.i .i64 (.ofNat 75)) (.i .i64 (.ofNat (k + n))) h' := by
 obtain ⟨g, e1, e2⟩ := aYm hc
 obtain ⟨g', f1, f2⟩ := bIc bGu (fun a b c d h h' S => SimR.some S _) n _ _ _ _ (iI nx L) h S _ _ e1
 refine ⟨g', e2.trans f2, ?_⟩
 rw [yC]
 exact bLa n _ _ _ _ _ _ _ _ _ _ f1 _
theorem bBr (k : K) : aP CF R9 179 899 (cf Tryz.f19) x0 krN k = aP CF R9 179 899 cDu x0 krN (aP CF R9 179 899 bFg x0 krN (aP CF R9 179 899 dDn x0 krN k)) := by kernel_rfl
theorem cLy : aP CF R9 179 899 dDn x0 krN krN = fun env h => fM R9 899 (env 5) h := bOf R9 899
theorem cBg : aP CF R9 179 899 bFg x0 krN (fun env h => fM R9 899 (env 5) h) = fun env h => aTw R9 899 (env 5) (env 155) (env 156) (env 157) h :=
 (by kernel_rfl : aP CF R9 179 899 bFg x0 krN (fun env h => fM R9 899 (env 5) h) = D19 R9 899 (cL (cR (cL (cR (cR (cR (cR (cR (cR (cf Tryz.f19)))))))))) (xs x0 7 (fun (env : bF) (h : Hp) => fM R9 899 (env 5) h)) (fun (env : bF) (h : Hp) => fM R9 899 (env 5) h)).trans (bNp R9 899)
theorem cNc (x : DV) (h : Hp) : aE CF R9 899 19 [x] h = aP CF R9 179 899 (cf Tryz.f19) x0 krN krN (aH [x]) h := by kernel_rfl
theorem cCs : ∃ e h', Sim true (iI 432 (oK 60000 553 84 18 [1076, 1096, 6, 24, 42, 60, 78, 96, 114, 132, 150, 168, 186, 204, 222, 240, 258, 276] [(10, 0), (19, 0), (46, 0), (55, 0), (64, 0), (91, 0), (100, 0), (109, 0), (118, 0), (127, 0), (145, 0)] 0)) h' ∧ e 5 = .p (aM 7) 0 ∧ e 155 = .l (aM 431) 0 75 75 ∧ e 156 = .i .i64 (.ofNat 75) ∧ e 157 = .i .i64 (.ofNat 0) ∧
  ∀ X kr k, aP CF R9 179 899 cDu X kr k (aH [.i .i64 (.ofNat 60000)]) hS = k e h' := by
 obtain ⟨O, hO⟩ := aLm (C := CF) (rec := R9) (nt := 179) 899 cDu
 obtain ⟨g, e1, e2⟩ := aYm he0
 have e1' : dLh (O (aH [.i .i64 (.ofNat 60000)]) hS) (fun _ _ _ => none) (fun _ _ => none) dCy = some (.t (lK 0), g) := (hO _ _ _ _ _).symm.trans e1
 cases ho : O (aH [.i .i64 (.ofNat 60000)]) hS with
 | none => rw [ho] at e1'; cases e1'
 | some o =>
  rw [ho] at e1'
  cases o with
  | x i e h' => cases e1'
  | r e h' => cases e1'
  | n e h' =>
   have q : (some (.t [e 5, e 155, e 156, e 157], h') : aG) = some (.t (lK 0), g) := e1'
   simp only [lK, bC, bO, DV.t.injEq, List.cons.injEq, and_true] at q
   obtain ⟨⟨q1, q2, q3, q4⟩, q5⟩ := q
   exact ⟨e, h', by rw [q5]; exact e2, q1, q2, q3, q4, fun X kr k => by rw [hO, ho]; rfl⟩
theorem cTj : ∃ g, cK 900 19 [.i .i64 (.ofNat 60000)] hS = some (.t [.p (aM 7) 0, .i .i64 (.ofNat 0)], g) ∧ Sim true (iI 26855 (oK 60000 4321 583 80 [8370, 1096, 6, 24, 42, 60, 78, 96, 114, 132, 150, 168, 186, 204, 222, 240, 258, 276] [] 75)) g := by
 obtain ⟨e, h0, S0, p1, p2, p3, p4, hpre⟩ := cCs
 obtain ⟨h1, S1, c1⟩ := kG hc0 894 S0
 obtain ⟨h2, S2, c2⟩ := kG hc5 889 S1
 obtain ⟨h3, S3, c3⟩ := kG dJt 884 S2
 obtain ⟨h4, S4, c4⟩ := kG dFp 879 S3
 obtain ⟨h5, S5, c5⟩ := kG dJc 874 S4
 obtain ⟨h6, S6, c6⟩ := kG dHk 869 S5
 obtain ⟨h7, S7, c7⟩ := kG dHz 864 S6
 obtain ⟨h8, S8, c8⟩ := kG dGw 859 S7
 obtain ⟨h9, S9, c9⟩ := kG dHf 854 S8
 obtain ⟨h10, S10, c10⟩ := kG dJk 849 S9
 obtain ⟨h11, S11, c11⟩ := kG dFf 844 S10
 obtain ⟨h12, S12, c12⟩ := kG dGj 839 S11
 obtain ⟨h13, S13, c13⟩ := kG dGf 834 S12
 obtain ⟨h14, S14, c14⟩ := kG dIy 829 S13
 obtain ⟨h15, S15, c15⟩ := kG dIi 824 S14
 refine ⟨h15, ?_, S15⟩
 have e0 : cK 900 19 [.i .i64 (.ofNat 60000)] hS = aE CF R9 899 19 [.i .i64 (.ofNat 60000)] hS := aJh 19 rfl 899 _ _
 rw [e0, cNc, bBr, cLy, cBg, hpre]
 show aTw R9 899 (e 5) (e 155) (e 156) (e 157) h0 = _
 rw [p1, p2, p3, p4]
 show lE R9 899 899 _ _ _ _ h0 = _
 refine c1.trans ?_
 refine c2.trans ?_
 refine c3.trans ?_
 refine c4.trans ?_
 refine c5.trans ?_
 refine c6.trans ?_
 refine c7.trans ?_
 refine c8.trans ?_
 refine c9.trans ?_
 refine c10.trans ?_
 refine c11.trans ?_
 refine c12.trans ?_
 refine c13.trans ?_
 refine c14.trans ?_
 refine c15.trans ?_
 rw [show (824 : Nat) = 823 + 1 from rfl]
 show lB R9 899 (lE R9 899 823) _ _ _ _ h15 = _
 unfold lB
 have hl : decide (Int.ofNat 75 < Int.ofNat 75) = false := rfl
 simp only [bJ, aL, hl, aV]
 rfl
end Go.Dd

namespace Go.Dd
open Go.Proofs
noncomputable def HLN : List (Pos × Ob) := oK 60000 4321 583 80 [8370, 1096, 6, 24, 42, 60, 78, 96, 114, 132, 150, 168, 186, 204, 222, 240, 258, 276] [] 75
noncomputable def hN : Hp := iI 26855 HLN
noncomputable def fC (l : List (Pos × Ob)) (t : Tr Ob) : Tr Ob := List.rec (motive := fun _ => Tr Ob) t (fun x _ ih => Tr.set x.2 x.1 ih) l
noncomputable def xD (p : List DV → Bool) (v0 : DV) (nx0 : Nat) (HL : List (Pos × Ob)) (args : List DV) (h : Hp) : aG :=
 bif p args && lW h.next (aM 1) then some (v0, ⟨aM nx0, fC HL h.bl⟩) else none
noncomputable def aWj (args : List DV) : Bool := match args with
 | [.i .i64 (.ofNat m)] => Nat.beq m 60000
 | _ => false
noncomputable def newK : List DV → Hp → aG := xD aWj (.t [.p (aM 7) 0, .i .i64 (.ofNat 0)]) 26855 HLN
noncomputable def bCj (n : Nat) : RT := fun g args h => bif Nat.beq g 19 then newK args h else cK n g args h
noncomputable def okB (r : aG) : Bool := match r with
 | some (.b x, _) => x
 | _ => false
end Go.Dd

namespace Go.Dd
open Go.Proofs
abbrev iD (n : Int) : DV := .i .i64 n
structure Wd (h : Hp) (M : MemV) (R : List Int) (es : List (DV × DV)) : Prop where
 w : h.bl.get (aM 7) = some (.row .ex [.p (aM 3) 0, .l (aM 4) 0 18 18, .m (aM 5), .m (aM 6)])
 r : h.bl.get (aM 4) = some (.row .ex (R.map iD))
 rl : R.length = 18
 sy : h.bl.get (aM 5) = some (.mp es)
 mem : mV (aM 3) h = some M
 nx : 1031 ≤ h.next.toNat
 wb : M.wb = aM 1
 pb : M.pb = aM 2
structure Good (M : MemV) : Prop where
 n : M.n < 1000000
 le : M.fin ≤ M.n
 lo : 3 ≤ M.fin
 hi : M.n ≤ 131072
 md : M.made < 900000
 ob : ∀ a, M.pl.get a ≠ 0 → 3 ≤ a ∧ ∃ hd : Nat, M.t.get a = .ofNat hd ∧ hd < 1000000000000 ∧ a + 3 + hd / 4 ≤ M.fin ∧ bM (M.t.get (a + 1)) M.pl ≠ 0
theorem mJ (f : FuncId) (hf : rgB f = false) (n : Nat) (args : List DV) (h : Hp) : cK (n + 1) f args h = aE CF (cK n) n f args h := aJh f hf n args h
theorem fU (b : Pos) (o : Nat) (h : Hp) : bD (.p b o) h = some (.p b o, h) := Eq.trans rfl rfl
theorem gL (b : Pos) (o k : Nat) (h : Hp) : aB k (.p b o) h = some (.p b (o + k), h) := Eq.trans rfl rfl
section
theorem Wd.l0 {h : Hp} {M : MemV} {R : List Int} {es : List (DV × DV)} (W : Wd h M R es) : aA (.p (aM 7) 0) h = some (.p (aM 3) 0, h) := by
 simp only [aA, cellD, rowOf, W.w, List.getElem?_cons_zero, DV.one, if_true]
theorem Wd.l00 {h : Hp} {M : MemV} {R : List Int} {es : List (DV × DV)} (W : Wd h M R es) : aA (.p (aM 7) (0 + 0)) h = some (.p (aM 3) 0, h) := W.l0
theorem Wd.l1 {h : Hp} {M : MemV} {R : List Int} {es : List (DV × DV)} (W : Wd h M R es) : aA (.p (aM 7) (0 + 1)) h = some (.l (aM 4) 0 18 18, h) := by
 simp only [aA, cellD, rowOf, W.w, Nat.zero_add, List.getElem?_cons_succ, List.getElem?_cons_zero, DV.one, if_true]
theorem Wd.l2 {h : Hp} {M : MemV} {R : List Int} {es : List (DV × DV)} (W : Wd h M R es) : aA (.p (aM 7) (0 + 2)) h = some (.m (aM 5), h) := by
 simp only [aA, cellD, rowOf, W.w, Nat.zero_add, List.getElem?_cons_succ, List.getElem?_cons_zero, DV.one, if_true]
theorem Wd.root {h : Hp} {M : MemV} {R : List Int} {es : List (DV × DV)} (W : Wd h M R es) {i : Nat} (hi : i < 18) : aA (.p (aM 4) i) h = some (iD (R.getD i 0), h) := by
 have e : (R.map iD)[i]? = some (iD (R.getD i 0)) := by
  have : i < R.length := by rw [W.rl]; exact hi
  simp [List.getElem?_map, List.getElem?_eq_getElem this, List.getD]
 simp only [aA, cellD, rowOf, W.r, e, DV.one, if_true]
theorem Wd.known {h : Hp} {M : MemV} {R : List Int} {es : List (DV × DV)} (W : Wd h M R es) {i : Nat} (hi : i < 16) (n : Nat) : cK (n + 1) 27 [.p (aM 7) 0, .i .i64 (Int.ofNat i)] h = some (iD (R.getD (2 + i) 0), h) := by
 rw [mJ 27 rfl, bKu]
 unfold s27
 have h1 : decide (Int.ofNat i < Int.ofNat 0) = false := by simp
 have h2 : decide (Int.ofNat i ≥ Int.ofNat 16) = false := by simp; omega
 have h3 : aF 1 (.l (aM 4) 0 18 18) (.i .i64 (Int.ofNat 2 + Int.ofNat i)) h = some (.p (aM 4) (2 + i), h) := by
  show (if (0 : Int) ≤ Int.ofNat 2 + Int.ofNat i ∧ Int.ofNat 2 + Int.ofNat i < ((18 : Nat) : Int) then some (DV.p (aM 4) (0 + (Int.ofNat 2 + Int.ofNat i).toNat * 1), h) else none) = _
  rw [if_pos (by simp; omega), show (Int.ofNat 2 + Int.ofNat i).toNat = 2 + i by simp; omega]
  simp
 simp only [g0, g1, bJ, jM, aL, fX, bN, aV, h1, h2, fU, gL, W.l1, jO _ _ _ (show -9223372036854775808 ≤ Int.ofNat 2 + Int.ofNat i ∧ Int.ofNat 2 + Int.ofNat i ≤ 9223372036854775807 by simp; omega), h3, W.root (show 2 + i < 18 by omega)]
theorem Wd.is {h : Hp} {M : MemV} {R : List Int} {es : List (DV × DV)} (W : Wd h M R es) (w : Int) : isF [.p (aM 3) 0, .i .i64 w] h = some (.b (!(Nat.beq (bM w M.pl) 0)), h) := by
 simp only [isF, iS, W.mem]
theorem Wd.may {h : Hp} {M : MemV} {R : List Int} {es : List (DV × DV)} (W : Wd h M R es) (w : Int) : aEb [.p (aM 3) 0, .i .i64 w] h = some (.b (dK w M.pl), h) := by
 simp only [aEb, iS, W.mem]
theorem Wd.head {h : Hp} {M : MemV} {R : List Int} {es : List (DV × DV)} (W : Wd h M R es) {o : Int} (G : Good M) (ho : bM o M.pl ≠ 0) : ∃ hd : Nat, M.t.get (bM o M.pl) = .ofNat hd ∧ hd < 1000000000000 ∧ 3 ≤ bM o M.pl ∧ bM o M.pl + 3 + hd / 4 ≤ M.fin ∧ (∀ k, iK M o k = k hd) ∧ bM (M.t.get (bM o M.pl + 1)) M.pl ≠ 0 := by
 have hp : M.pl.get (bM o M.pl) ≠ 0 := by
  rcases mR o M.pl with e | ⟨e, _⟩
  ·exact absurd e ho
  ·have := (atN_pos (o := o) (pl := M.pl)).1 ho
   rw [e]; exact this.2
 obtain ⟨h0, hd, h1, h2, h3, h4⟩ := G.ob _ hp
 refine ⟨hd, h1, h2, h0, h3, fun k => ?_, h4⟩
 have hl := G.le
 have b1 : Nat.blt (Nat.add (bM o M.pl) 1) M.n = true := by
  rw [gF]; exact decide_eq_true (show bM o M.pl + 1 < M.n by omega)
 have b2 : Nat.blt hd 1000000000000 = true := by rw [gF]; exact decide_eq_true h2
 unfold iK
 rw [b1, h1]
 simp only [cond_true, b2]
theorem Wd.cls {h : Hp} {M : MemV} {R : List Int} {es : List (DV × DV)} (W : Wd h M R es) (G : Good M) {o : Int} (ho : bM o M.pl ≠ 0) : jL [.p (aM 3) 0, .i .i64 o] h = some (iD (M.t.get (bM o M.pl + 1)), h) := by
 obtain ⟨hd, _, _, _, _, hk, _⟩ := W.head G ho
 simp only [jL, iS, W.mem, hk, Nat.add_eq]
noncomputable def bUt (M : MemV) (R : List Int) (x : Int) : Int :=
 if bM x M.pl ≠ 0 then M.t.get (bM x M.pl + 1) else if cU x then R.getD 9 0 else if x = 0 then R.getD 4 0 else if x = 2 then R.getD 6 0 else if x = 4 then R.getD 7 0 else 0
theorem Wd.classOf {h : Hp} {M : MemV} {R : List Int} {es : List (DV × DV)} (W : Wd h M R es) (G : Good M) (x : Int) (n : Nat) : cK (n + 2) 52 [.p (aM 7) 0, .i .i64 x] h = some (iD (bUt M R x), h) := by
 rw [mJ 52 rfl, cJv]
 unfold s52 bUt
 by_cases ha : bM x M.pl = 0
 ·have b : (!(Nat.beq (bM x M.pl) 0)) = false := by rw [ha]; rfl
  have c0 : ∀ k : Nat, (x == Int.ofNat k) = decide (x = Int.ofNat k) := fun k => rfl
  have hs : ∀ h, eW [.i .i64 x] h = some (.b (cU x), h) := fun h => rfl
  rw [if_neg (by simp [ha])]
  simp only [g0, g1, fU, gL, aL, W.l00, W.is, b, aV, hs, bI, W.known (show 7 < 16 by omega), W.known (show 2 < 16 by omega), W.known (show 4 < 16 by omega), W.known (show 5 < 16 by omega)]
  cases hsm : cU x with
  | true => simp only [aZ, if_true]
  | false =>
   simp only [aV, Bool.false_eq_true, if_false]
   by_cases e0 : x = 0
   ·subst e0; rfl
   ·rw [if_neg e0]
    have q0 : (x == Int.ofNat 0) = false := by simpa using e0
    simp only [q0, aV]
    by_cases e2 : x = 2
    ·subst e2; rfl
    ·rw [if_neg e2]
     have q2 : (x == Int.ofNat 2) = false := by simpa using e2
     simp only [q2, aV]
     by_cases e4 : x = 4
     ·subst e4; rfl
     ·rw [if_neg e4]
      have q4 : (x == Int.ofNat 4) = false := by simpa using e4
      simp only [q4, aV]
      rfl
 ·have b : (!(Nat.beq (bM x M.pl) 0)) = true := by
   cases hb : Nat.beq (bM x M.pl) 0 with
   | true => exact absurd (Nat.eq_of_beq_eq_true hb) ha
   | false => rfl
  rw [if_pos ha]
  simp only [g0, g1, fU, gL, aL, W.l00, W.is, b, aZ, W.cls G ha]
end
end Go.Dd

namespace Go.Dd
open Go.Proofs
theorem pn1 : (aM 1).toNat = 1024 := by kernel_rfl
theorem pn2 : (aM 2).toNat = 1025 := by kernel_rfl
theorem pn3 : (aM 3).toNat = 1026 := by kernel_rfl
theorem pn4 : (aM 4).toNat = 1027 := by kernel_rfl
theorem pn5 : (aM 5).toNat = 1028 := by kernel_rfl
theorem pn6 : (aM 6).toNat = 1029 := by kernel_rfl
theorem pn7 : (aM 7).toNat = 1030 := by kernel_rfl
theorem pne {a b : Nat} {p q : Pos} (hp : p.toNat = a) (hq : q.toNat = b) (h : a ≠ b) : p ≠ q := fun e => h (by rw [← hp, ← hq, e])
theorem pnl {a : Nat} {p q : Pos} (hp : p.toNat = a) (hq : q.toNat < 1024 ∨ 1029 ≤ q.toNat) (h : 1024 ≤ a ∧ a < 1029) : q ≠ p := fun e => by rw [e, hp] at hq; omega
theorem kO {m : Pos} {h : Hp} {M : MemV} (e : mV m h = some M) : h.bl.get m = some (.row .ex [.l M.wb 0 M.n M.n, .i .i64 (.ofNat M.fin), .i .i64 (.ofNat M.made), .m M.pb]) ∧ h.bl.get M.wb = some (.big M.n M.t) ∧
  h.bl.get M.pb = some (.mi M.pl) ∧ M.n < 1000000 ∧ M.fin ≤ M.n ∧ M.made < 1000000 := by
 unfold mV at e
 split at e <;> (try (cases e; done))
 rename_i wb n c fin made pb hr
 split at e <;> (try (cases e; done))
 rename_i n' t pl h1 h2
 cases hc : (Nat.beq n n' && Nat.beq n c) with
 | false => rw [hc] at e; cases e
 | true =>
  rw [hc, cond_true] at e
  simp only [Bool.and_eq_true] at hc
  have q1 := Nat.eq_of_beq_eq_true hc.1
  have q2 := Nat.eq_of_beq_eq_true hc.2
  subst q1; subst q2
  cases hd : (Nat.blt n 1000000 && (Nat.ble fin n && Nat.blt made 1000000)) with
  | false => rw [hd] at e; cases e
  | true =>
   rw [hd, cond_true] at e
   cases e
   simp only [Bool.and_eq_true, gF, jN, decide_eq_true_eq] at hd
   exact ⟨hr, h1, h2, hd.1, hd.2.1, hd.2.2⟩
theorem mY {m : Pos} {h : Hp} {M : MemV} (h1 : h.bl.get m = some (.row .ex [.l M.wb 0 M.n M.n, .i .i64 (.ofNat M.fin), .i .i64 (.ofNat M.made), .m M.pb])) (h2 : h.bl.get M.wb = some (.big M.n M.t))
  (h3 : h.bl.get M.pb = some (.mi M.pl)) (h4 : M.n < 1000000) (h5 : M.fin ≤ M.n) (h6 : M.made < 1000000) : mV m h = some M := by
 unfold mV
 simp only [h1, h2, h3]
 have q1 : (Nat.beq M.n M.n && Nat.beq M.n M.n) = true := by simp
 have q2 : (Nat.blt M.n 1000000 && (Nat.ble M.fin M.n && Nat.blt M.made 1000000)) = true := by simp [gF, jN, h4, h5, h6]
 rw [q1, cond_true, q2, cond_true]
structure Up (h h' : Hp) : Prop where
 next : h.next.toNat ≤ h'.next.toNat
 get : ∀ b : Pos, (b.toNat < 1024 ∨ 1029 ≤ b.toNat) → b.toNat < h.next.toNat → h'.bl.get b = h.bl.get b
theorem Up.refl (h : Hp) : Up h h := ⟨Nat.le_refl _, fun _ _ _ => rfl⟩
theorem Up.trans {a b c : Hp} (u : Up a b) (v : Up b c) : Up a c := ⟨Nat.le_trans u.next v.next, fun p h1 h2 => (v.get p h1 (Nat.lt_of_lt_of_le h2 u.next)).trans (u.get p h1 h2)⟩
def SlI (x : DV) (l : List Int) (h : Hp) : Prop := (x = .l0 ∧ l = []) ∨ ∃ b cap k, x = .l b 0 l.length cap ∧ h.bl.get b = some (.row k (l.map iD)) ∧ (b.toNat < 1024 ∨ 1029 ≤ b.toNat) ∧ b.toNat < h.next.toNat
theorem SlI.up {x : DV} {l : List Int} {h h' : Hp} (s : SlI x l h) (u : Up h h') : SlI x l h' := by
 rcases s with ⟨rfl, rfl⟩ | ⟨b, cap, k, e, g, h1, h2⟩
 ·exact .inl ⟨rfl, rfl⟩
 ·exact .inr ⟨b, cap, k, e, by rw [u.get b h1 h2]; exact g, h1, Nat.lt_of_lt_of_le h2 u.next⟩
theorem SlI.len {x : DV} {l : List Int} {h h' : Hp} (s : SlI x l h) : cO x h' = some (iD l.length, h') := by
 rcases s with ⟨rfl, rfl⟩ | ⟨b, cap, k, e, g, h1, h2⟩
 ·rfl
 ·rw [e]; rfl
theorem SlI.at {x : DV} {l : List Int} {h : Hp} (s : SlI x l h) {i : Nat} {v : Int} (hi : l[i]? = some v) : ∃ a, aF 1 x (.i .i64 (Int.ofNat i)) h = some (a, h) ∧ aA a h = some (iD v, h) := by
 have hl : i < l.length := by
  rcases Nat.lt_or_ge i l.length with q | q
  ·exact q
  ·rw [List.getElem?_eq_none q] at hi; cases hi
 rcases s with ⟨rfl, rfl⟩ | ⟨b, cap, k, e, g, h1, h2⟩
 ·simp at hi
 ·refine ⟨.p b i, ?_, ?_⟩
  ·rw [e]
   show (if (0 : Int) ≤ Int.ofNat i ∧ Int.ofNat i < ((l.length : Nat) : Int) then some (DV.p b (0 + (Int.ofNat i).toNat * 1), h) else none) = _
   rw [if_pos ⟨by simp, by simpa using hl⟩]
   simp
  ·have e : (l.map iD)[i]? = some (iD v) := by rw [List.getElem?_map, hi]; rfl
   simp only [aA, cellD, rowOf, g, e, DV.one, if_true]
section
theorem Wd.up {h : Hp} {M : MemV} {R : List Int} {es : List (DV × DV)} (W : Wd h M R es) {h' : Hp} (u : Up h h') (e : ∀ b : Pos, b.toNat < 1031 → h'.bl.get b = h.bl.get b) : Wd h' M R es := by
 obtain ⟨m1, m2, m3, m4, m5, m6⟩ := kO W.mem
 refine ⟨by rw [e _ (by rw [pn7]; omega)]; exact W.w, by rw [e _ (by rw [pn4]; omega)]; exact W.r, W.rl, by rw [e _ (by rw [pn5]; omega)]; exact W.sy, ?_, Nat.le_trans W.nx u.next, W.wb, W.pb⟩
 exact mY (by rw [e _ (by rw [pn3]; omega)]; exact m1) (by rw [e _ (by rw [W.wb, pn1]; omega)]; exact m2) (by rw [e _ (by rw [W.pb, pn2]; omega)]; exact m3) m4 m5 m6
theorem Wd.new {h : Hp} {M : MemV} {R : List Int} {es : List (DV × DV)} (W : Wd h M R es) (o : Ob) : Up h ⟨h.next.succ, Tr.set o h.next h.bl⟩ ∧ Wd ⟨h.next.succ, Tr.set o h.next h.bl⟩ M R es := by
 have u : Up h ⟨h.next.succ, Tr.set o h.next h.bl⟩ := ⟨by show _ ≤ (h.next.succ).toNat; rw [dKd]; omega, fun b h1 h2 => by
  show (Tr.set o h.next h.bl).get b = _
  rw [dKb]
  intro e; subst e; omega⟩
 refine ⟨u, W.up u fun b hb => ?_⟩
 show (Tr.set o h.next h.bl).get b = _
 rw [dKb]
 intro e; subst e
 have := W.nx
 omega
theorem Wd.setT {h : Hp} {M : MemV} {R : List Int} {es : List (DV × DV)} (W : Wd h M R es) (t' : WT) : Wd ⟨h.next, Tr.set (.big M.n t') M.wb h.bl⟩ { M with t := t' } R es ∧ Up h ⟨h.next, Tr.set (.big M.n t') M.wb h.bl⟩ := by
 obtain ⟨m1, m2, m3, m4, m5, m6⟩ := kO W.mem
 have ne : ∀ b : Pos, b.toNat ≠ 1024 → (Tr.set (.big M.n t') M.wb h.bl).get b = h.bl.get b := fun b hb => by
  rw [dKb]
  intro e; rw [e, W.wb, pn1] at hb; exact hb rfl
 refine ⟨⟨by rw [ne _ (by rw [pn7]; omega)]; exact W.w, by rw [ne _ (by rw [pn4]; omega)]; exact W.r, W.rl, by rw [ne _ (by rw [pn5]; omega)]; exact W.sy, ?_, W.nx, W.wb, W.pb⟩, ⟨Nat.le_refl _, fun b h1 h2 => ne b (by omega)⟩⟩
 exact mY (by show (Tr.set (.big M.n t') M.wb h.bl).get _ = _; rw [ne _ (by rw [pn3]; omega)]; exact m1) (by show (Tr.set (.big M.n t') M.wb h.bl).get M.wb = _; rw [dKc])
  (by show (Tr.set (.big M.n t') M.wb h.bl).get M.pb = _; rw [ne _ (by rw [W.pb, pn2]; omega)]; exact m3) m4 m5 m6
end
end Go.Dd

namespace Go.Dd
open Go.Proofs
noncomputable def MemV.mk1 (M : MemV) (f c : Nat) (cls : Int) : MemV := ⟨M.wb, M.n, M.fin + (c + 3), M.made + 1, M.pb,
 lT (((M.t.set M.fin (.ofNat (c * 4 + f))).set (M.fin + 1) cls).set (M.fin + 2) (.ofNat (M.made + 1))) c (M.fin + 3), M.pl.set M.fin (.ofNat 1)⟩
def okV (f : Nat) (pl : WT) (v : Int) : Prop := match f with
 | 0 => dK v pl = true
 | 2 => 0 ≤ v ∧ v ≤ 255
 | _ => True
theorem bZk {c : Int} {pl : WT} (h : bM c pl ≠ 0) : sS c pl = true := by
 unfold sS
 split
 ·rfl
 ·have : Nat.beq (bM c pl) 0 = false := by
   cases hb : Nat.beq (bM c pl) 0 with
   | true => exact absurd (Nat.eq_of_beq_eq_true hb) h
   | false => rfl
  rw [this]; rfl
section
theorem Wd.make {h : Hp} {M : MemV} {R : List Int} {es : List (DV × DV)} (W : Wd h M R es) (G : Good M) {cls : Int} (hc : bM cls M.pl ≠ 0) {f c : Nat} (hf : f ≤ 2) (h256 : c ≤ 256) (room : M.fin + c + 3 ≤ M.n) :
  ∃ h1, jQ [.p (aM 3) 0, .i .i64 cls, .i .i64 (.ofNat f), .i .i64 (.ofNat c)] h = some (.t [.i .i64 (.ofNat (M.fin * 2)), .i .i64 (.ofNat 0)], h1) ∧ Wd h1 (M.mk1 f c cls) R es ∧ Up h h1 ∧ h1.next = h.next := by
 obtain ⟨m1, m2, m3, m4, m5, m6⟩ := kO W.mem
 have q1 : (!(sS cls M.pl)) = false := by rw [bZk hc]; rfl
 have q2 : (Nat.ble f 2 && Nat.ble c 256) = true := by simp [jN, hf, h256]
 have q3 : Nat.blt (Nat.sub M.n M.fin) (Nat.add c 3) = false := by
  rw [gF]; exact decide_eq_false (by show ¬ M.n - M.fin < c + 3; omega)
 have hlo := G.lo
 have hhi := G.hi
 have hmd := G.md
 have q4 : (Nat.ble 3 M.fin && Nat.ble M.fin 131072) = true := by simp [jN]; omega
 refine ⟨⟨h.next, Tr.set (.row .ex [.l M.wb 0 M.n M.n, .i .i64 (.ofNat (M.fin + (c + 3))), .i .i64 (.ofNat (M.made + 1)), .m M.pb]) (aM 3) (Tr.set (.mi (M.pl.set M.fin (.ofNat 1))) M.pb (Tr.set (.big M.n (M.mk1 f c cls).t) M.wb h.bl))⟩, ?_, ?_, ?_, ?_⟩
 ·simp only [jQ, W.mem, q1, q2, q3, q4, cond_false, cond_true]
  rfl
 ·have ne : ∀ (b : Pos) (o1 o2 o3 : Ob), b.toNat ≠ 1024 → b.toNat ≠ 1025 → b.toNat ≠ 1026 → (Tr.set o1 (aM 3) (Tr.set o2 M.pb (Tr.set o3 M.wb h.bl))).get b = h.bl.get b := fun b o1 o2 o3 h1 h2 h3 => by
   rw [dKb _ _ _ _ (fun e => h3 (by rw [e, pn3])), dKb _ _ _ _ (fun e => h2 (by rw [e, W.pb, pn2])), dKb _ _ _ _ (fun e => h1 (by rw [e, W.wb, pn1]))]
  refine ⟨(ne _ _ _ _ (by rw [pn7]; omega) (by rw [pn7]; omega) (by rw [pn7]; omega)).trans W.w, (ne _ _ _ _ (by rw [pn4]; omega) (by rw [pn4]; omega) (by rw [pn4]; omega)).trans W.r, W.rl,
   (ne _ _ _ _ (by rw [pn5]; omega) (by rw [pn5]; omega) (by rw [pn5]; omega)).trans W.sy, ?_, W.nx, W.wb, W.pb⟩
  refine mY (by show (Tr.set _ (aM 3) _).get (aM 3) = _; rw [dKc]; rfl) ?_ ?_ m4 (show M.fin + (c + 3) ≤ M.n by omega) (show M.made + 1 < 1000000 by omega)
  ·show (Tr.set _ (aM 3) (Tr.set _ M.pb (Tr.set _ M.wb h.bl))).get M.wb = _
   rw [dKb _ _ _ _ (by rw [W.wb]; exact pne pn1 pn3 (by omega)), dKb _ _ _ _ (by rw [W.wb, W.pb]; exact pne pn1 pn2 (by omega))]
   exact dKc _ _ _
  ·show (Tr.set _ (aM 3) (Tr.set _ M.pb (Tr.set _ M.wb h.bl))).get M.pb = _
   rw [dKb _ _ _ _ (by rw [W.pb]; exact pne pn2 pn3 (by omega))]
   exact dKc _ _ _
 ·refine ⟨Nat.le_refl _, fun b h1 h2 => ?_⟩
  show (Tr.set _ (aM 3) (Tr.set _ M.pb (Tr.set _ M.wb h.bl))).get b = _
  rw [dKb _ _ _ _ (pnl pn3 h1 (by omega)), dKb _ _ _ _ (by rw [W.pb]; exact pnl pn2 h1 (by omega)), dKb _ _ _ _ (by rw [W.wb]; exact pnl pn1 h1 (by omega))]
 ·rfl
theorem Wd.put {h : Hp} {M : MemV} {R : List Int} {es : List (DV × DV)} (W : Wd h M R es) {o v : Int} {i hd : Nat} (ho : bM o M.pl ≠ 0) (hh : M.t.get (bM o M.pl) = .ofNat hd) (hb : hd < 1000000000000) (hi : i < hd / 4) (hn : bM o M.pl + 3 + hd / 4 ≤ M.n) (hv : okV (hd % 4) M.pl v) :
  wX [.p (aM 3) 0, .i .i64 o, .i .i64 (.ofNat i), .i .i64 v] h = some (.i .i64 (.ofNat 0), ⟨h.next, Tr.set (.big M.n (M.t.set (bM o M.pl + 3 + i) v)) M.wb h.bl⟩) := by
 have b0 : Nat.beq (bM o M.pl) 0 = false := by
  cases hb : Nat.beq (bM o M.pl) 0 with
  | true => exact absurd (Nat.eq_of_beq_eq_true hb) ho
  | false => rfl
 have b1 : Nat.blt (Nat.add (bM o M.pl) 1) M.n = true := by
  rw [gF]; exact decide_eq_true (show bM o M.pl + 1 < M.n by omega)
 have b2 : Nat.blt hd 1000000000000 = true := by rw [gF]; exact decide_eq_true hb
 have b3 : Nat.ble (Nat.div hd 4) i = false := by rw [jN]; exact decide_eq_false (show ¬ hd / 4 ≤ i by omega)
 have b4 : Nat.blt (Nat.add (Nat.add (bM o M.pl) 3) i) M.n = true := by rw [gF]; exact decide_eq_true (show bM o M.pl + 3 + i < M.n by omega)
 simp only [wX, iS, W.mem, gR, b0, cond_false, iK, b1, cond_true, hh, b2, b3, b4]
 show (match hd % 4 with
  | 0 => bif dK v M.pl then nB M (bM o M.pl + 3 + i) v h else some (.i .i64 (.ofNat 6), h)
  | 2 => (match (generalizing := false) v with
   | .ofNat c => bif Nat.ble c 255 then nB M (bM o M.pl + 3 + i) v h else some (.i .i64 (.ofNat 6), h)
   | .negSucc _ => some (.i .i64 (.ofNat 6), h))
  | _ => nB M (bM o M.pl + 3 + i) v h) = _
 have hm : hd % 4 < 4 := Nat.mod_lt _ (by omega)
 generalize hd % 4 = f at hv hm
 match f, hv with
 | 0, hv =>
  change dK v M.pl = true at hv
  simp only [hv, cond_true]
  rfl
 | 1, hv => rfl
 | 2, hv =>
  change 0 ≤ v ∧ v ≤ 255 at hv
  cases v with
  | negSucc c => omega
  | ofNat c =>
   have : Nat.ble c 255 = true := by rw [jN]; exact decide_eq_true (by have := hv.2; simp at this; omega)
   simp only [this, cond_true]
   rfl
 | 3, hv => rfl
 | n + 4, hv => omega
end
theorem fill {R : List Int} {es : List (DV × DV)} {o : Int} {x : DV} {a hd n : Nat} {pl : WT} {rec : FuncId → List DV → Hp → aG} (ha : bM o pl = a) (h0 : a ≠ 0) (hb : hd < 1000000000000) : ∀ (l2 done : List Int) (m : Nat) (M : MemV) (h : Hp), Wd h M R es → SlI x (done ++ l2) h →
  M.pl = pl → M.t.get a = .ofNat hd → hd / 4 = (done ++ l2).length → a + 3 + hd / 4 ≤ M.n → M.n ≤ 131072 → (∀ v ∈ l2, okV (hd % 4) pl v) → l2.length < m →
  ∃ h' t', pS rec n m (.p (aM 7) 0) (.i .i64 o) x (iD (done ++ l2).length) (.i .i64 (.ofNat done.length)) h = some (.t [.i .i64 o, .i .i64 (.ofNat 0)], h') ∧ Wd h' { M with t := t' } R es ∧ Up h h' ∧ h'.next = h.next ∧
   ∀ j, t'.get j = if a + 3 + done.length ≤ j ∧ j < a + 3 + (done ++ l2).length then l2.getD (j - (a + 3 + done.length)) 0 else M.t.get j
 | [], done, m + 1, M, h, W, S, e1, e2, e3, e4, e5, e6, e7 => by
  refine ⟨h, M.t, ?_, W, Up.refl h, rfl, fun j => by rw [if_neg (by simp)]⟩
  show rV rec n (pS rec n m) _ _ _ _ _ h = _
  unfold rV
  have hl : decide (Int.ofNat done.length < ((done ++ []).length : Int)) = false := by simp
  simp only [bJ, aL, hl, aV]
  rfl
 | v :: l2, done, m + 1, M, h, W, S, e1, e2, e3, e4, e5, e6, e7 => by
  subst e1
  obtain ⟨ad, q1, q2⟩ := S.at (i := done.length) (v := v) (by simp)
  have hp := W.put (o := o) (v := v) (i := done.length) (hd := hd) (by rw [ha]; exact h0) (by rw [ha]; exact e2) hb (by rw [e3]; simp) (by rw [ha]; exact e4) (e6 v (by simp))
  rw [ha] at hp
  obtain ⟨W1, U1⟩ := W.setT (M.t.set (a + 3 + done.length) v)
  have hlen : (done ++ v :: l2).length = done.length + 1 + l2.length := by simp; omega
  have hset : ∀ j, (M.t.set (a + 3 + done.length) v).get j = if j = a + 3 + done.length then v else M.t.get j := fun j => WT.get_set _ _ _ _ (by omega)
  obtain ⟨h', t', r1, r2, r3, r4, r5⟩ := fill ha h0 hb l2 (done ++ [v]) m { M with t := M.t.set (a + 3 + done.length) v } _ W1 (by rw [List.append_assoc]; exact S.up U1) rfl (by
   show (M.t.set (a + 3 + done.length) v).get a = _
   rw [hset, if_neg (by omega)]; exact e2) (by rw [e3]; simp) e4 e5 (fun u hu => e6 u (by simp [hu])) (by simp at e7; omega)
  refine ⟨h', t', ?_, r2, U1.trans r3, r4, fun j => ?_⟩
  ·show rV rec n (pS rec n m) _ _ _ _ _ h = _
   unfold rV
   have hl : decide (Int.ofNat done.length < ((done ++ v :: l2).length : Int)) = true := by simp; omega
   simp only [bJ, aL, hl, aZ, q1, q2, fU, gL, W.l00, hp]
   rw [jO _ _ _ (by simp; omega), aL]
   have el : (Int.ofNat done.length + Int.ofNat 1) = Int.ofNat (done ++ [v]).length := by simp
   rw [el]
   have el2 : (done ++ v :: l2) = done ++ [v] ++ l2 := by simp
   rw [el2]
   exact r1
  ·rw [r5 j]
   simp only [hset, laE, lcE, lnE]
   by_cases c1 : a + 3 + done.length + 1 ≤ j ∧ j < a + 3 + (done.length + 1 + l2.length)
   ·rw [if_pos (by omega), if_pos (by omega)]
    have : j - (a + 3 + done.length) = (j - (a + 3 + (done.length + (0 + 1)))) + 1 := by omega
    rw [this]
    simp
   ·rw [if_neg (by omega)]
    by_cases c2 : j = a + 3 + done.length
    ·rw [if_pos c2, if_pos (by omega)]
     subst c2
     simp
    ·rw [if_neg c2, if_neg (by omega)]
end Go.Dd

namespace Go.Dd
open Go.Proofs
structure Grown (M M' : MemV) (f : Nat) (cls : Int) (l : List Int) : Prop where
 n : M'.n = M.n
 fin : M'.fin = M.fin + (l.length + 3)
 made : M'.made = M.made + 1
 pl : M'.pl = M.pl.set M.fin (.ofNat 1)
 hd : M'.t.get M.fin = .ofNat (l.length * 4 + f)
 cl : M'.t.get (M.fin + 1) = cls
 old : ∀ j, j < M.fin → M'.t.get j = M.t.get j
 new : ∀ i v, l[i]? = some v → M'.t.get (M.fin + 3 + i) = v
theorem cHb {a : Nat} (h3 : 3 ≤ a) (hi : a ≤ 131072) : iV (.ofNat (a * 2)) = a := by
 obtain ⟨h1, h2, _⟩ := rL (.ofNat (a * 2))
 have h0 : iV (.ofNat (a * 2)) ≠ 0 := h1.2 (by simp; omega)
 have h4 := h2 h0
 have h5 : (Int.ofNat (a * 2)) / 2 = (a : Int) := by rw [Int.ofNat_eq_natCast]; omega
 rw [h5] at h4
 exact Int.ofNat.inj h4
theorem tB (pl : WT) {k : Nat} (hk : k < 16000000) (j : Nat) : (pl.set k (.ofNat 1)).get j = if j = k then 1 else pl.get j := WT.get_set _ _ _ _ hk
theorem rQ {w : Int} {pl : WT} {k : Nat} (hk : k < 16000000) (h : bM w pl ≠ 0) : bM w (pl.set k (.ofNat 1)) = bM w pl := by
 have h1 := atN_pos.1 h
 have h2 : bM w (pl.set k (.ofNat 1)) ≠ 0 := atN_pos.2 ⟨h1.1, by rw [tB _ hk]; split <;> simp [h1.2]⟩
 rcases mR w pl with e | ⟨e, _⟩
 ·exact absurd e h
 ·rcases mR w (pl.set k (.ofNat 1)) with e' | ⟨e', _⟩
  ·exact absurd e' h2
  ·rw [e, e']
theorem yQ {pl : WT} {a : Nat} (h3 : 3 ≤ a) (hi : a ≤ 131072) : bM (.ofNat (a * 2)) (pl.set a (.ofNat 1)) = a := by
 have hp := cHb h3 hi
 have h2 : bM (.ofNat (a * 2)) (pl.set a (.ofNat 1)) ≠ 0 := atN_pos.2 ⟨by rw [hp]; omega, by rw [hp, tB _ (by omega), if_pos rfl]; decide⟩
 rcases mR (.ofNat (a * 2)) (pl.set a (.ofNat 1)) with e' | ⟨e', _⟩
 ·exact absurd e' h2
 ·rw [e', hp]
theorem Grown.good {M M' : MemV} {f : Nat} {cls : Int} {l : List Int} (g : Grown M M' f cls l) (G : Good M) (hc : bM cls M.pl ≠ 0) (hf : f ≤ 2) (h256 : l.length ≤ 256) (room : M.fin + l.length + 3 ≤ M.n) (hm : M.made < 899999) : Good M' := by
 have h1 := G.le
 have h2 := G.lo
 have h3 := G.hi
 refine ⟨by rw [g.n]; exact G.n, by rw [g.n, g.fin]; omega, by rw [g.fin]; omega, by rw [g.n]; exact G.hi, by rw [g.made]; omega, fun a ha => ?_⟩
 rw [g.pl, tB _ (by omega)] at ha
 by_cases e : a = M.fin
 ·subst e
  refine ⟨h2, l.length * 4 + f, g.hd, by omega, by rw [g.fin]; omega, ?_⟩
  rw [g.cl, g.pl, rQ (by omega) hc]
  exact hc
 ·rw [if_neg e] at ha
  obtain ⟨p1, hd, p2, p3, p4, p5⟩ := G.ob a ha
  refine ⟨p1, hd, by rw [g.old _ (by omega)]; exact p2, p3, by rw [g.fin]; omega, ?_⟩
  rw [g.old _ (by omega), g.pl, rQ (by omega) p5]
  exact p5
section
theorem Wd.make61 {h : Hp} {M : MemV} {R : List Int} {es : List (DV × DV)} (W : Wd h M R es) (G : Good M) {cls : Int} (hc : bM cls M.pl ≠ 0) {f : Nat} (hf : f ≤ 2) {x : DV} {l : List Int} (S : SlI x l h) (h256 : l.length ≤ 256) (room : M.fin + l.length + 3 ≤ M.n)
  (hv : ∀ v ∈ l, okV f (M.pl.set M.fin (.ofNat 1)) v) {n : Nat} (hn : 256 < n) :
  ∃ h' M', cK (n + 1) 33 [.p (aM 7) 0, .i .i64 cls, .i .i64 (.ofNat f), x] h = some (.t [.i .i64 (.ofNat (M.fin * 2)), .i .i64 (.ofNat 0)], h') ∧ Wd h' M' R es ∧ Up h h' ∧ h'.next = h.next ∧ Grown M M' f cls l := by
 have h1 := G.le
 have h2 := G.lo
 have h3 := G.hi
 obtain ⟨gg, e1, W1, U1, N1⟩ := W.make G hc hf h256 room
 have t1 : ∀ j, (M.mk1 f l.length cls).t.get j = if M.fin + 3 ≤ j ∧ j < M.fin + 3 + l.length then 0 else if j = M.fin + 2 then .ofNat (M.made + 1) else if j = M.fin + 1 then cls else if j = M.fin then .ofNat (l.length * 4 + f) else M.t.get j := fun j => by
  show (lT _ l.length (M.fin + 3)).get j = _
  rw [oC _ _ _ _ (by omega), WT.get_set _ _ _ _ (by omega), WT.get_set _ _ _ _ (by omega), WT.get_set _ _ _ _ (by omega)]
 have ha : bM (.ofNat (M.fin * 2)) (M.mk1 f l.length cls).pl = M.fin := yQ h2 (by omega)
 have hq : (l.length * 4 + f) / 4 = l.length := by omega
 have hr : (l.length * 4 + f) % 4 = f := by omega
 obtain ⟨h', t', e2, W2, U2, N2, q⟩ := fill (n := n) (rec := cK n) (o := .ofNat (M.fin * 2)) (x := x) (a := M.fin) (hd := l.length * 4 + f) (pl := (M.mk1 f l.length cls).pl) ha (by omega) (by omega) l [] n (M.mk1 f l.length cls) gg W1
  (S.up U1) rfl (by rw [t1, if_neg (by omega), if_neg (by omega), if_neg (by omega), if_pos rfl]) (by rw [hq]; rfl) (by rw [hq]; show M.fin + 3 + l.length ≤ M.n; omega) h3 (by rw [hr]; exact hv) (by omega)
 refine ⟨h', _, ?_, W2, U1.trans U2, N2.trans N1, ?_⟩
 ·rw [mJ 33 rfl, cIn]
  unfold s33 aYr aUl aZi aWl bQd
  have sV : ∀ (a b : DV) (h : Hp), aC 0 (.t [a, b]) h = some (a, h) := fun a b h => rfl
  have sA : ∀ (a b : DV) (h : Hp), aC 1 (.t [a, b]) h = some (b, h) := fun a b h => rfl
  have hne : (Int.ofNat 0 != Int.ofNat 0) = false := rfl
  have el : iD (l.length : Int) = .i .i64 (.ofNat l.length) := rfl
  simp only [g0, g1, g2, g3, fU, gL, aL, W.l00, S.len (h' := h), el, e1, sV, sA, jJ, hne, aV, S.len (h' := gg)]
  exact e2
 ·have q' : ∀ j, t'.get j = if M.fin + 3 ≤ j ∧ j < M.fin + 3 + l.length then l.getD (j - (M.fin + 3)) 0 else (M.mk1 f l.length cls).t.get j := q
  refine ⟨rfl, rfl, rfl, rfl, ?_, ?_, fun j hj => ?_, fun i v hi => ?_⟩
  ·show t'.get M.fin = _
   rw [q', if_neg (by omega), t1, if_neg (by omega), if_neg (by omega), if_neg (by omega), if_pos rfl]
  ·show t'.get (M.fin + 1) = _
   rw [q', if_neg (by omega), t1, if_neg (by omega), if_neg (by omega), if_pos rfl]
  ·show t'.get j = _
   rw [q', if_neg (by omega), t1, if_neg (by omega), if_neg (by omega), if_neg (by omega), if_neg (by omega)]
  ·show t'.get (M.fin + 3 + i) = _
   have hl : i < l.length := by
    rcases Nat.lt_or_ge i l.length with q | q
    ·exact q
    ·rw [List.getElem?_eq_none q] at hi; cases hi
   rw [q', if_pos (by omega), show M.fin + 3 + i - (M.fin + 3) = i by omega]
   simp [List.getD, hi]
end
end Go.Dd

namespace Go.Dd
open Go.Proofs
def wsW : List Nat := [22, 204, 584, 80, 111, 105, 110, 116, 8, 168, 585, 8642, 8370, 6, 204, 586, 120, 8, 168, 587, 8668, 8658, 6, 204, 588, 121, 8, 168, 589, 8686, 8676, 8, 168, 590, 8668, 8686, 24, 24, 591, 8642, 6, 5, 8704, 0, 1, 8, 168, 592, 8714, 1096, 14, 204, 593, 69, 103, 103, 8, 168, 594, 8742, 8694, 0, 168, 595, 24, 24, 596, 8742, 6, 1, 8764, 0, 1, 8, 168, 597, 8770, 8732]
def plW : List Nat := [4321, 4329, 4334, 4338, 4343, 4347, 4352, 4357, 4366, 4371, 4377, 4382, 4385, 4394]
def syW : List (List Nat × Nat) := [([80, 111, 105, 110, 116], 8642), ([120], 8668), ([121], 8686), ([69, 103, 103], 8742)]
def clW : List (List Nat × Nat) := [([80, 111, 105, 110, 116], 8714), ([69, 103, 103], 8770)]
def RWr : List Nat := [8754, 8788, 6, 24, 42, 60, 78, 96, 114, 132, 150, 168, 186, 204, 222, 240, 258, 276]
noncomputable def MWt : WT := mkW wsW 4321 (bLb [] (mkW (oZ wsF 4321) 0 .e))
noncomputable def MWp : WT := mkP plW (mkP (oZ plF 583) .e)
noncomputable def esW : List (DV × DV) := aZv (bEu syF 80 ++ syW)
noncomputable def csW : List (DV × DV) := aZv (clF ++ clW)
noncomputable def HLW : List (Pos × Ob) :=
 (aM 7, .row .ex [.p (aM 3) 0, .l (aM 4) 0 18 18, .m (aM 5), .m (aM 6)]) :: (aM 6, .mp csW) :: (aM 5, .mp esW) :: (aM 4, .row .ex (cXe RWr)) ::
 (aM 3, .row .ex [.l (aM 1) 0 60000 60000, .i .i64 (.ofNat 4399), .i .i64 (.ofNat 597), .m (aM 2)]) :: (aM 2, .mi MWp) :: (aM 1, .big 60000 MWt) :: []
noncomputable def hW : Hp := iI 26900 HLW
def nxW : Nat := 26900
noncomputable def cMw (r : aG) (v : DV) (nx : Nat) (l : List (Pos × Ob)) : Bool := match r with
 | some (u, g) => dvE u v && (lW g.next (aM nx) && aUk g.bl l)
 | none => false
theorem cPb : cMw (s8 (bCj 900) 900 hS) (.p (aM 7) 0) 26900 HLW = true := by kernel_rfl
end Go.Dd

namespace Go.Dd
open Go.Proofs
theorem qK : ∀ (l : List Nat) (t : WT) (a : Nat), (∀ x ∈ l, x < 16000000) → (mkP l t).get a ≠ 0 → a ∈ l ∨ t.get a ≠ 0
 | [], t, a, _, h => .inr h
 | x :: l, t, a, hx, h => by
  rcases qK l (t.set x (.ofNat 1)) a (fun y hy => hx y (by simp [hy])) h with h1 | h1
  ·exact .inl (by simp [h1])
  ·rw [WT.get_set _ _ _ _ (hx x (by simp))] at h1
   by_cases e : a = x
   ·exact .inl (by simp [e])
   ·rw [if_neg e] at h1
    exact .inr h1
noncomputable def cDc (M : MemV) (a : Nat) : Bool := Nat.ble 3 a && (Nat.ble a 131072 && (match M.t.get a with
 | .ofNat hd => Nat.blt hd 1000000000000 && (Nat.ble (Nat.add (Nat.add a 3) (Nat.div hd 4)) M.fin && !(Nat.beq (bM (M.t.get (Nat.add a 1)) M.pl) 0))
 | .negSucc _ => false))
noncomputable def wM (p : Nat → Bool) (l : List Nat) : Bool := List.rec (motive := fun _ => Bool) true (fun x _ ih => p x && ih) l
theorem gA {p : Nat → Bool} : ∀ {l : List Nat}, wM p l = true → ∀ a ∈ l, p a = true
 | [], _, a, h => by cases h
 | x :: l, hl, a, h => by
  change (p x && wM p l) = true at hl
  simp only [Bool.and_eq_true] at hl
  simp only [List.mem_cons] at h
  rcases h with rfl | h
  ·exact hl.1
  ·exact gA hl.2 a h
theorem bYf {M : MemV} {l : List Nat} (hp : M.pl = mkP l .e) (hc : wM (cDc M) l = true) (hn : M.n ≤ 131072) (hf : M.fin ≤ M.n) (h3 : 3 ≤ M.fin) (hm : M.made < 900000) : Good M := by
 have ha : ∀ a ∈ l, cDc M a = true := gA hc
 refine ⟨by omega, hf, h3, hn, hm, fun a h => ?_⟩
 have hl : ∀ x ∈ l, x < 16000000 := fun x hx => by
  have := ha x hx
  simp only [cDc, Bool.and_eq_true, jN, decide_eq_true_eq] at this
  omega
 have hm : a ∈ l := by
  rw [hp] at h
  rcases qK l .e a hl h with h1 | h1
  ·exact h1
  ·exact absurd rfl h1
 have := ha a hm
 simp only [cDc, Bool.and_eq_true, jN, decide_eq_true_eq] at this
 obtain ⟨p1, p2, p3⟩ := this
 refine ⟨p1, ?_⟩
 cases ht : M.t.get a with
 | negSucc x => rw [ht] at p3; cases p3
 | ofNat hd =>
  rw [ht] at p3
  simp only [Bool.and_eq_true, gF, jN, decide_eq_true_eq] at p3
  obtain ⟨q1, q2, q3⟩ := p3
  refine ⟨hd, rfl, q1, q2, fun e => ?_⟩
  change (!(Nat.beq (bM (M.t.get (a + 1)) M.pl) 0)) = true at q3
  rw [e] at q3
  cases q3
noncomputable def MN : MemV := ⟨aM 1, 60000, 4399, 597, aM 2, MWt, MWp⟩
def RN : List Int := [8754, 8788, 6, 24, 42, 60, 78, 96, 114, 132, 150, 168, 186, 204, 222, 240, 258, 276]
noncomputable def esN : List (DV × DV) := esW
noncomputable def plN : List Nat := oZ plF 583 ++ plW
noncomputable def syN : List (List Nat × Nat) := bEu syF 80 ++ syW
theorem WN : Wd hW MN RN esN where
 w := by kernel_rfl
 r := by kernel_rfl
 rl := by kernel_rfl
 sy := by kernel_rfl
 mem := by kernel_rfl
 nx := by
  have : hW.next.toNat = 27923 := by kernel_rfl
  omega
 wb := rfl
 pb := rfl
theorem aTj : ∀ (l m : List Nat) (t : WT), mkP (l ++ m) t = mkP m (mkP l t)
 | [], m, t => rfl
 | x :: l, m, t => aTj l m (t.set x (.ofNat 1))
theorem bOq : MN.pl = mkP (oZ plF 583 ++ plW) .e := show mkP plW (mkP (oZ plF 583) .e) = _ from (aTj (oZ plF 583) plW .e).symm
theorem GN : Good MN := bYf (l := oZ plF 583 ++ plW) bOq (by kernel_rfl) (by show 60000 ≤ 131072; omega) (by show 4399 ≤ 60000; omega) (by show 3 ≤ 4399; omega) (by show 597 < 900000; omega)
theorem RNb : wM (fun i => !(Nat.beq (bM (RN.getD (2 + i) 0) MN.pl) 0)) [0, 1, 2, 3, 4, 5, 6, 7, 8, 9, 10, 11, 12, 13, 14, 15] = true := by kernel_rfl
theorem dCd (i : Nat) (hi : i < 16) : bM (RN.getD (2 + i) 0) MN.pl ≠ 0 := fun e => by
 have := gA RNb i (by simp only [List.mem_cons, List.not_mem_nil, or_false]; omega)
 rw [e] at this
 cases this
end Go.Dd

namespace Go.Dd
open Go.Proofs
theorem rg0 (rec : FuncId → List DV → Hp → aG) (k : K) (env : bF) (h : Hp) : kA CF0 rec 49 (gK (cL (cf Tryz.f158))) (gK (cL (cf Tryz.f158))).toList k env h = (
 bnd (cB (env 1) h) fun v1 h1 =>
 k (bP (bP env (some 3) v1) (some 4) (.i .i64 (Int.ofNat 0))) h1) := by kernel_rfl
theorem rg1 (rec : FuncId → List DV → Hp → aG) (k : K) (env : bF) (h : Hp) : kA CF0 rec 49 (gK (cL (cR (cf Tryz.f158)))) (gK (cL (cR (cf Tryz.f158)))).toList k env h = (
 bnd (bD (env 0) h) fun v1 h1 =>
 bnd (aB 0 v1 h1) fun v2 h2 =>
 bnd (aB 4 v2 h2) fun v3 h3 =>
 bnd (aA v3 h3) fun v4 h4 =>
 bnd (rec 188 [v4, (.f 189 [] [(env 3)])] h4) fun v5 h5 =>
 k (bP (bP (bP (bP (bP (bP (bP (bP env (some 6) (env 0)) (some 7) v1) (some 8) v2) (some 9) v3) (some 10) v4) (some 11) (.f 189 [] [(env 3)])) (some 12) v5) (some 5) v5) h5) := by kernel_rfl
theorem rg2 (rec : FuncId → List DV → Hp → aG) (k : K) (env : bF) (h : Hp) : kA CF0 rec 49 (gK (cL (cL (cR (cR (cf Tryz.f158)))))) (gK (cL (cL (cR (cR (cf Tryz.f158)))))).toList k env h = (
 bnd (aD .lss (env 5) (.i .i64 (Int.ofNat 0)) h) fun v1 h1 =>
 k (bP (bP env (some 13) (env 5)) (some 14) v1) h1) := by kernel_rfl
theorem rg3 (rec : FuncId → List DV → Hp → aG) (k : K) (env : bF) (h : Hp) : kA CF0 rec 49 (gK (cL (cL (cR (cL (cR (cR (cf Tryz.f158)))))))) (gK (cL (cL (cR (cL (cR (cR (cf Tryz.f158)))))))).toList k env h = (
 bnd (bD (env 0) h) fun v1 h1 =>
 bnd (aB 0 v1 h1) fun v2 h2 =>
 bnd (aB 4 v2 h2) fun v3 h3 =>
 bnd (aA v3 h3) fun v4 h4 =>
 bnd (cO v4 h4) fun v5 h5 =>
 k (bP (bP (bP (bP (bP (bP (bP env (some 15) (env 0)) (some 16) v1) (some 17) v2) (some 18) v3) (some 19) v4) (some 20) v5) (some 5) v5) h5) := by kernel_rfl
theorem rg5 (rec : FuncId → List DV → Hp → aG) (k : K) (env : bF) (h : Hp) : kA CF0 rec 49 (gK (cL (cL (cR (cR (cL (cR (cL (cR (cR (cf Tryz.f158))))))))))) (gK (cL (cL (cR (cR (cL (cR (cL (cR (cR (cf Tryz.f158))))))))))).toList k env h = (
 bnd (bD (env 0) h) fun v1 h1 =>
 bnd (aB 0 v1 h1) fun v2 h2 =>
 bnd (aB 4 v2 h2) fun v3 h3 =>
 bnd (aA v3 h3) fun v4 h4 =>
 bnd (cO v4 h4) fun v5 h5 =>
 bnd (aJ [(.i .i64 (Int.ofNat 0)), (.s []), (.i .i64 (Int.ofNat 0)), .l0] 1 [(0, 4, (.a [(.i .i64 (Int.ofNat 0)), (.s []), (.i .i64 (Int.ofNat 0)), .l0]))] h5) fun v6 h6 =>
 bnd (bB 4 56 v4 v6 h6) fun v7 h7 =>
 bnd (bD (env 0) h7) fun v8 h8 =>
 bnd (aB 0 v8 h8) fun v9 h9 =>
 bnd (aB 4 v9 h9) fun v10 h10 =>
 bnd (aI 1 v10 v7 h10) fun _ h11 =>
 k (bP (bP (bP (bP (bP (bP (bP (bP (bP (bP (bP env (some 23) (env 0)) (some 24) v1) (some 25) v2) (some 26) v3) (some 27) v4) (some 28) v5) (some 29) v6) (some 30) v7) (some 31) v8) (some 32) v9) (some 33) v10) h11) := by kernel_rfl
theorem rg6 (rec : FuncId → List DV → Hp → aG) (k : K) (env : bF) (h : Hp) : kA CF0 rec 49 (gK (cR (cL (cR (cR (cL (cR (cL (cR (cR (cf Tryz.f158))))))))))) (gK (cR (cL (cR (cR (cL (cR (cL (cR (cR (cf Tryz.f158))))))))))).toList k env h = (
 bnd (aN 4 (env 3) h) fun v1 h1 =>
 bnd (aF 4 (env 30) (env 28) h1) fun v2 h2 =>
 bnd (aI 4 v2 v1 h2) fun _ h3 =>
 k (bP (bP env (some 34) v1) (some 35) v2) h3) := by kernel_rfl
theorem rg7 (rec : FuncId → List DV → Hp → aG) (k : K) (env : bF) (h : Hp) : jI CF0 rec 49 (gK (cR (cR (cR (cL (cR (cL (cR (cR (cf Tryz.f158)))))))))) k env h = (
 bnd (bD (env 0) (resv 1 h)) fun v1 h1 =>
 bnd (aB 0 v1 h1) fun v2 h2 =>
 bnd (aB 4 v2 h2) fun v3 h3 =>
 bnd (aA v3 h3) fun v4 h4 =>
 bnd (aN 4 (env 3) h4) fun v5 h5 =>
 bnd (bY (cH 0 h.next) [(.i .i64 (Int.ofNat 0)), (.s []), (.i .i64 (Int.ofNat 0)), .l0] 1 [(0, 4, v5)] h5) fun v6 h6 =>
 bnd (bB 4 56 v4 v6 h6) fun v7 h7 =>
 bnd (bD (env 0) h7) fun v8 h8 =>
 bnd (aB 0 v8 h8) fun v9 h9 =>
 bnd (aB 4 v9 h9) fun v10 h10 =>
 bnd (aI 1 v10 v7 h10) fun v11 h11 =>
 k (bP (bP (bP (bP (bP (bP (bP (bP (bP (bP (bP (bP env (some 36) (env 0)) (some 37) (env 0)) (some 38) v1) (some 39) v2) (some 40) v3) (some 41) v4) (some 42) v5) (some 43) v6) (some 44) v7) (some 45) v8) (some 46) v9) (some 47) v10) h11) := by kernel_rfl
theorem rg8 (rec : FuncId → List DV → Hp → aG) (k : K) (env : bF) (h : Hp) : kA CF0 rec 49 (gK (cL (cR (cR (cR (cf Tryz.f158)))))) (gK (cL (cR (cR (cR (cf Tryz.f158)))))).toList k env h = (
 k (bP (bP env (some 48) (env 5)) (some 4) (env 5)) h) := by kernel_rfl
end Go.Dd

namespace Go.Dd
open Go.Proofs
theorem HR.sub {G : Gd} {ρ : Ren} {h h' : Hp} {w : World} (S : Sim true h h') (H : HR G ρ h' w) : HR G ρ h w := by
 have hg : ∀ b o, h.bl.get b = some o → h'.bl.get b = some o := fun b o hb => by
  obtain ⟨o', h1, h2⟩ := S.get b o hb
  rw [h1, kY h2]
 have hc : ∀ b a, Claims ρ h b a → Claims ρ h' b a := fun b a ⟨k, l, L, h1, h2, h3⟩ => ⟨k, l, L, hg _ _ h1, h2, h3⟩
 have hro : ∀ b a, Claims ρ h b a → ¬ isRo h b → ¬ isRo h' b := fun b a ⟨k, l, L, h1, h2, h3⟩ hn ⟨l', hl⟩ => by
  rw [hg _ _ h1] at hl
  simp only [bC, Ob.row.injEq] at hl
  exact hn ⟨l, by rw [h1, hl.1]⟩
 exact ⟨H.gl, H.sz, by rw [← S.next]; exact H.nx, fun b a h1 ⟨l, h2⟩ => H.ro b a (hc b a h1) ⟨l, hg _ _ h2⟩, fun b o hb => H.dom b o (hg b o hb), fun b L hb => by rw [← S.next]; exact H.lt b L hb,
  fun b k l L i v h1 => H.cell b k l L i v (hg _ _ h1), fun b l L es j h1 => H.spare b l L es j (hg _ _ h1), fun b a h1 h2 => H.free b a (hc b a h1) (hro b a h1 h2),
  fun b b' a h1 h2 h3 => H.inj b b' a (hc b a h1) (hc b' a h2) (hro b a h1 h3),
  fun b l L h1 => H.ex b l L (h1.elim (fun q => .inl (hg _ _ q)) (fun q => .inr (hg _ _ q))), fun b es l i v h1 => H.grone b es l i v (hg _ _ h1),
  fun b o L h1 h2 => H.itr b o L h1 (hg _ _ h2), fun b o b' o' L L' h1 h2 h3 h4 => H.itj b o b' o' L L' h1 h2 (hg _ _ h3) (hg _ _ h4)⟩
theorem sT : ∀ p : Pos, lW p p = true
 | .h => rfl
 | .o p => sT p
 | .i p => sT p
theorem aYc {p q : Pos} (h : lW p q = false) : p ≠ q := fun e => by subst e; rw [sT] at h; cases h
open Classical in
noncomputable def kk (N : bF → Hp → Prop) : K := fun env h => if N env h then some (aR, h) else none
theorem tW {N : bF → Hp → Prop} {env : bF} {h : Hp} (hn : N env h) : ∃ r, kk N env h = some r := ⟨_, if_pos hn⟩
theorem cJo {N : bF → Hp → Prop} {env : bF} {h : Hp} {r} (hn : kk N env h = some r) : N env h := by
 unfold kk at hn
 split at hn
 ·assumption
 ·cases hn
section
variable {C : Cfg} {rec : FuncId → List DV → Hp → aG} {nt : Nat} {X : Nat → bF → Hp → Prop} {R N : bF → Hp → Prop} {env : bF} {h : Hp}
theorem wpS {a b : Code} (H : sN C rec nt a X R (sN C rec nt b X R N) env h) : sN C rec nt (.seq a b) X R N env h := H
theorem aMq {id : Nat} {ops : Array Oper} (H : ∃ r, kA C rec nt ops ops.toList (kk fun e h => oY h → N e h) env h = some r) : sN C rec nt (.region id ops false) X R N env h := by
 obtain ⟨r, hr⟩ := H
 obtain ⟨env', h', h1, h2⟩ := xP _ _ _ _ _ hr
 simp only [sN, Bool.false_eq_true, if_false]
 exact ⟨env', h', h1, cJo h2⟩
theorem dJe {id : Nat} {ops : Array Oper} (hd : fS C.P ops = true) (H : ∃ r, jI C rec nt ops (kk fun e h => oY h → N e h) env h = some r) : sN C rec nt (.region id ops true) X R N env h := by
 obtain ⟨r, hr⟩ := H
 simp only [sN, if_true]
 exact .inr ⟨hd, _, r, hr, fun env' h' h1 h2 => cJo h1 h2⟩
theorem dIo {id : Nat} {ops : Array Oper} (H : aKz C rec nt ops (fun e h => oY h → N e h) ops.size (Array.replicate ops.size false) env h) : sN C rec nt (.region id ops true) X R N env h := by
 simp only [sN, if_true]
 exact .inl H
theorem wpC {c : Operand} {a b : Code} {t : Bool} (hc : opr env c = .b t) (H : (t = true → sN C rec nt a X R N env h) ∧ (t = false → sN C rec nt b X R N env h)) : sN C rec nt (.cond c a b) X R N env h := by
 cases t with
 | true => exact .inl ⟨hc, H.1 rfl⟩
 | false => exact .inr ⟨hc, H.2 rfl⟩
end
noncomputable def dFc : Code := cL (cR (cL (cR (cL (cR (cR (cf Tryz.f158)))))))
noncomputable def R4 : Array Oper := gK dFc
theorem cYc : cf Tryz.f158 = .seq (.region 0 (gK (cL (cf Tryz.f158))) false) (.seq (.region 1 (gK (cL (cR (cf Tryz.f158)))) false) (.seq (.seq (.region 2 (gK (cL (cL (cR (cR (cf Tryz.f158)))))) false)
 (.cond (.tmp 14) (.seq (.region 3 (gK (cL (cL (cR (cL (cR (cR (cf Tryz.f158)))))))) false) (.seq (.region 4 R4 true) (.cond (.tmp 22)
  (.seq (.region 5 (gK (cL (cL (cR (cR (cL (cR (cL (cR (cR (cf Tryz.f158))))))))))) false) (.region 6 (gK (cR (cL (cR (cR (cL (cR (cL (cR (cR (cf Tryz.f158))))))))))) false))
  (.region 7 (gK (cR (cR (cR (cL (cR (cL (cR (cR (cf Tryz.f158)))))))))) true)))) .skip)) (.seq (.region 8 (gK (cL (cR (cR (cR (cf Tryz.f158)))))) false) .ret))) := by kernel_rfl
noncomputable def o4 (i : Nat) : Oper := (R4.toList[i]?).getD (Oper.mk none (.move (.tmp 0)) 0 "" #[] none)
theorem dJa : R4[0]? = some (o4 0) := by kernel_rfl
theorem cZu : R4[1]? = some (o4 1) := by kernel_rfl
theorem cXc : R4[2]? = some (o4 2) := by kernel_rfl
theorem dJw : R4[3]? = some (o4 3) := by kernel_rfl
theorem dFt (rec : FuncId → List DV → Hp → aG) (env : bF) (h : Hp) : bK CF0 rec R4 (o4 0) env h = cF [.b false] h := by kernel_rfl
theorem cYw (rec : FuncId → List DV → Hp → aG) (env : bF) (h : Hp) : bK CF0 rec R4 (o4 1) env h = aI 1 (env 21) (.b true) h := by kernel_rfl
theorem dCh (rec : FuncId → List DV → Hp → aG) (env : bF) (h : Hp) : bK CF0 rec R4 (o4 2) env h = aI 1 (env 21) (.b false) h := by kernel_rfl
theorem dHw (rec : FuncId → List DV → Hp → aG) (env : bF) (h : Hp) : bK CF0 rec R4 (o4 3) env h = aA (env 21) h := by kernel_rfl
theorem cYv : (o4 0).dst = some 21 := by kernel_rfl
theorem bVe : (o4 1).dst = none := by kernel_rfl
theorem bVf : (o4 2).dst = none := by kernel_rfl
theorem cYx : (o4 3).dst = some 22 := by kernel_rfl
theorem z4 : Array.replicate R4.size false = #[false, false, false, false] := by kernel_rfl
theorem y4 : R4.size = 4 := by kernel_rfl
theorem dHq : Region.ready .any R4 #[false, false, false, false] = [0] := by kernel_rfl
theorem dAw : Region.ready .any R4 #[true, false, false, false] = [1, 2] := by kernel_rfl
theorem dFb : Region.ready .any R4 #[true, true, false, false] = [2] := by kernel_rfl
theorem dFu : Region.ready .any R4 #[true, false, true, false] = [1] := by kernel_rfl
theorem dEz : Region.ready .any R4 #[true, true, true, false] = [3] := by kernel_rfl
theorem dGt : Region.ready .any R4 #[true, true, true, true] = [] := by kernel_rfl
theorem dIk : (#[false, false, false, false] : Array Bool).setIfInBounds 0 true = #[true, false, false, false] := by kernel_rfl
theorem dJf : (#[true, false, false, false] : Array Bool).setIfInBounds 1 true = #[true, true, false, false] := by kernel_rfl
theorem dEt : (#[true, false, false, false] : Array Bool).setIfInBounds 2 true = #[true, false, true, false] := by kernel_rfl
theorem dGu : (#[true, true, false, false] : Array Bool).setIfInBounds 2 true = #[true, true, true, false] := by kernel_rfl
theorem dHd : (#[true, false, true, false] : Array Bool).setIfInBounds 1 true = #[true, true, true, false] := by kernel_rfl
theorem dGl : (#[true, true, true, false] : Array Bool).setIfInBounds 3 true = #[true, true, true, true] := by kernel_rfl
theorem bZa {C : Cfg} {rec : FuncId → List DV → Hp → aG} {nt f i : Nat} {ops : Array Oper} {mT : bF → Hp → Prop} {listed l' : Array Bool} {env : bF} {h h' : Hp} {o : Oper} {v : DV} (hr : Region.ready .any ops listed = [i])
  (ho : ops[i]? = some o) (hf : dD nt o.dst = true) (hs : bK C rec ops o env h = some (v, h')) (hl : listed.setIfInBounds i true = l') (hn : aKz C rec nt ops mT f l' (bP env o.dst v) h') : aKz C rec nt ops mT (f + 1) listed env h := by
 refine ⟨fun e => ?_, fun j hj => ?_⟩
 ·rw [hr] at e; cases e
 ·rw [hr] at hj
  simp only [List.mem_singleton] at hj
  subst hj
  exact ⟨o, v, h', ho, hf, hs, by rw [hl]; exact hn⟩
structure After (h h' : Hp) : Prop where
 next : h'.next = h.next.succ
 get : ∀ b, b ≠ h.next → h'.bl.get b = h.bl.get b
theorem dHx {rec : FuncId → List DV → Hp → aG} {mT : bF → Hp → Prop} {env : bF} {h : Hp} (H : ∀ x h', After h h' → mT (bP (bP env (some 21) (.p h.next 0)) (some 22) (.b x)) h') :
  aKz CF0 rec 49 R4 mT R4.size (Array.replicate R4.size false) env h := by
 rw [z4, y4]
 have st : ∀ (n : Pos) (bl : Tr Ob) (x y : Bool), bl.get h.next = some (.row .ex [.b y]) → aI 1 (.p h.next 0) (.b x) ⟨n, bl⟩ = some (aR, ⟨n, Tr.set (.row .ex [.b x]) h.next bl⟩) := fun n bl x y e => by
  simp only [aI, cT, cV, e, Kind.writable, List.length_singleton, if_true, fI, jV, DV.one, Bool.and_self, Option.map_some]
 have ld : ∀ (n : Pos) (bl : Tr Ob) (x : Bool), bl.get h.next = some (.row .ex [.b x]) → aA (.p h.next 0) ⟨n, bl⟩ = some (.b x, ⟨n, bl⟩) := fun n bl x e => by
  simp only [aA, cellD, rowOf, e, List.getElem?_cons_zero, DV.one, if_true]
 have g0 : ∀ (t : Tr Ob) (x : Bool), (Tr.set (.row .ex [.b x]) h.next t).get h.next = some (.row .ex [.b x]) := fun t x => dKc _ _ _
 have go : ∀ (t : Tr Ob) (x : Bool) (b : Pos), b ≠ h.next → (Tr.set (.row .ex [.b x]) h.next t).get b = t.get b := fun t x b e => dKb _ _ _ _ e
 have fin : ∀ (t : Tr Ob) (x : Bool), (∀ b, b ≠ h.next → t.get b = h.bl.get b) → t.get h.next = some (.row .ex [.b x]) →
   aKz CF0 rec 49 R4 mT 1 #[true, true, true, false] (bP env (some 21) (.p h.next 0)) ⟨h.next.succ, t⟩ := fun t x e1 e2 => by
  refine bZa dEz dJw (by rw [cYx]; rfl) ((dHw _ _ _).trans (ld _ _ x e2)) dGl ?_
  rw [cYx]
  exact ⟨dGt, H x _ ⟨rfl, e1⟩⟩
 refine bZa dHq dJa (by rw [cYv]; rfl) (dFt _ _ _) dIk ?_
 rw [cYv]
 refine ⟨fun e => (by rw [dAw] at e; cases e), fun j hj => ?_⟩
 rw [dAw] at hj
 simp only [List.mem_cons, List.not_mem_nil, or_false] at hj
 rcases hj with rfl | rfl
 ·refine ⟨_, _, _, cZu, by rw [bVe]; rfl, (cYw _ _ _).trans (st _ _ true false (g0 _ _)), ?_⟩
  rw [dJf, bVe]
  refine bZa dFb cXc (by rw [bVf]; rfl) ((dCh _ _ _).trans (st _ _ false true (g0 _ _))) dGu ?_
  rw [bVf]
  exact fin _ false (fun b e => by rw [go _ _ _ e, go _ _ _ e, go _ _ _ e]) (g0 _ _)
 ·refine ⟨_, _, _, cXc, by rw [bVf]; rfl, (dCh _ _ _).trans (st _ _ false false (g0 _ _)), ?_⟩
  rw [dEt, bVf]
  refine bZa dFu cZu (by rw [bVe]; rfl) ((cYw _ _ _).trans (st _ _ true false (g0 _ _))) dHd ?_
  rw [bVe]
  exact fin _ true (fun b e => by rw [go _ _ _ e, go _ _ _ e, go _ _ _ e]) (g0 _ _)
end Go.Dd

namespace Go.Dd
open Go.Proofs
theorem bMn {h h' g : Hp} {x v : DV} (hg : ∀ b o, h.bl.get b = some o → h'.bl.get b = some o) (e : aA x h = some (v, g)) : aA x h' = some (v, h') := by
 have S : Sim true ⟨h'.next, h.bl⟩ h' := ⟨rfl, fun b o hb => ⟨o, hg b o hb, kL o⟩⟩
 have e' : aA x ⟨h'.next, h.bl⟩ = some (v, ⟨h'.next, h.bl⟩) := by
  unfold aA at e ⊢
  split at e <;> (try (cases e; done))
  rename_i b o
  change (match cellD b o ⟨h'.next, h.bl⟩ with
   | some v => some (v, (⟨h'.next, h.bl⟩ : Hp))
   | none => none) = _
  change (match cellD b o ⟨h'.next, h.bl⟩ with
   | some v => some (v, h)
   | none => none) = _ at e
  split at e <;> (try (cases e; done))
  rename_i u hu
  simp only [bC, bO] at e
  rw [e.1]
 obtain ⟨k, e1, e2⟩ := lR x _ _ S v _ e'
 obtain ⟨rfl, _⟩ := (show k = h' ∧ True by
  unfold aA at e1
  split at e1 <;> (try (cases e1; done))
  split at e1 <;> (try (cases e1; done))
  simp only [bC, bO] at e1
  exact ⟨e1.2.symm, trivial⟩)
 exact e1
theorem bDt {h h' g : Hp} {n : Nat} {x v : DV} (hg : ∀ b o, h.bl.get b = some o → h'.bl.get b = some o) (e : aN n x h = some (v, g)) : aN n x h' = some (v, h') := by
 have S : Sim true ⟨h'.next, h.bl⟩ h' := ⟨rfl, fun b o hb => ⟨o, hg b o hb, kL o⟩⟩
 have e' : aN n x ⟨h'.next, h.bl⟩ = some (v, ⟨h'.next, h.bl⟩) := by
  unfold aN at e ⊢
  split at e <;> (try (cases e; done))
  rename_i b o
  change (match cellsAt b o n ⟨h'.next, h.bl⟩ with
   | some v => some (DV.a v, (⟨h'.next, h.bl⟩ : Hp))
   | none => none) = _
  change (match cellsAt b o n ⟨h'.next, h.bl⟩ with
   | some v => some (DV.a v, h)
   | none => none) = _ at e
  split at e <;> (try (cases e; done))
  rename_i u hu
  simp only [bC, bO] at e
  rw [← e.1]
 obtain ⟨k, e1, e2⟩ := lN n x _ _ S v _ e'
 obtain ⟨rfl, _⟩ := (show k = h' ∧ True by
  unfold aN at e1
  split at e1 <;> (try (cases e1; done))
  split at e1 <;> (try (cases e1; done))
  simp only [bC, bO] at e1
  exact ⟨e1.2.symm, trivial⟩)
 exact e1
theorem bHc {q : Pos} {l1 v : DV} {cs : List DV} {h k : Hp} (e : kT q l1 cs h = some (v, k)) : ∃ (n : Nat) (old : List DV) (t : Tr Ob), v = .l h.next 0 (n + 1) (n + 1) ∧ (∀ g, cO l1 g = some (.i .i64 (n : Int), g)) ∧
  old.length = n * 4 ∧ (∀ v ∈ old, v.one = true) ∧ k = ⟨h.next.succ, Tr.set (.row (.gr 4) (old ++ cs)) h.next t⟩ ∧ t.get q = h.bl.get q ∧ (∀ b, t.get b ≠ none → h.bl.get b ≠ none) ∧
  ∀ zs, kT q l1 zs h = some (v, ⟨h.next.succ, Tr.set (.row (.gr 4) (old ++ zs)) h.next t⟩) := by
 unfold kT at e
 split at e <;> (try (cases e; done))
 ·simp only [bC, bO] at e
  obtain ⟨rfl, rfl⟩ := e
  exact ⟨0, [], h.bl, rfl, fun g => rfl, rfl, by simp, rfl, rfl, fun b hb => hb, fun zs => rfl⟩
 ·rename_i b o len cap
  cases hc : (Nat.ble cap len && !(lW b q)) with
  | false => rw [hc] at e; cases e
  | true =>
   rw [hc] at e
   simp only [cnd] at e
   split at e <;> (try (cases e; done))
   rename_i es l old hb hold
   split at e <;> (try (cases e; done))
   rename_i hr
   simp only [bC, bO] at e
   obtain ⟨rfl, rfl⟩ := e
   have hq : q ≠ b := by
    simp only [Bool.and_eq_true, Bool.not_eq_true'] at hc
    exact Ne.symm (aYc hc.2)
   have hl : old.length = len * 4 ∧ ∀ v ∈ old, v.one = true := by
    unfold cellsAt at hold
    split at hold <;> (try (cases hold; done))
    obtain ⟨h1, _, _, h4⟩ := kJ _ _ _ hold
    exact ⟨h1, h4⟩
   refine ⟨len, old, Tr.set (.row .sp (bU o l)) b h.bl, rfl, fun g => rfl, hl.1, hl.2, rfl, dKb _ _ _ _ hq, fun x hx => ?_, fun zs => ?_⟩
   ·by_cases e : x = b
    ·rw [e, hb]; simp
    ·rwa [dKb _ _ _ _ e] at hx
   ·unfold kT
    dsimp only
    rw [hc]
    simp only [cnd, hb, hold, if_pos hr]
theorem aVc {q : Pos} {l1 x v : DV} {cs : List DV} {h h' k : Hp} (S : Sim true h h') (hx : rB 4 x h' = some (1, cs)) (e : kT q l1 cs h = some (v, k)) : ∃ k', bB 4 56 l1 x h' = some (v, k') ∧ Sim true k k' := by
 unfold kT at e
 split at e <;> (try (cases e; done))
 ·simp only [bC, bO] at e
  obtain ⟨rfl, rfl⟩ := e
  refine ⟨⟨h'.next.succ, Tr.set (.row (.gr 4) cs) h'.next h'.bl⟩, ?_, ?_⟩
  ·unfold bB
   rw [hx]
   dsimp only
   rw [if_neg (by simp), if_pos (by decide), S.next]
  ·rw [S.next]; exact S.setR _ _ _ _
 ·rename_i b o len cap
  cases hc : (Nat.ble cap len && !(lW b q)) with
  | false => rw [hc] at e; cases e
  | true =>
   rw [hc] at e
   simp only [cnd] at e
   split at e <;> (try (cases e; done))
   rename_i es l old hb hold
   split at e <;> (try (cases e; done))
   rename_i hr
   simp only [bC, bO] at e
   obtain ⟨rfl, rfl⟩ := e
   have hle : cap ≤ len := by
    simp only [Bool.and_eq_true] at hc
    exact Nat.le_of_ble_eq_true hc.1
   refine ⟨⟨h'.next.succ, Tr.set (.row (.gr 4) (old ++ cs)) h'.next (Tr.set (.row .sp (bU o l)) b h'.bl)⟩, ?_, ?_⟩
   ·unfold bB
    rw [hx]
    dsimp only
    rw [if_neg (by omega), S.row hb, S.cellsAt hold]
    dsimp only
    rw [if_pos hr.2.2, if_pos ⟨hr.1, hr.2.1⟩, S.next]
   ·rw [S.next]
    exact (S.setR .sp (bU o l) b h.next).setR _ _ _ _
theorem aSh : ∀ (old zs cs : List DV), zs.length = cs.length → (∀ v ∈ zs, v.one = true) → (∀ v ∈ cs, v.one = true) → fI old.length (old ++ zs) cs = some (old ++ cs)
 | [], zs, cs, hl, hz, hc => by
  show jV zs cs = some cs
  induction cs generalizing zs with
  | nil => cases zs with
   | nil => rfl
   | cons z zs => simp at hl
  | cons c cs ih => cases zs with
   | nil => simp at hl
   | cons z zs =>
    simp only [jV, hz z (by simp), hc c (by simp), Bool.and_self, if_true]
    rw [ih zs (by simpa using hl) (fun v hv => hz v (by simp [hv])) (fun v hv => hc v (by simp [hv]))]
    rfl
 | x :: old, zs, cs, hl, hz, hc => by
  show (fI old.length (old ++ zs) cs).map (x :: ·) = _
  rw [aSh old zs cs hl hz hc]
  rfl
end Go.Dd

namespace Go.Dd
open Go.Proofs
theorem bAv : (Tryz.prog.funcs.toList.all fun fn => !(fn.name == "runtime.NumGoroutine")) = true := by kernel_rfl
theorem Try_ok : POk Tryz.prog where
 mixed := by kernel_rfl
 names := by
  intro f fn hf
  have h := List.all_eq_true.1 bAv fn (by
   obtain ⟨hlt, rfl⟩ := Array.getElem?_eq_some_iff.1 hf
   simp)
  simpa using h
theorem KC0 : OkC CF0 (fnD CF0 60) := ⟨fun G g F h => (by cases h), fun G g => bQz (C := CF0) Try_ok (fun G g F h => (by cases h)) 60 G g⟩
theorem cRh (e : bF) (h : Hp) : aS CF0 Tryz.f158 e h = some (e 4, h) := by kernel_rfl
theorem dAt : Tryz.f158.ntmps = 49 := by kernel_rfl
theorem cZf : Tryz.prog.funcs[158]? = some Tryz.f158 := by kernel_rfl
theorem cFk : Tryz.f158.body = some (cf Tryz.f158) := by kernel_rfl
theorem dCl : fS CF0.P (gK (cR (cR (cR (cL (cR (cL (cR (cR (cf Tryz.f158)))))))))) = true := by kernel_rfl
theorem aSs {X : Nat → bF → Hp → Prop} {N : bF → Hp → Prop} {env : bF} {v : DV} {h h1 : Hp} (he : env 5 = v) (S : Sim true h1 h) :
  sN CF0 (fnD CF0 60) 49 (.seq (.region 8 (gK (cL (cR (cR (cR (cf Tryz.f158)))))) false) .ret) X (fun env h' => ∃ h2, aS CF0 Tryz.f158 env h' = some (v, h2) ∧ Le h2 h1) N env h := by
 refine wpS (aMq ?_)
 rw [rg8]
 refine tW fun _ => ?_
 exact ⟨h, (cRh _ _).trans (by rw [show (bP (bP env (some 48) (env 5)) (some 4) (env 5)) 4 = env 5 from rfl, he]), fun G ρ w H => H.sub S⟩
theorem wH {F : Hp → aG} (hF : PureP F) {h g : Hp} {v : DV} (e : F h = some (v, g)) : g = h ∧ ∀ h', F h' = some (v, h') := hF h v g e
theorem sL {h g : Hp} {c : Pos} {o : Nat} {v : DV} (e : aA (.p c o) h = some (v, g)) : g = h ∧ ∃ u, h.bl.get c = some u := by
 change (match cellD c o h with
  | some v => some (v, h)
  | none => none) = _ at e
 split at e <;> (try (cases e; done))
 rename_i u hu
 simp only [bC, bO] at e
 refine ⟨e.2.symm, ?_⟩
 unfold cellD rowOf at hu
 cases hc : h.bl.get c with
 | none => rw [hc] at hu; cases hu
 | some u => exact ⟨u, rfl⟩
theorem tC {h g : Hp} {c : Pos} {o n : Nat} {v : DV} (e : aN n (.p c o) h = some (v, g)) : g = h ∧ (∃ u, h.bl.get c = some u) ∧ ∃ cs, v = .a cs ∧ cs.length = n ∧ ∀ x ∈ cs, x.one = true := by
 change (match cellsAt c o n h with
  | some cs => some (DV.a cs, h)
  | none => none) = _ at e
 split at e <;> (try (cases e; done))
 rename_i u hu
 simp only [bC, bO] at e
 refine ⟨e.2.symm, ?_⟩
 unfold cellsAt rowOf at hu
 cases hc : h.bl.get c with
 | none => rw [hc] at hu; cases hu
 | some ob =>
  refine ⟨⟨ob, rfl⟩, u, e.1.symm, ?_⟩
  rw [hc] at hu
  split at hu <;> (try (cases hu; done))
  obtain ⟨h1, _, _, h4⟩ := kJ _ _ _ hu
  exact ⟨h1, h4⟩
theorem Sim.of_get {h h' : Hp} (e : h'.next = h.next) (g : ∀ b o, h.bl.get b = some o → h'.bl.get b = some o) : Sim true h h' := ⟨e, fun b o hb => ⟨o, g b o hb, kL o⟩⟩
theorem bSx (c : Pos) (h : Hp) : bD (.p c 0) h = some (.p c 0, h) := rfl
theorem cQz (c : Pos) (h : Hp) : aB 0 (.p c 0) h = some (.p c 0, h) := rfl
theorem cRr (c : Pos) (h : Hp) : aB 4 (.p c 0) h = some (.p c 4, h) := rfl
theorem aKp (env : bF) (i : Nat) (v : DV) (j : Nat) (h : Nat.beq j i = false) : bP env (some i) v j = env j := by
 show (bif Nat.beq j i then v else env j) = _
 rw [h]; rfl
theorem bSa (env : bF) (i : Nat) (v : DV) : bP env (some i) v i = v := by
 show (bif Nat.beq i i then v else env i) = _
 rw [Nat.beq_refl]; rfl
theorem yP : ∀ cs : List DV, (∀ v ∈ cs, v.one = true) → gJ cs.length cs = some cs
 | [], _ => rfl
 | c :: cs, h => by
  show (if c.one then (gJ cs.length cs).map (c :: ·) else none) = _
  rw [if_pos (h c (by simp)), yP cs fun v hv => h v (by simp [hv])]
  rfl
theorem aTc {cs : List DV} (h4 : cs.length = 4) (ho : ∀ v ∈ cs, v.one = true) (p n : Pos) (t : Tr Ob) : rB 4 (.l p 0 1 1) ⟨n, Tr.set (.row .ex cs) p t⟩ = some (1, cs) := by
 have e : cellsAt p 0 (1 * 4) ⟨n, Tr.set (.row .ex cs) p t⟩ = some cs := by
  unfold cellsAt rowOf
  simp only [dKc, List.drop_zero]
  rw [show 1 * 4 = cs.length by rw [h4]]
  exact yP cs ho
 simp only [rB, e]
theorem bEc {h h' : Hp} {n o : Nat} {q : Pos} {v : DV} (hg : h'.bl.get q = h.bl.get q) (e : aN n (.p q o) h = some (v, h)) : aN n (.p q o) h' = some (v, h') := by
 have e1 : cellsAt q o n h' = cellsAt q o n h := by
  unfold cellsAt rowOf
  rw [hg]
 change (match cellsAt q o n h with
  | some cs => some (DV.a cs, h)
  | none => none) = _ at e
 show (match cellsAt q o n h' with
  | some cs => some (DV.a cs, h')
  | none => none) = _
 rw [e1]
 split at e <;> (try (cases e; done))
 simp only [bC, bO] at e
 rw [e.1]
structure Way (g3 h5 : Hp) (c q : Pos) (l1 l2 n u : DV) (cs : List DV) (k3 k4 : Hp) (env : bF) : Prop where
 fr : oY g3
 af : After g3 h5
 hl : aA (.p c 4) g3 = some (l1, g3)
 hx : aN 4 (.p q 0) g3 = some (.a cs, g3)
 ne : c ≠ q
 hn : cO l1 g3 = some (n, g3)
 ap : kT q l1 cs ⟨g3.next.succ.succ, g3.bl⟩ = some (l2, k3)
 st : aI 1 (.p c 4) l2 k3 = some (u, k4)
 e0 : env 0 = .p c 0
 e3 : env 3 = .p q 0
 e5 : env 5 = n
section
theorem Way.up {g3 h5 : Hp} {c q : Pos} {l1 l2 n u : DV} {cs : List DV} {k3 k4 : Hp} {env : bF} (W : Way g3 h5 c q l1 l2 n u cs k3 k4 env) : ∀ b o, g3.bl.get b = some o → h5.bl.get b = some o := fun b o hb => by
 rw [W.af.get b (fun e => ?_)]
 ·exact hb
 ·subst e; exact Nat.lt_irrefl _ (W.fr _ _ hb)
theorem Way.c5 {g3 h5 : Hp} {c q : Pos} {l1 l2 n u : DV} {cs : List DV} {k3 k4 : Hp} {env : bF} (W : Way g3 h5 c q l1 l2 n u cs k3 k4 env) (n' : Pos) : aA (.p c 4) ⟨n', h5.bl⟩ = some (l1, ⟨n', h5.bl⟩) := bMn W.up W.hl
theorem Way.q5 {g3 h5 : Hp} {c q : Pos} {l1 l2 n u : DV} {cs : List DV} {k3 k4 : Hp} {env : bF} (W : Way g3 h5 c q l1 l2 n u cs k3 k4 env) (n' : Pos) : aN 4 (.p q 0) ⟨n', h5.bl⟩ = some (.a cs, ⟨n', h5.bl⟩) := bDt W.up W.hx
theorem Way.len {g3 h5 : Hp} {c q : Pos} {l1 l2 n u : DV} {cs : List DV} {k3 k4 : Hp} {env : bF} (W : Way g3 h5 c q l1 l2 n u cs k3 k4 env) (h : Hp) : cO l1 h = some (n, h) := (wH (nS l1) W.hn).2 h
theorem Way.base {g3 h5 : Hp} {c q : Pos} {l1 l2 n u : DV} {cs : List DV} {k3 k4 : Hp} {env : bF} (W : Way g3 h5 c q l1 l2 n u cs k3 k4 env) (o : Ob) : Sim true ⟨g3.next.succ.succ, g3.bl⟩ ⟨h5.next.succ, Tr.set o h5.next h5.bl⟩ := Sim.of_get (by rw [W.af.next]) fun b ob hb => by
 show (Tr.set o h5.next h5.bl).get b = _
 rw [dKb, W.up b ob hb]
 intro e
 have h1 := W.fr b ob hb
 have s1 := dKd g3.next
 rw [e, W.af.next] at h1
 omega
theorem Way.app {g3 h5 : Hp} {c q : Pos} {l1 l2 n u : DV} {cs : List DV} {k3 k4 : Hp} {env : bF} (W : Way g3 h5 c q l1 l2 n u cs k3 k4 env) {hh : Hp} (S : Sim true ⟨g3.next.succ.succ, g3.bl⟩ hh) {y : DV} (hy : rB 4 y hh = some (1, cs)) : ∃ k', bB 4 56 l1 y hh = some (l2, k') ∧ ∃ k'', aI 1 (.p c 4) l2 k' = some (u, k'') ∧ Sim true k4 k'' := by
 obtain ⟨k', h1, h2⟩ := aVc S hy W.ap
 obtain ⟨k'', h3, h4⟩ := lU 1 _ _ _ _ h2 _ _ W.st
 exact ⟨k', h1, k'', h3, h4⟩
theorem Way.one {g3 h5 : Hp} {c q : Pos} {l1 l2 n u : DV} {cs : List DV} {k3 k4 : Hp} {env : bF} (W : Way g3 h5 c q l1 l2 n u cs k3 k4 env) : cs.length = 4 ∧ ∀ v ∈ cs, v.one = true := by
 obtain ⟨_, _, cs', e, h1, h2⟩ := tC W.hx
 cases e
 exact ⟨h1, h2⟩
theorem Way.B {g3 h5 : Hp} {c q : Pos} {l1 l2 n u : DV} {cs : List DV} {k3 k4 : Hp} {env : bF} (W : Way g3 h5 c q l1 l2 n u cs k3 k4 env) {X : Nat → bF → Hp → Prop} {R N : bF → Hp → Prop} (hN : ∀ env' h', env' 5 = n → Sim true k4 h' → N env' h') : sN CF0 (fnD CF0 60) 49 (.region 7 (gK (cR (cR (cR (cL (cR (cL (cR (cR (cf Tryz.f158)))))))))) true) X R N env h5 := by
 obtain ⟨k', h1, k'', h2, h3⟩ := W.app (W.base (.row .ex cs)) (aTc W.one.1 W.one.2 h5.next h5.next.succ h5.bl)
 have fl : bY (cH 0 h5.next) [(.i .i64 (Int.ofNat 0)), (.s []), (.i .i64 (Int.ofNat 0)), .l0] 1 [(0, 4, .a cs)] ⟨h5.next.succ, h5.bl⟩ = some (.l h5.next 0 1 1, ⟨h5.next.succ, Tr.set (.row .ex cs) h5.next h5.bl⟩) := by
  simp only [bY, iZ, cT, W.one.1]
  simp [cH]
 refine dJe dCl ?_
 rw [rg7]
 simp only [W.e0, W.e3, bSx, aL, cQz, cRr, show resv 1 h5 = ⟨h5.next.succ, h5.bl⟩ from rfl, W.c5, W.q5, fl, h1, h2]
 refine tW fun _ => hN _ _ ?_ h3
 simp only [aKp, Nat.beq]
 exact W.e5
theorem Way.A {g3 h5 : Hp} {c q : Pos} {l1 l2 n u : DV} {cs : List DV} {k3 k4 : Hp} {env : bF} (W : Way g3 h5 c q l1 l2 n u cs k3 k4 env) {X : Nat → bF → Hp → Prop} {R N : bF → Hp → Prop} (hN : ∀ env' h', env' 5 = n → Sim true k4 h' → N env' h') : sN CF0 (fnD CF0 60) 49 (.seq (.region 5 (gK (cL (cL (cR (cR (cL (cR (cL (cR (cR (cf Tryz.f158))))))))))) false)
  (.region 6 (gK (cR (cL (cR (cR (cL (cR (cL (cR (cR (cf Tryz.f158))))))))))) false)) X R N env h5 := by
 obtain ⟨m, old, t, hl2, hm, hol, hoo, hk3, htq, htd, hz⟩ := bHc W.ap
 have hzz := hz [.i .i64 (Int.ofNat 0), .s [], .i .i64 (Int.ofNat 0), .l0]
 have hn : n = .i .i64 (m : Int) := by
  have e1 := W.len g3
  rw [hm] at e1
  simp only [bC, bO, and_true] at e1
  exact e1.symm
 dsimp only at hl2 hk3 htq htd hzz
 obtain ⟨_, uc, huc⟩ := sL W.hl
 have hcs : c ≠ g3.next.succ.succ := fun e => by
  have h1 := W.fr _ _ huc
  have s1 := dKd g3.next
  have s2 := dKd g3.next.succ
  rw [e] at h1
  omega
 obtain ⟨_, ⟨uq, huq⟩, _⟩ := tC W.hx
 have hqs : q ≠ g3.next.succ.succ := fun e => by
  have h1 := W.fr _ _ huq
  have s1 := dKd g3.next
  have s2 := dKd g3.next.succ
  rw [e] at h1
  omega
 have hst := W.st
 rw [hk3] at hst
 have hst2 : ∃ kd l l', t.get c = some (.row kd l) ∧ k4 = ⟨g3.next.succ.succ.succ, Tr.set (.row kd l') c (Tr.set (.row (.gr 4) (old ++ cs)) g3.next.succ.succ t)⟩ ∧
   ∀ zs, aI 1 (.p c 4) l2 ⟨g3.next.succ.succ.succ, Tr.set (.row (.gr 4) zs) g3.next.succ.succ t⟩ = some (u, ⟨g3.next.succ.succ.succ, Tr.set (.row kd l') c (Tr.set (.row (.gr 4) zs) g3.next.succ.succ t)⟩) := by
  rw [hl2] at hst ⊢
  simp only [aI, cT, List.length_singleton, if_true, cV, dKb _ _ _ _ hcs] at hst ⊢
  cases htc : t.get c with
  | none => rw [htc] at hst; cases hst
  | some o =>
   rw [htc] at hst
   cases o with
   | row kd l =>
    dsimp only at hst ⊢
    cases hw : kd.writable with
    | false => rw [hw] at hst; cases hst
    | true =>
     rw [hw, if_pos rfl] at hst
     cases hp : fI 4 l [.l g3.next.succ.succ 0 (m + 1) (m + 1)] with
     | none => rw [hp] at hst; cases hst
     | some l' =>
      rw [hp] at hst
      simp only [bC, bO] at hst
      exact ⟨kd, l, l', rfl, hst.2.symm, fun zs => by simp only [hw, if_true, hp, hst.1]⟩
   | it s p => cases hst
   | mp es => cases hst
   | big n t => cases hst
   | mi t => cases hst
 obtain ⟨kd, l, l', htc, hk4, hstz⟩ := hst2
 obtain ⟨k6, h6, S6⟩ := aVc (W.base (.row .ex [.i .i64 (Int.ofNat 0), .s [], .i .i64 (Int.ofNat 0), .l0])) (aTc rfl (by simp [DV.one]) h5.next h5.next.succ h5.bl) hzz
 obtain ⟨k7, h7, S7⟩ := lU 1 _ _ _ _ S6 _ _ (hstz _)
 have hqz := bEc (h' := ⟨g3.next.succ.succ.succ, Tr.set (.row kd l') c (Tr.set (.row (.gr 4) (old ++ [.i .i64 (Int.ofNat 0), .s [], .i .i64 (Int.ofNat 0), .l0])) g3.next.succ.succ t)⟩) (by
  show (Tr.set _ c (Tr.set _ _ t)).get q = _
  rw [dKb _ _ _ _ (Ne.symm W.ne), dKb _ _ _ _ hqs, htq]) W.hx
 obtain ⟨k8, h8, S8⟩ := lN 4 _ _ _ S7 _ _ hqz
 have hfin : aI 4 (.p g3.next.succ.succ (0 + m * 4)) (.a cs) ⟨g3.next.succ.succ.succ, Tr.set (.row kd l') c (Tr.set (.row (.gr 4) (old ++ [.i .i64 (Int.ofNat 0), .s [], .i .i64 (Int.ofNat 0), .l0])) g3.next.succ.succ t)⟩ =
   some (aR, ⟨g3.next.succ.succ.succ, Tr.set (.row (.gr 4) (old ++ cs)) g3.next.succ.succ (Tr.set (.row kd l') c (Tr.set (.row (.gr 4) (old ++ [.i .i64 (Int.ofNat 0), .s [], .i .i64 (Int.ofNat 0), .l0])) g3.next.succ.succ t))⟩) := by
  have hp := aSh old [.i .i64 (Int.ofNat 0), .s [], .i .i64 (Int.ofNat 0), .l0] cs (by rw [W.one.1]; rfl) (by simp [DV.one]) W.one.2
  simp only [aI, cT, W.one.1, if_true, cV, dKb _ _ _ _ (Ne.symm hcs), dKc, Kind.writable, Nat.zero_add, ← hol, hp]
 obtain ⟨k9, h9, S9⟩ := lU 4 _ _ _ _ S8 _ _ hfin
 have S10 : Sim true k4 k9 := by
  refine Sim.trans ?_ S9
  rw [hk4]
  refine Sim.of_get rfl fun b o hb => ?_
  change (Tr.set (.row kd l') c (Tr.set _ g3.next.succ.succ t)).get b = some o at hb
  show (Tr.set _ g3.next.succ.succ (Tr.set (.row kd l') c (Tr.set _ g3.next.succ.succ t))).get b = some o
  by_cases e1 : b = g3.next.succ.succ
  ·rw [e1] at hb ⊢
   rw [dKb _ _ _ _ (Ne.symm hcs), dKc] at hb
   rw [dKc, hb]
  ·rw [dKb _ _ _ _ e1]
   by_cases e2 : b = c
   ·rw [e2] at hb ⊢
    rw [dKc] at hb ⊢
    exact hb
   ·rw [dKb _ _ _ _ e2, dKb _ _ _ _ e1] at hb ⊢
    exact hb
 have fl : aJ [(.i .i64 (Int.ofNat 0)), (.s []), (.i .i64 (Int.ofNat 0)), .l0] 1 [(0, 4, (.a [(.i .i64 (Int.ofNat 0)), (.s []), (.i .i64 (Int.ofNat 0)), .l0]))] h5 = some (.l h5.next 0 1 1, ⟨h5.next.succ, Tr.set (.row .ex [.i .i64 (Int.ofNat 0), .s [], .i .i64 (Int.ofNat 0), .l0]) h5.next h5.bl⟩) := by
  simp [aJ, iZ, cT]
 refine wpS (aMq ?_)
 rw [rg5]
 have c5 : aA (.p c 4) h5 = some (l1, h5) := W.c5 h5.next
 have ix : aF 4 l2 n k8 = some (.p g3.next.succ.succ (0 + m * 4), k8) := by
  rw [hl2, hn]
  show (if (0 : Int) ≤ (m : Int) ∧ (m : Int) < ((m + 1 : Nat) : Int) then some (DV.p g3.next.succ.succ (0 + (m : Int).toNat * 4), k8) else none) = _
  rw [if_pos (by omega)]
  simp
 simp only [W.e0, W.e3, bSx, aL, cQz, cRr, c5, W.len, fl, h6, h7]
 refine tW fun _ => aMq ?_
 rw [rg6]
 simp only [aKp, bSa, Nat.beq, W.e3, h8, aL, ix, h9]
 refine tW fun _ => hN _ _ ?_ S10
 simp only [aKp, Nat.beq]
 exact W.e5
end
theorem bVt {h h1 : Hp} {c q : Pos} {v : DV} (hr : rN c q h = some (v, h1)) (hf : oY h) {env : bF} (e0 : env 0 = .p c 0) (e3 : env 3 = .p q 0)
  {X : Nat → bF → Hp → Prop} {R N : bF → Hp → Prop} (hN : ∀ env' h', env' 5 = v → Sim true h1 h' → N env' h') :
  sN CF0 (fnD CF0 60) 49 (.seq (.region 3 (gK (cL (cL (cR (cL (cR (cR (cf Tryz.f158)))))))) false) (.seq (.region 4 R4 true) (.cond (.tmp 22)
   (.seq (.region 5 (gK (cL (cL (cR (cR (cL (cR (cL (cR (cR (cf Tryz.f158))))))))))) false) (.region 6 (gK (cR (cL (cR (cR (cL (cR (cL (cR (cR (cf Tryz.f158))))))))))) false))
   (.region 7 (gK (cR (cR (cR (cL (cR (cL (cR (cR (cf Tryz.f158)))))))))) true)))) X R N env h := by
 unfold rN at hr
 obtain ⟨l1, g1, hl1, hr⟩ := dM hr
 obtain ⟨n, g2, hn, hr⟩ := dM hr
 obtain ⟨x, g3, hx, hr⟩ := dM hr
 obtain ⟨rfl, uc, huc⟩ := sL hl1
 have hn0 := hn
 obtain ⟨rfl, hn⟩ := wH (nS l1) hn
 obtain ⟨rfl, ⟨uq, huq⟩, cs, rfl, hcl, hco⟩ := tC hx
 dsimp only at hr
 cases hcq : lW c q with
 | true => rw [hcq] at hr; cases hr
 | false =>
 rw [hcq] at hr
 have hcq' : c ≠ q := aYc hcq
 simp only [cnd, Bool.not_false] at hr
 obtain ⟨l2, k3, ha, hr⟩ := dM hr
 obtain ⟨u, k4, hs, hr⟩ := dM hr
 simp only [bC, bO] at hr
 obtain ⟨rfl, rfl⟩ := hr
 refine wpS (aMq ?_)
 rw [rg3]
 rw [show bD (env 0) g3 = some (.p c 0, g3) from by rw [e0]; rfl]
 show ∃ r, bnd (aA (.p c 4) g3) _ = some r
 rw [hl1]
 show ∃ r, bnd (cO l1 g3) _ = some r
 rw [hn0, aL]
 refine tW fun _ => ?_
 refine wpS (dIo (dHx fun x h5 A F5 => ?_))
 have W : Way g3 h5 c q l1 l2 n u cs k3 k4 (bP (bP (bP (bP (bP (bP (bP (bP (bP env (some 15) (env 0)) (some 16) (DV.p c 0)) (some 17) (DV.p c (0 + 0))) (some 18) (DV.p c (0 + 0 + 4))) (some 19) l1) (some 20) n) (some 5) n) (some 21) (DV.p g3.next 0)) (some 22) (DV.b x)) :=
  ⟨hf, A, hl1, hx, hcq', hn0, ha, hs, e0, e3, rfl⟩
 refine wpC (t := x) rfl ⟨fun _ => ?_, fun _ => ?_⟩
 ·exact W.A hN
 ·exact W.B hN
theorem bCn (c : Pos) (lit : List DV) (h : Hp) : cB (aH [.p c 0, .a lit] 1) h = some (.p h.next 0, ⟨h.next.succ, Tr.set (.row .ex lit) h.next h.bl⟩) := rfl
theorem cPs (G : Gd) : mZ Tryz.prog G 158 nA := by
 refine cUs (C := CF0) (rec := fnD CF0 60) KC0 Try_ok cZf cFk fun args h v h1 hr hf => ?_
 unfold nA at hr
 split at hr <;> (try (cases hr; done))
 rename_i c lit
 obtain ⟨vb, hb, h0, hr⟩ := dM hr
 simp only [cF, bC, bO] at h0
 obtain ⟨rfl, rfl⟩ := h0
 obtain ⟨ls, h2, hl, hr⟩ := dM hr
 obtain ⟨rfl, _⟩ := sL hl
 obtain ⟨i, h3, hi, hr⟩ := dM hr
 obtain ⟨tt, h4, ht, hif⟩ := dM hr
 clear hr
 obtain ⟨rfl, hlt⟩ := wH (xC _ _ _) ht
 rw [cYc, dAt]
 refine wpS (aMq ?_)
 rw [rg0, bCn, aL]
 refine tW fun _ => ?_
 refine wpS (aMq ?_)
 rw [rg1]
 simp only [aKp, bSa, Nat.beq, show aH [.p c 0, .a lit] 0 = .p c 0 from rfl, bSx, aL, cQz, cRr, hl, hi]
 refine tW fun F4 => ?_
 refine wpS (wpS (aMq ?_))
 rw [rg2]
 simp only [aKp, bSa, Nat.beq, ht, aL]
 refine tW fun _ => ?_
 unfold aX at hif
 split at hif <;> (try (cases hif; done))
 ·refine wpC (t := true) rfl ⟨fun _ => ?_, fun e => (by cases e)⟩
  refine bVt hif F4 ?_ ?_ ?_
  ·rfl
  ·rfl
  ·intro env' h' e5 S
   exact aSs e5 S
 ·simp only [bC, bO] at hif
  obtain ⟨rfl, rfl⟩ := hif
  refine wpC (t := false) rfl ⟨fun e => (by cases e), fun _ => ?_⟩
  exact aSs rfl (Sim.refl _)
end Go.Dd

namespace Go.Dd
open Go.RowKit (Below)
theorem HR.later {G : Gd} {ρ : Ren} {h : Hp} {w w' : World} (H : HR G ρ h w) (e : Below w.heap.size w w') : HR G ρ h w' where
 gl := fun k hk => (e.block k (Nat.lt_of_lt_of_le hk H.sz.1)).trans (H.gl k hk)
 sz := ⟨Nat.le_trans H.sz.1 e.size, fun k hk => Nat.lt_of_lt_of_le (H.sz.2 k hk) e.size⟩
 nx := H.nx
 ro := H.ro
 dom := H.dom
 lt := H.lt
 cell := fun b k l L i v h1 h2 h3 h4 => by
  obtain ⟨v', h5, h6⟩ := H.cell b k l L i v h1 h2 h3 h4
  exact ⟨v', by rw [e.cell (fW h5)]; exact h5, h6⟩
 spare := fun b l L es j h1 h2 h3 => by
  obtain ⟨v', h5⟩ := H.spare b l L es j h1 h2 h3
  exact ⟨v', by rw [e.cell (fW h5)]; exact h5⟩
 free := fun b a h1 h2 => by
  obtain ⟨v, hv⟩ := H.lt_cell h1
  rw [e.frozen (fW hv)]
  exact H.free b a h1 h2
 inj := H.inj
 ex := H.ex
 grone := H.grone
 itr := fun b o L h1 h2 h3 => by
  obtain ⟨a, b, x, c, d⟩ := H.itr b o L h1 h2 h3
  refine ⟨a, b, x, ?_, d⟩
  rw [e.block _ (Array.getElem?_eq_some_iff.1 c).1]
  exact c
 itj := H.itj
theorem Kp.later {G : Gd} {ρ : Ren} {h : Hp} {w w' : World} (H : HR G ρ h w) (e : Below w.heap.size w w') : Kp G w w' :=
 ⟨e.mono H.sz.1, fun k hk => e.block k (H.sz.2 k hk)⟩
def lY (ρ ρ2 : Ren) : Ren := fun b => match ρ b with
 | some L => some L
 | none => ρ2 b
section
variable {G G2 : Gd} {ρ ρ2 : Ren} {h g : Hp} {w w' : World} {J : Tr Ob}
theorem HR.join (H : HR G ρ h w) (hb : Below w.heap.size w w') (H2 : HR G2 ρ2 g w') (hG2 : G2.B = w.heap.size) (low : ∀ b L, ρ2 b = some L → h.next.toNat ≤ b.toNat)
  (hk : ∀ b o, g.bl.get b = some o → o.sg = true ∨ ∃ l, o = .row .ex l) (hn : h.next.toNat ≤ g.next.toNat)
  (hJ : ∀ b, J.get b = match h.bl.get b with
   | some o => some o
   | none => g.bl.get b) : HR G (lY ρ ρ2) ⟨g.next, J⟩ w' ∧ Ex G ρ (lY ρ ρ2) ∧ Ext ρ2 (lY ρ ρ2) := by
 have H' := H.later hb
 have e1 : Ext ρ (lY ρ ρ2) := fun b L hL => by unfold lY; rw [hL]
 have no : ∀ b, h.next.toNat ≤ b.toNat → ρ b = none := fun b hb => by
  cases e : ρ b with
  | none => rfl
  | some L => have := H.lt b L e; omega
 have e2 : Ext ρ2 (lY ρ ρ2) := fun b L hL => by unfold lY; rw [no b (low b L hL)]; exact hL
 have two : ∀ b o, J.get b = some o → (h.bl.get b = some o ∧ ∃ L, ρ b = some L ∧ lY ρ ρ2 b = some L) ∨ (g.bl.get b = some o ∧ ∃ L, ρ2 b = some L ∧ lY ρ ρ2 b = some L) := fun b o ho => by
  rw [hJ] at ho
  cases hh : h.bl.get b with
  | some o' =>
   rw [hh] at ho
   cases ho
   obtain ⟨L, hL⟩ := H.dom b _ hh
   exact .inl ⟨rfl, L, hL, e1 _ _ hL⟩
  | none =>
   rw [hh] at ho
   obtain ⟨L, hL⟩ := H2.dom b o ho
   exact .inr ⟨ho, L, hL, e2 _ _ hL⟩
 have cl : ∀ {b a}, Claims (lY ρ ρ2) ⟨g.next, J⟩ b a → (Claims ρ h b a ∧ ∀ l, J.get b = some (.row .ro l) → h.bl.get b = some (.row .ro l)) ∨ (Claims ρ2 g b a ∧ ¬ isRo g b ∧ ∀ l, J.get b ≠ some (.row .ro l)) := by
  rintro b a ⟨k, l, L, q1, q2, q3⟩
  change J.get b = some (.row k l) at q1
  rcases two b _ q1 with ⟨c1, L', c2, c3⟩ | ⟨c1, L', c2, c3⟩
  ·have c3' := c3.symm.trans q2
   cases c3'
   exact .inl ⟨⟨k, l, L, c1, c2, q3⟩, fun l' hl' => by rw [q1] at hl'; rw [c1]; exact hl'⟩
  ·have c3' := c3.symm.trans q2
   cases c3'
   refine .inr ⟨⟨k, l, L, c1, c2, q3⟩, ?_, ?_⟩
   ·rintro ⟨l', hl'⟩
    rw [c1] at hl'
    cases hl'
    rcases hk b _ c1 with hs | ⟨_, hs⟩ <;> cases hs
   ·intro l' hl'
    rw [q1] at hl'
    cases hl'
    rcases hk b _ c1 with hs | ⟨_, hs⟩ <;> cases hs
 have old : ∀ {b a}, Claims ρ h b a → a.block < w.heap.size := fun hc => by
  obtain ⟨v, hv⟩ := H.lt_cell hc
  exact fW hv
 have own2 : ∀ {k}, Own G2 k → Own G k ∧ w.heap.size ≤ k := fun {k} ho => by
  have h1 := ho.1
  rw [hG2] at h1
  exact ⟨⟨Nat.le_trans H.sz.1 h1, fun hX => by have := H.sz.2 k hX; omega⟩, h1⟩
 refine ⟨⟨H'.gl, H'.sz, Nat.le_trans H.nx hn, ?_, ?_, ?_, ?_, ?_, ?_, ?_, ?_, ?_, ?_, ?_⟩, ⟨e1, fun b L hL => ?_⟩, e2⟩
 ·rintro b a hc ⟨l, hl⟩
  rcases cl hc with ⟨c, hr⟩ | ⟨_, _, hr⟩
  ·exact H'.ro b a c ⟨l, hr l hl⟩
  ·exact absurd hl (hr l)
 ·intro b o ho
  rcases two b o ho with ⟨_, L, _, c⟩ | ⟨_, L, _, c⟩
  ·exact ⟨L, c⟩
  ·exact ⟨L, c⟩
 ·intro b L hL
  unfold lY at hL
  cases e : ρ b with
  | some L' => have := H.lt b L' e; show b.toNat < g.next.toNat; omega
  | none => rw [e] at hL; exact H2.lt b L hL
 ·intro b k l L i v ho hL hi hv
  rcases two b _ ho with ⟨c1, L', c2, c3⟩ | ⟨c1, L', c2, c3⟩
  ·have c3' := c3.symm.trans hL
   cases c3'
   obtain ⟨v', q1, q2⟩ := H'.cell b k l L i v c1 c2 hi hv
   exact ⟨v', q1, q2.mono e1⟩
  ·have c3' := c3.symm.trans hL
   cases c3'
   obtain ⟨v', q1, q2⟩ := H2.cell b k l L i v c1 c2 hi hv
   exact ⟨v', q1, q2.mono e2⟩
 ·intro b l L es j ho hL hj
  rcases two b _ ho with ⟨c1, L', c2, c3⟩ | ⟨c1, L', c2, c3⟩
  ·have c3' := c3.symm.trans hL
   cases c3'
   exact H'.spare b l L es j c1 c2 hj
  ·have c3' := c3.symm.trans hL
   cases c3'
   exact H2.spare b l L es j c1 c2 hj
 ·intro b a hc hr
  rcases cl hc with ⟨c, hro⟩ | ⟨c, hnr, _⟩
  ·refine H'.free b a c fun ⟨l, hl⟩ => hr ⟨l, ?_⟩
   show J.get b = _
   rw [hJ, hl]
  ·obtain ⟨q1, q2⟩ := H2.free b a c hnr
   exact ⟨q1, (own2 q2).1⟩
 ·intro b b' a hc hc' hr
  rcases cl hc with ⟨c, _⟩ | ⟨c, hnr, _⟩
  ·rcases cl hc' with ⟨c', _⟩ | ⟨c', hnr', _⟩
   ·refine H'.inj b b' a c c' fun ⟨l, hl⟩ => hr ⟨l, ?_⟩
    show J.get b = _
    rw [hJ, hl]
   ·have h1 := old c
    have h2 := (own2 (H2.free b' a c' hnr').2).2
    omega
  ·rcases cl hc' with ⟨c', _⟩ | ⟨c', hnr', _⟩
   ·have h1 := old c'
    have h2 := (own2 (H2.free b a c hnr).2).2
    omega
   ·exact H2.inj b b' a c c' hnr
 ·intro b l L ho hL
  have key : ∀ o, J.get b = some o → (o = .row .ro l ∨ o = .row .ex l) → L.sp = 0 := fun o ho' hor => by
   rcases two b o ho' with ⟨c1, L', c2, c3⟩ | ⟨c1, L', c2, c3⟩
   ·have c3' := c3.symm.trans hL
    cases c3'
    rcases hor with rfl | rfl
    ·exact H'.ex b l L (.inl c1) c2
    ·exact H'.ex b l L (.inr c1) c2
   ·have c3' := c3.symm.trans hL
    cases c3'
    rcases hor with rfl | rfl
    ·exact H2.ex b l L (.inl c1) c2
    ·exact H2.ex b l L (.inr c1) c2
  rcases ho with ho | ho
  ·exact key _ ho (.inl rfl)
  ·exact key _ ho (.inr rfl)
 ·intro b es l i v ho hi
  rcases two b _ ho with ⟨c1, _⟩ | ⟨c1, _⟩
  ·exact H'.grone b es l i v c1 hi
  ·exact H2.grone b es l i v c1 hi
 ·intro b o L h0 ho hL
  rcases two b o ho with ⟨c1, L', c2, c3⟩ | ⟨c1, L', c2, c3⟩
  ·have c3' := c3.symm.trans hL
   cases c3'
   obtain ⟨q1, q2, x, q3, q4⟩ := H'.itr b o L h0 c1 c2
   exact ⟨q1, q2, x, q3, q4.mono e1⟩
  ·have c3' := c3.symm.trans hL
   cases c3'
   obtain ⟨q1, q2, x, q3, q4⟩ := H2.itr b o L h0 c1 c2
   exact ⟨(own2 q1).1, q2, x, q3, q4.mono e2⟩
 ·intro b o b' o' L L' h0 h0' ho ho' hL hL' he
  have lo : ∀ {b o L}, o.sg = true → h.bl.get b = some o → ρ b = some L → L.bl < w.heap.size := fun {b o L} s1 s2 s3 => by
   obtain ⟨_, _, x, q, _⟩ := H.itr b o L s1 s2 s3
   exact (Array.getElem?_eq_some_iff.1 q).1
  rcases two b o ho with ⟨c1, K, c2, c3⟩ | ⟨c1, K, c2, c3⟩ <;> (have c3' := c3.symm.trans hL; cases c3') <;>
   rcases two b' o' ho' with ⟨d1, K', d2, d3⟩ | ⟨d1, K', d2, d3⟩ <;> (have d3' := d3.symm.trans hL'; cases d3')
  ·exact H'.itj b o b' o' L L' h0 h0' c1 d1 c2 d2 he
  ·have q1 := lo h0 c1 c2
   have q2 := (own2 (H2.itr b' o' L' h0' d1 d2).1).2
   omega
  ·have q1 := lo h0' d1 d2
   have q2 := (own2 (H2.itr b o L h0 c1 c2).1).2
   omega
  ·exact H2.itj b o b' o' L L' h0 h0' c1 d1 c2 d2 he
 ·unfold lY at hL
  cases e : ρ b with
  | some L' => rw [e] at hL; exact .inl hL
  | none =>
   rw [e] at hL
   exact .inr (Nat.le_trans H.nx (low b L hL))
end
end Go.Dd

namespace Go.Proofs
open Go.Shelf
def Tryz.laysM246_ren : Go.Shelf.Ren := ⟨fun | 246 => 90 | 283 => 110 | 284 => 111 | 285 => 112 | 286 => 113 | 129 => 136 | 317 => 135 | 318 => 137 | 319 => 138 | 320 => 139 | 337 => 175 | 338 => 176 | n => n, fun | 2 => 2 | 3 => 3 | 9 => 9 | 4 => 4 | 171 => 155 | 0 => 0 | 53 => 156 | 37 => 106 | 5 => 5 | 173 => 159 | 212 => 184 | 51 => 185 | 20 => 20 | 213 => 186 | 46 => 88 | 232 => 227 | 233 => 228 | n => n, fun | 17 => 1 | 18 => 4 | 19 => 5 | n => n⟩
def Tryz.laysM243_ren : Go.Shelf.Ren := ⟨fun | 243 => 81 | 246 => 90 | 283 => 110 | 284 => 111 | 285 => 112 | 286 => 113 | 129 => 136 | 317 => 135 | 318 => 137 | 319 => 138 | 320 => 139 | 337 => 175 | 338 => 176 | n => n, fun | 3 => 3 | 9 => 9 | 2 => 2 | 4 => 4 | 171 => 155 | 0 => 0 | 53 => 156 | 37 => 106 | 5 => 5 | 173 => 159 | 212 => 184 | 51 => 185 | 20 => 20 | 213 => 186 | 46 => 88 | 232 => 227 | 233 => 228 | n => n, fun | 17 => 1 | 18 => 4 | 19 => 5 | n => n⟩
def Tryz.laysM171_ren : Go.Shelf.Ren := ⟨fun | 171 => 50 | 243 => 81 | 246 => 90 | 283 => 110 | 284 => 111 | 285 => 112 | 286 => 113 | 129 => 136 | 317 => 135 | 318 => 137 | 319 => 138 | 320 => 139 | 337 => 175 | 338 => 176 | n => n, fun | 3 => 3 | 9 => 9 | 2 => 2 | 4 => 4 | 171 => 155 | 0 => 0 | 53 => 156 | 37 => 106 | 5 => 5 | 173 => 159 | 212 => 184 | 51 => 185 | 20 => 20 | 213 => 186 | 46 => 88 | 232 => 227 | 233 => 228 | n => n, fun | 17 => 1 | 18 => 4 | 19 => 5 | n => n⟩
theorem Tryz.laysM171 : Go.Proofs.LaysM.n171 Tryz.prog Tryz.laysM171_ren := {
 mixed := by kernel_rfl
 f129 := Tryz.func136.trans (congrArg some (by kernel_rfl))
 f171 := Tryz.func50.trans (congrArg some (by kernel_rfl))
 f243 := Tryz.func81.trans (congrArg some (by kernel_rfl))
 f246 := Tryz.func90.trans (congrArg some (by kernel_rfl))
 f283 := Tryz.func110.trans (congrArg some (by kernel_rfl))
 f284 := Tryz.func111.trans (congrArg some (by kernel_rfl))
 f285 := Tryz.func112.trans (congrArg some (by kernel_rfl))
 f286 := Tryz.func113.trans (congrArg some (by kernel_rfl))
 f317 := Tryz.func135.trans (congrArg some (by kernel_rfl))
 f318 := Tryz.func137.trans (congrArg some (by kernel_rfl))
 f319 := Tryz.func138.trans (congrArg some (by kernel_rfl))
 f320 := Tryz.func139.trans (congrArg some (by kernel_rfl))
 f337 := Tryz.func175.trans (congrArg some (by kernel_rfl))
 f338 := Tryz.func176.trans (congrArg some (by kernel_rfl))
 t0 := Tryz.underlying0
 a0 := Tryz.isAgg0
 z0 := Tryz.sizeOf0
 v0 := Tryz.zeroValue0
 t2 := Tryz.underlying2
 a2 := Tryz.isAgg2
 z2 := Tryz.sizeOf2
 v2 := Tryz.zeroValue2
 t3 := Tryz.underlying3
 a3 := Tryz.isAgg3
 z3 := Tryz.sizeOf3
 v3 := Tryz.zeroValue3
 t4 := Tryz.underlying4
 a4 := Tryz.isAgg4
 z4 := Tryz.sizeOf4
 v4 := Tryz.zeroValue4
 t5 := Tryz.underlying5
 a5 := Tryz.isAgg5
 z5 := Tryz.sizeOf5
 v5 := Tryz.zeroValue5
 t9 := Tryz.underlying9
 a9 := Tryz.isAgg9
 z9 := Tryz.sizeOf9
 v9 := Tryz.zeroValue9
 t20 := Tryz.underlying20
 a20 := Tryz.isAgg20
 z20 := Tryz.sizeOf20
 v20 := Tryz.zeroValue20
 t37 := Tryz.underlying106
 a37 := Tryz.isAgg106
 z37 := Tryz.sizeOf106
 v37 := Tryz.zeroValue106
 t46 := Tryz.underlying88
 a46 := Tryz.isAgg88
 z46 := Tryz.sizeOf88
 v46 := Tryz.zeroValue88
 t51 := Tryz.underlying185
 a51 := Tryz.isAgg185
 z51 := Tryz.sizeOf185
 v51 := Tryz.zeroValue185
 t53 := Tryz.underlying156
 a53 := Tryz.isAgg156
 z53 := Tryz.sizeOf156
 v53 := Tryz.zeroValue156
 t171 := Tryz.underlying155
 a171 := Tryz.isAgg155
 z171 := Tryz.sizeOf155
 v171 := Tryz.zeroValue155
 t173 := Tryz.underlying159
 a173 := Tryz.isAgg159
 z173 := Tryz.sizeOf159
 v173 := Tryz.zeroValue159
 t212 := Tryz.underlying184
 a212 := Tryz.isAgg184
 z212 := Tryz.sizeOf184
 v212 := Tryz.zeroValue184
 t213 := Tryz.underlying186
 a213 := Tryz.isAgg186
 z213 := Tryz.sizeOf186
 t232 := Tryz.underlying227
 a232 := Tryz.isAgg227
 z232 := Tryz.sizeOf227
 v232 := Tryz.zeroValue227
 t233 := Tryz.underlying228
 a233 := Tryz.isAgg228
 z233 := Tryz.sizeOf228
 v233 := Tryz.zeroValue228
 g17 := by kernel_rfl
 g18 := by kernel_rfl
 g19 := by kernel_rfl
 i0 := by kernel_rfl
 i2 := by kernel_rfl
 i3 := by kernel_rfl
 i4 := by kernel_rfl
 i5 := by kernel_rfl
 i9 := by kernel_rfl
 i20 := by kernel_rfl
 i37 := by kernel_rfl
 i46 := by kernel_rfl
 i51 := by kernel_rfl
 i53 := by kernel_rfl
 i171 := by kernel_rfl
 i173 := by kernel_rfl
 i212 := by kernel_rfl
 i232 := by kernel_rfl
 i233 := by kernel_rfl
 m17 := by kernel_rfl
 m18 := by kernel_rfl
 m19 := by kernel_rfl }
open Go.RowKit Go.Sort Go.Lib in
theorem Tryz.strconv_Itoa (n : Int) (h0 : -9223372036854775808 ≤ n) (h1 : n ≤ 9223372036854775807) (w : World) (htab : Lib.TabIs Tryz.prog w "internal/strconv.uint64pow10" .u64 Lib.pow10Tab) :
  Calls Tryz.prog 50 #[.int .i64 n] w fun e w' => e = .returned (.string ⟨(Lib.itoa n).toArray⟩) ∧ ∃ k os, w' = grow (w.drewN k) os := Any.strconv_Itoa Tryz.laysM171 n h0 h1 w htab
def Tryz.lays219_ren : Go.Shelf.Ren := ⟨fun | 219 => 118 | 217 => 84 | 225 => 142 | 224 => 143 | 267 => 144 | 266 => 97 | 314 => 177 | n => n, fun | 9 => 9 | 3 => 3 | 4 => 4 | 5 => 5 | 46 => 88 | 146 => 216 | 51 => 185 | n => n, fun | 1 => 0 | n => n⟩
def Tryz.lays143_ren : Go.Shelf.Ren := ⟨fun | 143 => 93 | 219 => 118 | 217 => 84 | 225 => 142 | 224 => 143 | 267 => 144 | 266 => 97 | 314 => 177 | n => n, fun | 9 => 9 | 3 => 3 | 4 => 4 | 5 => 5 | 46 => 88 | 146 => 216 | 51 => 185 | n => n, fun | 1 => 0 | n => n⟩
def Tryz.laysM143_ren : Go.Shelf.Ren := ⟨fun | 143 => 93 | 219 => 118 | 217 => 84 | 225 => 142 | 224 => 143 | 267 => 144 | 266 => 97 | 314 => 177 | n => n, fun | 9 => 9 | 3 => 3 | 4 => 4 | 5 => 5 | 46 => 88 | 146 => 216 | 51 => 185 | n => n, fun | 1 => 0 | n => n⟩
theorem Tryz.laysM143 : Go.Proofs.LaysM.n143 Tryz.prog Tryz.laysM143_ren := {
 mixed := by kernel_rfl
 f143 := Tryz.func93.trans (congrArg some (by kernel_rfl))
 f217 := Tryz.func84.trans (congrArg some (by kernel_rfl))
 f219 := Tryz.func118.trans (congrArg some (by kernel_rfl))
 f224 := Tryz.func143.trans (congrArg some (by kernel_rfl))
 f225 := Tryz.func142.trans (congrArg some (by kernel_rfl))
 f266 := Tryz.func97.trans (congrArg some (by kernel_rfl))
 f267 := Tryz.func144.trans (congrArg some (by kernel_rfl))
 f314 := Tryz.func177.trans (congrArg some (by kernel_rfl))
 t3 := Tryz.underlying3
 a3 := Tryz.isAgg3
 z3 := Tryz.sizeOf3
 v3 := Tryz.zeroValue3
 t4 := Tryz.underlying4
 a4 := Tryz.isAgg4
 z4 := Tryz.sizeOf4
 v4 := Tryz.zeroValue4
 t5 := Tryz.underlying5
 a5 := Tryz.isAgg5
 z5 := Tryz.sizeOf5
 v5 := Tryz.zeroValue5
 t9 := Tryz.underlying9
 a9 := Tryz.isAgg9
 z9 := Tryz.sizeOf9
 v9 := Tryz.zeroValue9
 t46 := Tryz.underlying88
 a46 := Tryz.isAgg88
 z46 := Tryz.sizeOf88
 v46 := Tryz.zeroValue88
 t51 := Tryz.underlying185
 a51 := Tryz.isAgg185
 z51 := Tryz.sizeOf185
 v51 := Tryz.zeroValue185
 t146 := Tryz.underlying216
 a146 := Tryz.isAgg216
 z146 := Tryz.sizeOf216
 v146 := Tryz.zeroValue216
 g1 := by kernel_rfl
 i3 := by kernel_rfl
 i4 := by kernel_rfl
 i5 := by kernel_rfl
 i9 := by kernel_rfl
 i46 := by kernel_rfl
 i51 := by kernel_rfl
 i146 := by kernel_rfl
 m1 := by kernel_rfl
 s1_3 := fun w h => Go.Proofs.cell_of_shapedOpen_int (zero := #[.int .i64 0]) (t := 3) h (of_decide_eq_true (by kernel_rfl)) (by kernel_rfl) rfl (by kernel_rfl) (by kernel_rfl) Tryz.underlying3 }
def Tryz.lays154_ren : Go.Shelf.Ren := ⟨fun | 154 => 82 | 138 => 91 | 165 => 92 | 143 => 93 | 166 => 94 | 197 => 95 | 169 => 96 | 195 => 114 | 218 => 115 | 240 => 116 | 241 => 117 | 219 => 118 | 260 => 119 | 276 => 140 | 277 => 141 | 217 => 84 | 225 => 142 | 224 => 143 | 267 => 144 | 266 => 97 | 314 => 177 | n => n, fun | 9 => 9 | 3 => 3 | 4 => 4 | 72 => 117 | 0 => 0 | 76 => 121 | 105 => 123 | 21 => 21 | 5 => 5 | 70 => 115 | 20 => 20 | 37 => 106 | 75 => 120 | 127 => 161 | 164 => 188 | 46 => 88 | 119 => 191 | 139 => 194 | 138 => 193 | 146 => 216 | 51 => 185 | 80 => 125 | n => n, fun | 1 => 0 | 3 => 2 | 4 => 3 | n => n⟩
def Tryz.lays155_ren : Go.Shelf.Ren := ⟨fun | 155 => 54 | 154 => 82 | 138 => 91 | 165 => 92 | 143 => 93 | 166 => 94 | 197 => 95 | 169 => 96 | 195 => 114 | 218 => 115 | 240 => 116 | 241 => 117 | 219 => 118 | 260 => 119 | 276 => 140 | 277 => 141 | 217 => 84 | 225 => 142 | 224 => 143 | 267 => 144 | 266 => 97 | 314 => 177 | n => n, fun | 9 => 9 | 3 => 3 | 4 => 4 | 72 => 117 | 0 => 0 | 76 => 121 | 105 => 123 | 21 => 21 | 5 => 5 | 70 => 115 | 20 => 20 | 37 => 106 | 75 => 120 | 127 => 161 | 164 => 188 | 46 => 88 | 119 => 191 | 139 => 194 | 138 => 193 | 146 => 216 | 51 => 185 | 80 => 125 | n => n, fun | 1 => 0 | 3 => 2 | 4 => 3 | n => n⟩
theorem Tryz.lays155 : Go.Proofs.Lays.n155 Tryz.prog Tryz.lays155_ren := {
 mixed := by kernel_rfl
 f138 := Tryz.func91.trans (congrArg some (by kernel_rfl))
 f143 := Tryz.func93.trans (congrArg some (by kernel_rfl))
 f154 := Tryz.func82.trans (congrArg some (by kernel_rfl))
 f155 := Tryz.func54.trans (congrArg some (by kernel_rfl))
 f165 := Tryz.func92.trans (congrArg some (by kernel_rfl))
 f166 := Tryz.func94.trans (congrArg some (by kernel_rfl))
 f169 := Tryz.func96.trans (congrArg some (by kernel_rfl))
 f195 := Tryz.func114.trans (congrArg some (by kernel_rfl))
 f197 := Tryz.func95.trans (congrArg some (by kernel_rfl))
 f217 := Tryz.func84.trans (congrArg some (by kernel_rfl))
 f218 := Tryz.func115.trans (congrArg some (by kernel_rfl))
 f219 := Tryz.func118.trans (congrArg some (by kernel_rfl))
 f224 := Tryz.func143.trans (congrArg some (by kernel_rfl))
 f225 := Tryz.func142.trans (congrArg some (by kernel_rfl))
 f240 := Tryz.func116.trans (congrArg some (by kernel_rfl))
 f241 := Tryz.func117.trans (congrArg some (by kernel_rfl))
 f260 := Tryz.func119.trans (congrArg some (by kernel_rfl))
 f266 := Tryz.func97.trans (congrArg some (by kernel_rfl))
 f267 := Tryz.func144.trans (congrArg some (by kernel_rfl))
 f276 := Tryz.func140.trans (congrArg some (by kernel_rfl))
 f277 := Tryz.func141.trans (congrArg some (by kernel_rfl))
 f314 := Tryz.func177.trans (congrArg some (by kernel_rfl))
 t0 := Tryz.underlying0
 a0 := Tryz.isAgg0
 z0 := Tryz.sizeOf0
 v0 := Tryz.zeroValue0
 t3 := Tryz.underlying3
 a3 := Tryz.isAgg3
 z3 := Tryz.sizeOf3
 v3 := Tryz.zeroValue3
 t4 := Tryz.underlying4
 a4 := Tryz.isAgg4
 z4 := Tryz.sizeOf4
 v4 := Tryz.zeroValue4
 t5 := Tryz.underlying5
 a5 := Tryz.isAgg5
 z5 := Tryz.sizeOf5
 v5 := Tryz.zeroValue5
 t9 := Tryz.underlying9
 a9 := Tryz.isAgg9
 z9 := Tryz.sizeOf9
 v9 := Tryz.zeroValue9
 t20 := Tryz.underlying20
 a20 := Tryz.isAgg20
 z20 := Tryz.sizeOf20
 v20 := Tryz.zeroValue20
 t21 := Tryz.underlying21
 a21 := Tryz.isAgg21
 z21 := Tryz.sizeOf21
 v21 := Tryz.zeroValue21
 t37 := Tryz.underlying106
 a37 := Tryz.isAgg106
 z37 := Tryz.sizeOf106
 v37 := Tryz.zeroValue106
 t46 := Tryz.underlying88
 a46 := Tryz.isAgg88
 z46 := Tryz.sizeOf88
 v46 := Tryz.zeroValue88
 t51 := Tryz.underlying185
 a51 := Tryz.isAgg185
 z51 := Tryz.sizeOf185
 v51 := Tryz.zeroValue185
 t70 := Tryz.underlying115
 a70 := Tryz.isAgg115
 z70 := Tryz.sizeOf115
 v70 := Tryz.zeroValue115
 t72 := Tryz.underlying117
 a72 := Tryz.isAgg117
 z72 := Tryz.sizeOf117
 v72 := Tryz.zeroValue117
 t75 := Tryz.underlying120
 a75 := Tryz.isAgg120
 z75 := Tryz.sizeOf120
 v75 := Tryz.zeroValue120
 t76 := Tryz.underlying121
 a76 := Tryz.isAgg121
 z76 := Tryz.sizeOf121
 v76 := Tryz.zeroValue121
 t105 := Tryz.underlying123
 a105 := Tryz.isAgg123
 z105 := Tryz.sizeOf123
 v105 := Tryz.zeroValue123
 t119 := Tryz.underlying191
 a119 := Tryz.isAgg191
 z119 := Tryz.sizeOf191
 t127 := Tryz.underlying161
 a127 := Tryz.isAgg161
 z127 := Tryz.sizeOf161
 v127 := Tryz.zeroValue161
 t138 := Tryz.underlying193
 a138 := Tryz.isAgg193
 z138 := Tryz.sizeOf193
 v138 := Tryz.zeroValue193
 t139 := Tryz.underlying194
 a139 := Tryz.isAgg194
 z139 := Tryz.sizeOf194
 v139 := Tryz.zeroValue194
 t146 := Tryz.underlying216
 a146 := Tryz.isAgg216
 z146 := Tryz.sizeOf216
 v146 := Tryz.zeroValue216
 t164 := Tryz.underlying188
 a164 := Tryz.isAgg188
 z164 := Tryz.sizeOf188
 v164 := Tryz.zeroValue188
 g1 := by kernel_rfl
 g3 := by kernel_rfl
 g4 := by kernel_rfl }
theorem Tryz.Builder_Extra_155 : Builder.Extra Tryz.prog Tryz.lays155_ren := {
 sizeBuilder := by kernel_rfl
 liesBuilder := by kernel_rfl
 t5 := Tryz.underlying5
 a5 := Tryz.isAgg5
 z5 := Tryz.sizeOf5
 v5 := Tryz.zeroValue5
 infoByte := by kernel_rfl
 cellsByte := by kernel_rfl
 sizeByte := by kernel_rfl
 neB5 := by decide }
open Go.RowKit Go.Lib in
theorem Tryz.strings_ReplaceAll (s old new : ByteArray) (m : Int) (w : World) (hs : s.size < 4294967281) (hm : w.cell? ⟨0, 0, none⟩ = some (.int .i64 m)) (h1 : 1 ≤ old.size) (hlen : s.size + Lib.countB s old * new.size ≤ 140737488355328) :
  Calls Tryz.prog 54 #[.string s, .string old, .string new] w fun e w' =>
   e = .returned (.string ⟨(Lib.replaceAll s.data.toList old.data.toList new.data.toList).toArray⟩) ∧ Below w.heap.size w w' := Any.strings_ReplaceAll Tryz.lays155 Tryz.Builder_Extra_155 s old new m w hs hm h1 hlen
end Go.Proofs

namespace Go.Dd
open Go.Proofs Go.Lib Go.RowKit
theorem CallFn.of {G : Gd} {ρ : Ren} {w : World} {v : DV} {h1 : Hp} {g : FuncId} {args' : Array Value} (fn : Func) (hf : Tryz.prog.funcs[g]? = some fn) (hb : fn.body.isSome = true)
  (hc : Calls Tryz.prog g args' w (mT G ρ w v h1)) : CallFn CF.P G ρ w v h1 g args' := by
 refine .inl ⟨?_, hc⟩
 have hf' : CF.P.funcs[g]? = some fn := hf
 have hn : ¬ fn.name = "runtime.NumGoroutine" := by simpa using Try_ok.names g fn hf'
 have hbn : fn.body ≠ none := by intro e; rw [e] at hb; cases hb
 unfold callFunc
 simp [hf', hn, hbn]
theorem wG : ∀ (f n : Nat) (acc : List Nat), n < 10 ^ f → 0 < f → eZ f n acc = (Lib.decDigits n).map (·.toNat) ++ acc
 | 0, n, acc, h, h0 => by omega
 | f + 1, n, acc, h, _ => by
  have hd : ∀ d, d < 10 → (UInt8.ofNat (48 + d)).toNat = 48 + d := fun d hd => by simp; omega
  unfold eZ
  rw [Lib.decDigits]
  cases e : Nat.ble 10 n with
  | false =>
   have hn : n < 10 := by
    rcases Nat.lt_or_ge n 10 with h | h
    ·exact h
    ·rw [Nat.ble_eq_true_of_le h] at e; cases e
   simp only [cond_false]
   rw [dif_pos hn]
   show (48 + n) :: acc = _
   simp [hd n hn]
   omega
  | true =>
   have hn := Nat.le_of_ble_eq_true e
   simp only [cond_true]
   rw [dif_neg (by omega)]
   have hf : 0 < f := by
    rcases Nat.eq_zero_or_pos f with h1 | h1
    ·subst h1; simp at h; omega
    ·exact h1
   show eZ f (n / 10) ((48 + n % 10) :: acc) = _
   rw [wG f (n / 10) _ (by rw [Nat.pow_succ] at h; omega) hf]
   simp [hd (n % 10) (by omega)]
   omega
theorem bEm (n : Int) (h0 : -9223372036854775808 ≤ n) (h1 : n ≤ 9223372036854775807) : bS n = (Lib.itoa n).map (·.toNat) := by
 unfold Lib.itoa bS
 cases n with
 | ofNat n =>
  rw [if_neg (by simp)]
  simp only
  rw [wG 20 n [] (by simp at h1; omega) (by omega)]
  simp
 | negSucc n =>
  rw [if_pos (by omega)]
  simp only
  rw [wG 20 _ [] (by show n + 1 < _; omega) (by omega)]
  simp
theorem cDi (G : Gd) : mZ CF.P G 50 gU := by
 intro args h v h1 hr ρ w args' H hargs
 unfold gU at hr
 split at hr <;> (try (cases hr; done))
 rename_i n
 cases hc : (decide (-9223372036854775808 ≤ n) && decide (n ≤ 9223372036854775807)) with
 | false => rw [hc] at hr; cases hr
 | true =>
 rw [hc] at hr
 simp only [Bool.and_eq_true, decide_eq_true_eq] at hc
 simp only [cond_true, bC, bO] at hr
 obtain ⟨rfl, rfl⟩ := hr
 obtain ⟨a⟩ := args'
 cases hargs with
 | cons _ x' l1 l1' hx hxs =>
 cases hxs
 cases hx
 refine CallFn.of Tryz.f50 (by kernel_rfl) (by kernel_rfl) ?_
 have F := G.ok w H.gl
 have htab : Lib.TabIs Tryz.prog w "internal/strconv.uint64pow10" .u64 Lib.pow10Tab := by
  obtain ⟨_, t, z, ht⟩ := F
  have hg : Tryz.prog.globalNamed "internal/strconv.uint64pow10" = some 1 := by kernel_rfl
  unfold Lib.TabIs World.var?
  rw [hg]
  simp only [Option.bind_some, ht]
 refine (Tryz.strconv_Itoa n hc.1 hc.2 w htab).mono ?_
 rintro e w' ⟨rfl, k, os, rfl⟩
 have hbel : Below w.heap.size w (Sort.grow (w.drewN k) os) := ⟨rfl, rfl, rfl, by simp [Sort.grow, World.drewN], fun i hi => by
  show (w.heap ++ os)[i]? = _
  rw [Array.getElem?_append_left hi]⟩
 exact ⟨ρ, _, rfl, Ex.refl _ _, .s _ _ (bEm n hc.1 hc.2).symm, H.later hbel, Kp.later H hbel⟩
theorem cKy (b c : UInt8) : Nat.beq b.toNat c.toNat = (b == c) := by
 rw [Bool.eq_iff_iff]
 constructor
 ·intro h
  have := Nat.eq_of_beq_eq_true h
  simpa using UInt8.toNat_inj.1 this
 ·intro h
  have h2 : b = c := by simpa using h
  rw [h2]; simp
theorem cTa {bs : ByteArray} {c : Nat} (h : bs.data.toList.map (·.toNat) = [c]) : ∃ u : UInt8, bs = ⟨#[u]⟩ ∧ u.toNat = c := by
 obtain ⟨⟨l⟩⟩ := bs
 match l, h with
 | [u], h => exact ⟨u, rfl, by simpa using h⟩
def oT (c : UInt8) (new : List UInt8) : List UInt8 → List UInt8
 | [] => []
 | x :: l => if x = c then new ++ oT c new l else x :: oT c new l
theorem bOr {b c : UInt8} {l : List UInt8} (h : b ≠ c) {i : Nat} (hi : index l [c] = i) : index (b :: l) [c] = ((i + 1 : Nat) : Int) := by
 have hp : ([c] : List UInt8).isPrefixOf (b :: l) = false := by simp [List.isPrefixOf, Ne.symm h]
 rw [index, hp, hi]
 simp
theorem bIh {c : UInt8} {l : List UInt8} : index (c :: l) [c] = ((0 : Nat) : Int) := by
 rw [index]; simp [List.isPrefixOf]
theorem aMj (c : UInt8) (new : List UInt8) : ∀ s : List UInt8, replaceK [c] new (count s [c]) s = oT c new s
 | [] => by rw [count_one]; rfl
 | b :: l => by
  have ih := aMj c new l
  by_cases h : b = c
  ·subst h
   rw [count_cons_eq, Nat.add_comm, replaceK_hit _ _ _ _ 0 bIh]
   simp [oT, ih]
  ·rw [count_cons_ne _ _ _ h]
   simp only [oT, if_neg h]
   cases hk : count l [c] with
   | zero =>
    rw [hk] at ih
    simp only [replaceK] at ih ⊢
    rw [← ih]
   | succ k =>
    rw [hk] at ih
    obtain ⟨i, hi⟩ := index_of_count (s := l) (old := [c]) (by omega)
    rw [replaceK_hit _ _ _ _ i hi] at ih
    rw [replaceK_hit _ _ _ _ (i + 1) (bOr h hi), ← ih]
    simp [Nat.add_right_comm]
theorem yG (c : UInt8) : ∀ s : List UInt8, oT c [c] s = s
 | [] => rfl
 | x :: l => by
  simp only [oT, yG c l]
  split
  ·rename_i h; subst h; rfl
  ·rfl
theorem bJe (s : List UInt8) (c : UInt8) (new : List UInt8) : replaceAll s [c] new = oT c new s := by
 unfold replaceAll replace
 split
 ·rename_i h
  have : [c] = new := by simpa using h
  subst this
  rw [yG]
 ·unfold replaceNum
  rw [if_pos (.inl (by decide))]
  exact aMj c new s
theorem aMe (c : UInt8) (new : List UInt8) : ∀ s : List UInt8, tX c.toNat (new.map (·.toNat)) (s.map (·.toNat)) = (oT c new s).map (·.toNat)
 | [] => rfl
 | x :: l => by
  simp only [List.map_cons, tX, oT, aMe c new l, cKy]
  by_cases h : x = c
  ·subst h; simp
  ·rw [if_neg h, show (x == c) = false by simpa using h]; simp
theorem cDt (G : Gd) : mZ CF.P G 54 gV := by
 intro args h v h1 hr ρ w args' H hargs
 unfold gV at hr
 split at hr <;> (try (cases hr; done))
 rename_i s c new
 cases hc : Nat.blt c 256 with
 | false => rw [hc] at hr; cases hr
 | true =>
 rw [hc] at hr
 cases hc2 : Nat.ble s.length 4000000000 with
 | false => rw [hc2] at hr; cases hr
 | true =>
 rw [hc2] at hr
 cases hc3 : Nat.ble new.length 1000 with
 | false => rw [hc3] at hr; cases hr
 | true =>
 rw [hc3] at hr
 have hs' := Nat.le_of_ble_eq_true hc2
 have hn' := Nat.le_of_ble_eq_true hc3
 simp only [cond_true, bC, bO] at hr
 obtain ⟨rfl, rfl⟩ := hr
 obtain ⟨a⟩ := args'
 cases hargs with
 | cons _ x' l1 l1' hx hxs =>
 cases hxs with
 | cons _ y' l2 l2' hy hys =>
 cases hys with
 | cons _ z' l3 l3' hz hzs =>
 cases hzs
 cases hx with
 | s _ bs hbs =>
 cases hy with
 | s _ bc hbc =>
 cases hz with
 | s _ bn hbn =>
 obtain ⟨u, rfl, rfl⟩ := cTa hbc
 subst hbs hbn
 have e1 : bs.size ≤ 4000000000 := by rw [List.length_map, Array.length_toList] at hs'; exact hs'
 have e2 : bn.size ≤ 1000 := by rw [List.length_map, Array.length_toList] at hn'; exact hn'
 refine CallFn.of Tryz.f54 (by kernel_rfl) (by kernel_rfl) ?_
 obtain ⟨⟨m, hm⟩, _⟩ := G.ok w H.gl
 have hcnt : countB bs ⟨#[u]⟩ ≤ bs.size := countB_le _ (by simp [ByteArray.size]) _ _ (Nat.le_refl _)
 have hmul : countB bs ⟨#[u]⟩ * bn.size ≤ 4000000000 * 1000 := Nat.mul_le_mul (by omega) e2
 refine (Tryz.strings_ReplaceAll bs ⟨#[u]⟩ bn m w (by omega) hm (by simp [ByteArray.size]) (by omega)).mono ?_
 rintro e w' ⟨rfl, hbel⟩
 refine ⟨ρ, _, rfl, Ex.refl _ _, .s _ _ ?_, H.later hbel, Kp.later H hbel⟩
 rw [aMe, ← bJe]
end Go.Dd

namespace Go.Dd
open Go.Proofs Go.Lib Go.RowKit
theorem aJv (c : Nat) (hc : c < 256) : ∀ (l : List UInt8) (i : Nat), rK c (l.map (·.toNat)) i = if indexByte l c.toUInt8 = -1 then -1 else indexByte l c.toUInt8 + i
 | [], i => rfl
 | b :: l, i => by
  have hb : Nat.beq b.toNat c = (b == c.toUInt8) := by
   rw [Bool.eq_iff_iff]
   constructor
   ·intro h
    have := Nat.eq_of_beq_eq_true h
    simp [← this]
   ·intro h
    have h2 : b = c.toUInt8 := by simpa using h
    rw [h2]
    have : (c.toUInt8).toNat = c := by simp [Nat.toUInt8]; omega
    rw [this]; simp
  show (bif Nat.beq b.toNat c then Int.ofNat i else rK c (l.map (·.toNat)) (i + 1)) = _
  rw [hb]
  unfold indexByte
  cases h : (b == c.toUInt8) with
  | true => simp
  | false =>
   have ih := aJv c hc l (i + 1)
   have hge := indexByte_ge l c.toUInt8
   simp only [cond_false, Bool.false_eq_true, if_false]
   rw [ih]
   by_cases h1 : indexByte l c.toUInt8 = -1
   ·simp [h1]
   ·simp only [h1, if_false, beq_iff_eq]
    rw [if_neg (by omega)]
    omega
theorem cNh (G : Gd) : mZ Tryz.prog G 97 lI := by
 intro args h v h1 hr ρ w args' H hargs
 unfold lI at hr
 split at hr <;> (try (cases hr; done))
 rename_i l c
 cases hc : Nat.blt c 256 with
 | false => rw [hc] at hr; cases hr
 | true =>
  rw [hc] at hr
  have hc' : c < 256 := by simpa using hc
  simp only [cond_true, bC, bO] at hr
  obtain ⟨rfl, rfl⟩ := hr
  obtain ⟨a⟩ := args'
  cases hargs with
  | cons x x' l1 l1' hx hxs =>
  cases hxs with
  | cons y y' l2 l2' hy hys =>
  cases hys
  cases hx with
  | s l bs hbs =>
  cases hy with
  | i k n =>
  refine .inr ⟨ρ, w, .int .i64 (indexByte bs.data.toList c.toUInt8), ?_, Ex.refl _ _, ?_, H, Kp.refl _ _⟩
  ·rw [run_callFunc_extern (fn := Tryz.f97) (e := Extern.BytealgIndexByte.indexByte) (by kernel_rfl) (by kernel_rfl) (by kernel_rfl) (by kernel_rfl) (by kernel_rfl)]
   rw [run_indexByteString bs (Int.ofNat c) w]
   rfl
  ·have e := aJv c hc' bs.data.toList 0
   rw [hbs] at e
   have e2 : rK c l 0 = indexByte bs.data.toList c.toUInt8 := by
    rw [e]
    split
    ·rename_i h; exact h.symm
    ·simp
   rw [e2]
   exact .i _ _
theorem vS (G : Gd) (g : FuncId) (F : List DV → Hp → aG) (h : CF1.I g = some F) : mZ CF1.P G g F := by
 have e : CF1.I g = bif Nat.beq g 97 then some lI else bif Nat.beq g 158 then some nA else bif Nat.beq g 54 then some gV else bif Nat.beq g 50 then some gU else none := rfl
 rw [e] at h
 cases hg : Nat.beq g 97 with
 | true => rw [hg] at h; cases h; cases Nat.eq_of_beq_eq_true hg; exact cNh G
 | false =>
 rw [hg, cond_false] at h
 cases hg : Nat.beq g 158 with
 | true => rw [hg] at h; cases h; cases Nat.eq_of_beq_eq_true hg; exact cPs G
 | false =>
 rw [hg, cond_false] at h
 cases hg : Nat.beq g 54 with
 | true => rw [hg] at h; cases h; cases Nat.eq_of_beq_eq_true hg; exact cDt G
 | false =>
 rw [hg, cond_false] at h
 cases hg : Nat.beq g 50 with
 | true => rw [hg] at h; cases h; cases Nat.eq_of_beq_eq_true hg; exact cDi G
 | false => rw [hg] at h; cases h
theorem aCs : ∀ (n : Nat) (G : Gd) (f : FuncId), mZ Tryz.prog G f (gH CF1 n f)
 | 0, G, f => fun args h v h1 hr => by cases hr
 | n + 1, G, f => qY (C := CF1) (rec := gH CF1 n) ⟨vS, fun G g => aCs n G g⟩ Try_ok n f
end Go.Dd

namespace Go.Dd
open Go.Proofs
noncomputable def aTk (args : List DV) : Bool := match args with
 | [] => true
 | _ => false
noncomputable def aOb : List DV → Hp → aG := xD aTk (.p (aM 7) 0) nxW HLW
noncomputable def aAb (n : Nat) : RT := fun g args h => bif Nat.beq g 8 then aOb args h else cK n g args h
theorem cSz : okB (s13 (aAb 900) 900 hS) = true := by kernel_rfl
end Go.Dd

namespace Go.Dd
open Go.Proofs Go.RowKit
def gdS (w : World) (W : Facts w) (N : Nat) : Gd := ⟨w.heap.size, fun _ => False, N, w.heap, fun w' h => W.keep fun k hk => h k (Nat.lt_of_lt_of_le hk W.two)⟩
theorem HR.empty (w : World) (W : Facts w) (N : Nat) (p : Pos) (hN : N ≤ p.toNat) : HR (gdS w W N) (fun _ => none) ⟨p, .e⟩ w := by
 constructor
 ·exact fun _ _ => rfl
 ·exact ⟨Nat.le_refl _, fun _ h => h.elim⟩
 ·exact hN
 ·rintro b a ⟨k, l, L, _, h2, _⟩; cases h2
 ·intro b o h; cases b <;> cases h
 ·intro b L h; cases h
 ·intro b k l L i v h h2; cases h2
 ·intro b l L es j h h2; cases h2
 ·rintro b a ⟨k, l, L, _, h2, _⟩; cases h2
 ·rintro b b' a ⟨k, l, L, _, h2, _⟩; cases h2
 ·intro b l L h h2; cases h2
 ·intro b es l i v h; cases b <;> cases h
 ·intro b s pos L h h2; cases h2
 ·intro b s pos b' s' pos' L L' h h' h2; cases h2
theorem aMh {f : FuncId} {args : List DV} {F : List DV → Hp → aG} {v : DV} {g1 : Hp} (hF : ∀ G, mZ Tryz.prog G f F) (hr : F args hS = some (v, g1)) (fn : Func) (hf : Tryz.prog.funcs[f]? = some fn) (hb : fn.body.isSome = true)
  (w : World) (W : Facts w) (args' : Array Value) (hargs : VRs (fun _ => none) args args'.toList) :
  Calls Tryz.prog f args' w fun e w' => ∃ ρ' v', e = .returned v' ∧ VR ρ' v v' ∧ HR (gdS w W 1024) ρ' g1 w' ∧ Below w.heap.size w w' ∧ ∀ b L, ρ' b = some L → 1024 ≤ b.toNat := by
 have hp : (aM 1).toNat = 1024 := by kernel_rfl
 have H : HR (gdS w W 1024) (fun _ => none) hS w := HR.empty w W 1024 (aM 1) (by rw [hp]; exact Nat.le_refl _)
 rcases hF (gdS w W 1024) args hS v g1 hr _ w args' H hargs with ⟨_, h⟩ | ⟨ρ', w', v', h, _⟩
 ·refine h.mono ?_
  rintro e w' ⟨ρ', v', h1, h2, h3, h4, h5⟩
  exact ⟨ρ', v', h1, h3, h4, h5.low, fun b L hL => (h2.new b L hL).resolve_left (fun e => by cases e)⟩
 ·exfalso
  have hn : ¬ fn.name = "runtime.NumGoroutine" := by simpa using Try_ok.names f fn hf
  have hbn : fn.body ≠ none := by intro e; rw [e] at hb; cases hb
  unfold callFunc at h
  simp [hf, hn, hbn] at h
theorem aLo {f : FuncId} {fn : Func} (hf : Tryz.prog.funcs[f]? = some fn) (hb : fn.body.isSome = true) (args : Array Value) (w : World) : (callFunc f args).run Tryz.prog w = .ok (.enter f args) w := by
 have hn : ¬ fn.name = "runtime.NumGoroutine" := by simpa using Try_ok.names f fn hf
 have hbn : fn.body ≠ none := by intro e; rw [e] at hb; cases hb
 unfold callFunc
 simp [hf, hn, hbn]
theorem bDc {f : FuncId} {F : List DV → Hp → aG} {r : Bool} {h1 : Hp} (hF : ∀ G, mZ Tryz.prog G f F) (hr : F [] hS = some (.b r, h1)) (fn : Func) (hf : Tryz.prog.funcs[f]? = some fn) (hb : fn.body.isSome = true) (G : Gd) :
  mZ Tryz.prog G f (fun args h => match args with
   | [] => some (.b r, h)
   | _ => none) := by
 intro args h v h2 he ρ w args' H hargs
 cases args with
 | cons _ _ => cases he
 | nil =>
  simp only [bC, bO] at he
  obtain ⟨rfl, rfl⟩ := he
  have e0 : args' = #[] := by
   obtain ⟨a⟩ := args'
   cases hargs
   rfl
  subst e0
  refine .inl ⟨aLo hf hb _ _, ?_⟩
  refine (aMh hF hr fn hf hb w (G.ok w H.gl) #[] .nil).mono ?_
  rintro e w' ⟨ρ', v', rfl, hv, _, hbel, _⟩
  cases hv
  exact ⟨ρ, _, rfl, Ex.refl _ _, .b _, H.later hbel, Kp.later H hbel⟩
theorem Sim.tf {a b c : Hp} (h : Sim true a b) (k : Sim false b c) : Sim false a c := ⟨k.next.trans h.next, fun p o hp => by
 obtain ⟨o', h1, h2⟩ := h.get p o hp
 rw [kY h2] at h1
 exact k.get p o h1⟩
theorem aAp (o : Ob) : vK true o o := by cases o <;> simp [vK]
theorem dLf : Sim false hS hS := ⟨rfl, fun b o hb => by cases b <;> cases hb⟩
theorem aZj (g : FuncId) (F : List DV → Hp → aG) (hg : CF.I g = some F) (n : Nat) (args : List DV) : SimP false (F args) (bT CF1 (gH CF1 (n + 12)) g args) := by
 change (bif Nat.beq g 97 then some lI else bif Nat.beq g 158 then some nA else bif Nat.beq g 54 then some gV else bif Nat.beq g 50 then some gU else aAm g) = some F at hg
 have hcall : bT CF1 (gH CF1 (n + 12)) g args = fun h => match (bif Nat.beq g 97 then some lI else bif Nat.beq g 158 then some nA else bif Nat.beq g 54 then some gV else bif Nat.beq g 50 then some gU else none : Option (List DV → Hp → aG)) with
  | some F => F args h
  | none => gH CF1 (n + 12) g args h := rfl
 rw [hcall]
 cases h1 : Nat.beq g 97 with
 | true => rw [h1] at hg; cases hg; exact aFz args
 | false =>
  cases h2 : Nat.beq g 158 with
  | true => rw [h1, h2] at hg; cases hg; exact aGg args
  | false =>
  cases h3 : Nat.beq g 54 with
  | true => rw [h1, h2, h3] at hg; cases hg; exact wF args
  | false =>
  cases h4 : Nat.beq g 50 with
  | true => rw [h1, h2, h3, h4] at hg; cases hg; exact wO args
  | false =>
   rw [h1, h2, h3, h4] at hg
   exact aKs g F hg n args
theorem zU {g : FuncId} (hg : CF.I g = none) : CF1.I g = none := by
 show (bif Nat.beq g 97 then some lI else bif Nat.beq g 158 then some nA else bif Nat.beq g 54 then some gV else bif Nat.beq g 50 then some gU else none) = none
 change (bif Nat.beq g 97 then some lI else bif Nat.beq g 158 then some nA else bif Nat.beq g 54 then some gV else bif Nat.beq g 50 then some gU else aAm g) = none at hg
 cases h1 : Nat.beq g 97 with
 | true => rw [h1] at hg; cases hg
 | false =>
  cases h2 : Nat.beq g 158 with
  | true => rw [h1, h2] at hg; cases hg
  | false =>
  cases h3 : Nat.beq g 54 with
  | true => rw [h1, h2, h3] at hg; cases hg
  | false =>
  cases h4 : Nat.beq g 50 with
  | true => rw [h1, h2, h3, h4] at hg; cases hg
  | false => rfl
theorem aQb : ∃ g', gH CF1 912 19 [.i .i64 (.ofNat 60000)] hS = some (.t [.p (aM 7) 0, .i .i64 (.ofNat 0)], g') ∧ Sim false hN g' := by
 obtain ⟨g, h1, h2⟩ := cTj
 rw [xJ] at h1
 obtain ⟨g', h3, h4⟩ := aOu 900 19 [.i .i64 (.ofNat 60000)] hS hS dLf _ _ h1
 exact ⟨g', h3, h2.tf h4⟩
section known
variable {g1 : Hp} {HL : List (Pos × Ob)} {nx0 : Nat}
noncomputable def exL (g1 : Hp) (l : List (Pos × Ob)) : List (Pos × Ob) := l.map fun x => (x.1, (g1.bl.get x.1).getD x.2)
theorem aKy (l : List (Pos × Ob)) (t : Tr Ob) (b : Pos) : (fC l t).get b = match (fC l .e).get b with
  | some o => some o
  | none => t.get b := by
 induction l with
 | nil => rw [show fC [] t = t from rfl, show fC [] .e = .e from rfl, Tr.get_e]
 | cons x l ih =>
  show (Tr.set x.2 x.1 (fC l t)).get b = match (Tr.set x.2 x.1 (fC l .e)).get b with
   | some o => some o
   | none => t.get b
  by_cases e : b = x.1
  ·rw [e, dKc, dKc]
  ·rw [dKb _ _ _ _ e, dKb _ _ _ _ e]
   exact ih
theorem bGm (l : List (Pos × Ob)) (b : Pos) (o : Ob) (h : (fC l .e).get b = some o) : (b, o) ∈ l := by
 induction l with
 | nil => rw [show fC [] .e = .e from rfl, Tr.get_e] at h; cases h
 | cons x l ih =>
  change (Tr.set x.2 x.1 (fC l .e)).get b = some o at h
  by_cases e : b = x.1
  ·rw [e, dKc] at h
   cases h
   rw [e]
   exact List.mem_cons_self
  ·rw [dKb _ _ _ _ e] at h
   exact List.mem_cons_of_mem _ (ih h)
theorem oJ (g1 : Hp) (l : List (Pos × Ob)) (b : Pos) : (fC (exL g1 l) .e).get b = ((fC l .e).get b).map fun o => (g1.bl.get b).getD o := by
 induction l with
 | nil => rw [show exL g1 [] = [] from rfl, show fC [] .e = .e from rfl, Tr.get_e]; rfl
 | cons x l ih =>
  show (Tr.set ((g1.bl.get x.1).getD x.2) x.1 (fC (exL g1 l) .e)).get b = ((Tr.set x.2 x.1 (fC l .e)).get b).map _
  by_cases e : b = x.1
  ·rw [e, dKc, dKc]
   rfl
  ·rw [dKb _ _ _ _ e, dKb _ _ _ _ e]
   exact ih
theorem aDu (S : Sim false (iI nx0 HL) g1) {b : Pos} {o : Ob} (h : (fC HL .e).get b = some o) : ∃ o', g1.bl.get b = some o' ∧ vK false o o' ∧ (fC (exL g1 HL) .e).get b = some o' := by
 obtain ⟨o', h1, h2⟩ := S.get b o h
 refine ⟨o', h1, h2, ?_⟩
 rw [oJ, h, h1]
 rfl
noncomputable def aJq (o : Ob) : Bool := match o with
 | .row .ex _ => true
 | .mp _ => true
 | .big _ _ => true
 | .mi _ => true
 | _ => false
noncomputable def bGd (l : List (Pos × Ob)) : Bool := List.rec (motive := fun _ => Bool) true (fun x _ ih => aJq x.2 && ih) l
theorem aKo : ∀ {l : List (Pos × Ob)}, bGd l = true → ∀ x ∈ l, aJq x.2 = true
 | [], _, x, h => by cases h
 | y :: l, hl, x, h => by
  change (aJq y.2 && bGd l) = true at hl
  simp only [Bool.and_eq_true] at hl
  simp only [List.mem_cons] at h
  rcases h with rfl | h
  ·exact hl.1
  ·exact aKo hl.2 x h
theorem bBg {o o' : Ob} (hk : aJq o = true) (h : vK false o o') : o'.sg = true ∨ ∃ l, o' = .row .ex l := by
 unfold aJq at hk
 split at hk
 ·have : o' = _ := h
  exact .inr ⟨_, this⟩
 ·have : o' = _ := h
  rw [this]
  exact .inl rfl
 ·exact .inr ⟨_, h⟩
 ·obtain ⟨es, h1, _⟩ := h
  rw [h1]
  exact .inl rfl
 ·cases hk
noncomputable def sE (p : List DV → Bool) (v0 : DV) (nx0 : Nat) (HL : List (Pos × Ob)) (g1 : Hp) (args : List DV) (h : Hp) : aG :=
 bif p args && lW h.next (aM 1) then some (v0, ⟨aM nx0, fC (exL g1 HL) h.bl⟩) else none
theorem aBr (S1 : Sim false (iI nx0 HL) g1) (p : List DV → Bool) (v0 : DV) (args : List DV) : SimP false (xD p v0 nx0 HL args) (sE p v0 nx0 HL g1 args) := by
 intro h h' S
 unfold xD sE
 rw [S.next]
 cases (p args && lW h.next (aM 1)) with
 | false => exact SimR.none _
 | true =>
  intro v k e
  simp only [cond_true, bC, bO] at e
  obtain ⟨rfl, rfl⟩ := e
  refine ⟨⟨aM nx0, fC (exL g1 HL) h'.bl⟩, rfl, rfl, fun b o ho => ?_⟩
  change (fC HL h.bl).get b = some o at ho
  show ∃ o', (fC (exL g1 HL) h'.bl).get b = some o' ∧ vK false o o'
  rw [aKy] at ho ⊢
  cases hb : (fC HL .e).get b with
  | some o1 =>
   rw [hb] at ho
   cases ho
   obtain ⟨o', _, h2, h3⟩ := aDu S1 hb
   exact ⟨o', by rw [h3], h2⟩
  | none =>
   rw [hb] at ho
   rw [oJ, hb]
   exact S.get b o ho
theorem aMg {f : FuncId} {F : List DV → Hp → aG} (hF : ∀ G, mZ Tryz.prog G f F) {args0 : List DV} {v0 : DV} (hr0 : F args0 hS = some (v0, g1)) (S1 : Sim false (iI nx0 HL) g1) (hk : bGd HL = true) (hnx0 : 1024 ≤ (aM nx0).toNat)
  (fn : Func) (hf : Tryz.prog.funcs[f]? = some fn) (hb : fn.body.isSome = true) {p : List DV → Bool} (hp : ∀ args, p args = true → args = args0) (h0 : ∀ ρ l, VRs ρ args0 l → VRs (fun _ => none) args0 l) (G : Gd) : mZ Tryz.prog G f (sE p v0 nx0 HL g1) := by
 intro args h v h1 hr ρ w args' H hargs
 unfold sE at hr
 cases hc : (p args && lW h.next (aM 1)) with
 | false => rw [hc] at hr; cases hr
 | true =>
  rw [hc] at hr
  simp only [cond_true, bC, bO] at hr
  obtain ⟨rfl, rfl⟩ := hr
  simp only [Bool.and_eq_true] at hc
  have ha := hp _ hc.1
  subst ha
  have hnx := kW _ _ hc.2
  have hp1 : (aM 1).toNat = 1024 := by kernel_rfl
  refine .inl ⟨aLo hf hb _ _, ?_⟩
  refine (aMh hF hr0 fn hf hb w (G.ok w H.gl) args' (h0 _ _ hargs)).mono ?_
  rintro e w' ⟨ρ2, v', rfl, hv, H2, hbel, hlow⟩
  have S2 : Sim true ⟨g1.next, fC (exL g1 HL) .e⟩ g1 := ⟨rfl, fun b o ho => by
   change (fC (exL g1 HL) .e).get b = some o at ho
   rw [oJ] at ho
   cases hb : (fC HL .e).get b with
   | none => rw [hb] at ho; cases ho
   | some o1 =>
    obtain ⟨o', q1, _, q3⟩ := aDu S1 hb
    rw [oJ] at q3
    rw [q3] at ho
    cases ho
    exact ⟨_, q1, aAp _⟩⟩
  have hgn : g1.next = aM nx0 := S1.next
  have H3 := HR.sub S2 H2
  obtain ⟨j1, j2, j3⟩ := H.join (J := fC (exL g1 HL) h.bl) hbel H3 rfl (fun b L hL => by rw [hnx, hp1]; exact hlow b L hL) (fun b o ho => by
    change (fC (exL g1 HL) .e).get b = some o at ho
    rw [oJ] at ho
    cases hb : (fC HL .e).get b with
    | none => rw [hb] at ho; cases ho
    | some o1 =>
     obtain ⟨o', q1, q2, q3⟩ := aDu S1 hb
     rw [oJ] at q3
     rw [q3] at ho
     cases ho
     exact bBg (aKo hk _ (bGm _ _ _ hb)) q2) (by
    show h.next.toNat ≤ g1.next.toNat
    rw [hnx, hgn, hp1]
    exact hnx0) (fun b => by
    rw [aKy]
    cases hb : (fC (exL g1 HL) .e).get b with
    | none => cases h.bl.get b <;> rfl
    | some o =>
     cases hh : h.bl.get b with
     | none => rfl
     | some o1 =>
      exfalso
      obtain ⟨L, hL⟩ := H.dom b o1 hh
      have q1 := H.lt b L hL
      obtain ⟨L2, hL2⟩ := H3.dom b o hb
      have q2 := hlow b L2 hL2
      rw [hnx, hp1] at q1
      omega)
  rw [hgn] at j1
  exact ⟨lY ρ ρ2, v', rfl, j2, hv.mono j3, j1, Kp.later H hbel⟩
end known
noncomputable def gN1 : Hp := Classical.choose aQb
theorem bYs : gH CF1 912 19 [.i .i64 (.ofNat 60000)] hS = some (.t [.p (aM 7) 0, .i .i64 (.ofNat 0)], gN1) := (Classical.choose_spec aQb).1
theorem aVx : Sim false hN gN1 := (Classical.choose_spec aQb).2
theorem bCq : bGd HLN = true := by kernel_rfl
noncomputable def bGf : List DV → Hp → aG := sE aWj (.t [.p (aM 7) 0, .i .i64 (.ofNat 0)]) 26855 HLN gN1
theorem bPe (args : List DV) : SimP false (newK args) (bGf args) := aBr aVx _ _ _
theorem bMk (args : List DV) (h : aWj args = true) : args = [.i .i64 (.ofNat 60000)] := by
 unfold aWj at h
 split at h
 ·rw [Nat.eq_of_beq_eq_true h]
 ·cases h
theorem cEt {k : IntKind} {n : Int} (ρ : Ren) (l : List Value) (h : VRs ρ [.i k n] l) : VRs (fun _ => none) [.i k n] l := by
 cases h with
 | cons _ _ _ _ q1 q2 =>
  cases q1
  cases q2
  exact .cons _ _ _ _ (.i _ _) .nil
theorem bLv (G : Gd) : mZ Tryz.prog G 19 bGf :=
 aMg (fun G => aCs 912 G 19) bYs aVx bCq (by rw [show (aM 26855).toNat = 27878 from by kernel_rfl]; decide) Tryz.f19 Tryz.func19 (by kernel_rfl) bMk cEt G
noncomputable def rD : RT := fun g => bif Nat.beq g 19 then bGf else gH CF1 912 g
theorem bOg : OkC CF1 rD := by
 refine ⟨vS, fun G g => ?_⟩
 unfold rD
 cases hg : Nat.beq g 19 with
 | true => cases Nat.eq_of_beq_eq_true hg; exact bLv G
 | false => exact aCs 912 G g
theorem cEi (n : Nat) (g : FuncId) (args : List DV) (h : Hp) : bCj n g args h = bif Nat.beq g 19 then newK args h else cK n g args h := rfl
theorem cAf (g : FuncId) (args : List DV) : SimP false (bCj 900 g args) (rD g args) := by
 intro h h' S
 rw [cEi]
 unfold rD
 cases hg : Nat.beq g 19 with
 | false =>
  rw [cond_false, cond_false, xJ]
  exact aOu 900 g args h h' S
 | true => exact bPe args h h' S
theorem HCN (g : FuncId) (args : List DV) : SimP false (bT CF (bCj 900) g args) (bT CF1 rD g args) := by
 cases hg : CF.I g with
 | none => rw [iR hg, iR (zU hg)]; exact cAf g args
 | some F =>
  have e : bT CF (bCj 900) g args = F args := by funext k; unfold bT; rw [hg]
  rw [e]
  have e1 : bT CF1 rD g args = bT CF1 (gH CF1 912) g args := by
   cases h10 : Nat.beq g 19 with
   | true =>
    cases Nat.eq_of_beq_eq_true h10
    exact absurd hg (by show ¬ CF.I 19 = some F; exact fun e => by cases e)
   | false =>
    funext k
    unfold bT rD
    rw [h10]
    rfl
  rw [e1]
  exact aZj g F hg 900 args
theorem bPu {r : aG} {v : DV} {nx : Nat} {l : List (Pos × Ob)} (h : cMw r v nx l = true) : ∃ g, r = some (v, g) ∧ Sim true (iI nx l) g := by
 unfold cMw at h
 split at h <;> (try (cases h; done))
 rename_i u g
 simp only [Bool.and_eq_true] at h
 refine ⟨g, by rw [aCz _ _ h.1], ?_, fun b o hb => ⟨o, ?_, kL o⟩⟩
 ·exact kW _ _ h.2.1
 ·exact zR _ _ h.2.2 (b, o) (wQ _ _ _ hb)
theorem yI : ∃ g', aE CF1 rD 912 8 [] hS = some (.p (aM 7) 0, g') ∧ Sim false hW g' := by
 obtain ⟨g, h1, h2⟩ := bPu cPb
 obtain ⟨g', h3, h4⟩ := nY (P := Tryz.prog) (I2 := CF.I) (I1 := CF1.I) HCN 900 12 8 [] hS hS dLf _ _ ((dCv (bCj 900) 900 [] hS).trans h1)
 exact ⟨g', h3, h2.tf h4⟩
noncomputable def gW1 : Hp := Classical.choose yI
theorem bVl : aE CF1 rD 912 8 [] hS = some (.p (aM 7) 0, gW1) := (Classical.choose_spec yI).1
theorem aWx : Sim false hW gW1 := (Classical.choose_spec yI).2
theorem bDa : bGd HLW = true := by kernel_rfl
noncomputable def aXc : List DV → Hp → aG := sE aTk (.p (aM 7) 0) nxW HLW gW1
theorem bSb (args : List DV) (h : aTk args = true) : args = [] := by
 cases args with
 | nil => rfl
 | cons _ _ => cases h
theorem aMt (G : Gd) : mZ Tryz.prog G 8 aXc :=
 aMg (fun G => qY bOg Try_ok 912 8) bVl aWx bDa (by rw [show (aM 26900).toNat = 27923 from by kernel_rfl]; decide) Tryz.f8 Tryz.func8 (by kernel_rfl) bSb (fun ρ l h => by cases h; exact .nil) G
noncomputable def nN : RT := fun g => bif Nat.beq g 8 then aXc else gH CF1 912 g
theorem recW1_ok : OkC CF1 nN := by
 refine ⟨vS, fun G g => ?_⟩
 unfold nN
 cases hg : Nat.beq g 8 with
 | true => cases Nat.eq_of_beq_eq_true hg; exact aMt G
 | false => exact aCs 912 G g
theorem aSw (n : Nat) (g : FuncId) (args : List DV) (h : Hp) : aAb n g args h = bif Nat.beq g 8 then aOb args h else cK n g args h := rfl
theorem aKn (g : FuncId) (args : List DV) : SimP false (aAb 900 g args) (nN g args) := by
 intro h h' S
 rw [aSw]
 unfold nN
 cases hg : Nat.beq g 8 with
 | false =>
  rw [cond_false, cond_false, xJ]
  exact aOu 900 g args h h' S
 | true => exact aBr aWx _ _ _ h h' S
theorem HCW (g : FuncId) (args : List DV) : SimP false (bT CF (aAb 900) g args) (bT CF1 nN g args) := by
 cases hg : CF.I g with
 | none => rw [iR hg, iR (zU hg)]; exact aKn g args
 | some F =>
  have e : bT CF (aAb 900) g args = F args := by funext k; unfold bT; rw [hg]
  rw [e]
  have e1 : bT CF1 nN g args = bT CF1 (gH CF1 912) g args := by
   cases h10 : Nat.beq g 8 with
   | true =>
    cases Nat.eq_of_beq_eq_true h10
    exact absurd hg (by show ¬ CF.I 8 = some F; exact fun e => by cases e)
   | false =>
    funext k
    unfold bT nN
    rw [h10]
    rfl
  rw [e1]
  exact aZj g F hg 900 args
theorem bNx : ∃ g, aE CF1 nN 912 13 [] hS = some (.b true, g) := by
 have hl := cSz
 cases hr : s13 (aAb 900) 900 hS with
 | none => rw [hr] at hl; cases hl
 | some p =>
  obtain ⟨v, k⟩ := p
  rw [hr] at hl
  cases v <;> (try (cases hl; done))
  rename_i b
  change b = true at hl
  subst hl
  obtain ⟨g, h1, h2⟩ := nY (P := Tryz.prog) (I2 := CF.I) (I1 := CF1.I) HCW 900 12 13 [] hS hS dLf _ _ ((cJc (aAb 900) 900 [] hS).trans hr)
  exact ⟨g, h1⟩
noncomputable def dB : RT := fun g args h => bif Nat.beq g 13 then (match args with
 | [] => some (.b true, h)
 | _ => none) else aAb 900 g args h
noncomputable def aKt : RT := fun g => bif Nat.beq g 13 then (fun args h => match args with
 | [] => some (.b true, h)
 | _ => none) else nN g
theorem bFn : OkC CF1 aKt := by
 refine ⟨vS, fun G g => ?_⟩
 unfold aKt
 cases hg : Nat.beq g 13 with
 | true =>
  cases Nat.eq_of_beq_eq_true hg
  obtain ⟨k, hk⟩ := bNx
  exact bDc (fun G => qY recW1_ok Try_ok 912 13) hk Tryz.f13 Tryz.func13 (by kernel_rfl) G
 | false => exact recW1_ok.fns G g
theorem HCX (g : FuncId) (args : List DV) : SimP false (bT CF dB g args) (bT CF1 aKt g args) := by
 cases hg : CF.I g with
 | none =>
  rw [iR hg, iR (zU hg)]
  intro h h' S
  show SimR false (bif Nat.beq g 13 then (match args with
   | [] => some (.b true, h)
   | _ => none) else aAb 900 g args h) ((bif Nat.beq g 13 then (fun args h => match args with
   | [] => some (.b true, h)
   | _ => none : List DV → Hp → aG) else nN g) args h')
  cases h16 : Nat.beq g 13 with
  | true =>
   rw [cond_true, cond_true]
   cases args with
   | nil => exact SimR.some S _
   | cons a l => exact SimR.none _
  | false => rw [cond_false, cond_false]; exact aKn g args h h' S
 | some F =>
  have e : bT CF dB g args = F args := by funext k; unfold bT; rw [hg]
  have e0 : bT CF (aAb 900) g args = F args := by funext k; unfold bT; rw [hg]
  have e1 : bT CF1 aKt g args = bT CF1 nN g args := by
   cases h16 : Nat.beq g 13 with
   | true =>
    cases Nat.eq_of_beq_eq_true h16
    exact absurd hg (by show ¬ CF.I 13 = some F; exact fun e => by cases e)
   | false =>
    funext k
    unfold bT aKt
    rw [h16]
    rfl
  rw [e, e1, ← e0]
  exact HCW g args
structure Ro (w : World) (ρ : Ren) (h : Hp) : Prop where
 dom : ∀ b o, h.bl.get b = some o → ∃ L, ρ b = some L
 lt : ∀ b L, ρ b = some L → b.toNat < h.next.toNat
 row : ∀ b o, h.bl.get b = some o → ∃ l, o = .row .ro l
 cell : ∀ b l L i v, h.bl.get b = some (.row .ro l) → ρ b = some L → l[i]? = some v → ∃ v', w.cell? (fH L i) = some v' ∧ VR ρ v v'
 sp : ∀ b o L, h.bl.get b = some o → ρ b = some L → L.sp = 0
theorem Ro.isRo {w : World} {ρ : Ren} {h : Hp} (R : Ro w ρ h) {b : Pos} {a : Addr} (c : Claims ρ h b a) : isRo h b := by
 obtain ⟨k, l, L, h1, h2, _⟩ := c
 obtain ⟨l', e⟩ := R.row b _ h1
 exact ⟨l', by rw [h1, e]⟩
theorem Ro.hr {w : World} {ρ : Ren} {h : Hp} (R : Ro w ρ h) (W : Facts w) : HR (gdS w W 0) ρ h w where
 gl := fun _ _ => rfl
 sz := ⟨Nat.le_refl _, fun _ hh => hh.elim⟩
 nx := Nat.zero_le _
 ro := fun b a c _ => by
  obtain ⟨k, l, L, h1, h2, h3⟩ := c
  obtain ⟨l', e⟩ := R.row b _ h1
  cases e
  rcases h3 with ⟨i, v, h4, h5, rfl⟩ | ⟨es, j, h4, _⟩
  ·obtain ⟨v', h6, _⟩ := R.cell b _ L i v h1 h2 h4
   exact fW h6
  ·cases h4
 dom := R.dom
 lt := R.lt
 cell := fun b k l L i v h1 h2 h3 h4 => by
  obtain ⟨l', e⟩ := R.row b _ h1
  cases e
  exact R.cell b _ L i v h1 h2 h3
 spare := fun b l L es j h1 => by
  obtain ⟨l', e⟩ := R.row b _ h1
  cases e
 free := fun b a c hn => absurd (R.isRo c) hn
 inj := fun b b' a c c' hn => absurd (R.isRo c) hn
 ex := fun b l L h1 h2 => by
  rcases h1 with h1 | h1
  ·exact R.sp b _ L h1 h2
  ·exact R.sp b _ L h1 h2
 grone := fun b es l i v h1 => by
  obtain ⟨l', e⟩ := R.row b _ h1
  cases e
 itr := fun b o L hs h1 _ => by
  obtain ⟨l', rfl⟩ := R.row b _ h1
  cases hs
 itj := fun b o b' o' L L' hs hs' h1 _ _ _ _ => by
  obtain ⟨l', rfl⟩ := R.row b _ h1
  cases hs
theorem Ro.none (w : World) (p : Pos) : Ro w (fun _ => none) ⟨p, .e⟩ where
 dom := fun b o h => by cases b <;> cases h
 lt := fun b L h => by cases h
 row := fun b o h => by cases b <;> cases h
 cell := fun b l L i v h => by cases b <;> cases h
 sp := fun b o L h => by cases b <;> cases h
theorem Ro.add {w : World} {ρ : Ren} {h : Hp} (R : Ro w ρ h) (L : Loc) (l : List DV) (hsp : L.sp = 0)
  (hc : ∀ (i : Nat) v, l[i]? = some v → ∃ v', w.cell? (fH L i) = some v' ∧ VR ρ v v') :
  Ro w (nT ρ h.next L) ⟨h.next.succ, Tr.set (.row .ro l) h.next h.bl⟩ ∧ Ext ρ (nT ρ h.next L) := by
 have fresh : ρ h.next = Option.none := by
  cases e : ρ h.next with
  | none => rfl
  | some L' => exact absurd (R.lt _ _ e) (Nat.lt_irrefl _)
 have ext : Ext ρ (nT ρ h.next L) := fun b L' e => by
  have hb : b ≠ h.next := fun e2 => by rw [e2, fresh] at e; cases e
  rw [aU _ _ hb]; exact e
 refine ⟨?_, ext⟩
 have get : ∀ b o, (⟨h.next.succ, Tr.set (.row .ro l) h.next h.bl⟩ : Hp).bl.get b = some o → (b = h.next ∧ o = .row .ro l) ∨ (b ≠ h.next ∧ h.bl.get b = some o) := fun b o e => by
  by_cases hb : b = h.next
  ·subst hb
   rw [show ((⟨h.next.succ, Tr.set (.row .ro l) h.next h.bl⟩ : Hp).bl.get h.next) = some (.row .ro l) from dKc _ _ _] at e
   cases e
   exact .inl ⟨rfl, rfl⟩
  ·refine .inr ⟨hb, ?_⟩
   rw [← dKb (.row .ro l) h.next b h.bl hb]
   exact e
 constructor
 ·intro b o e
  rcases get b o e with ⟨rfl, _⟩ | ⟨hb, e2⟩
  ·exact ⟨L, bR _ _ _⟩
  ·rw [aU _ _ hb]; exact R.dom b o e2
 ·intro b L' e
  show b.toNat < h.next.succ.toNat
  rw [dKd]
  by_cases hb : b = h.next
  ·rw [hb]; omega
  ·rw [aU _ _ hb] at e
   have := R.lt b L' e
   omega
 ·intro b o e
  rcases get b o e with ⟨rfl, rfl⟩ | ⟨hb, e2⟩
  ·exact ⟨l, rfl⟩
  ·exact R.row b o e2
 ·intro b l' L' i v e e2 e3
  rcases get b _ e with ⟨rfl, e4⟩ | ⟨hb, e4⟩
  ·cases e4
   rw [bR] at e2
   cases e2
   obtain ⟨v', h1, h2⟩ := hc i v e3
   exact ⟨v', h1, h2.mono ext⟩
  ·rw [aU _ _ hb] at e2
   obtain ⟨v', h1, h2⟩ := R.cell b l' L' i v e4 e2 e3
   exact ⟨v', h1, h2.mono ext⟩
 ·intro b o L' e e2
  rcases get b _ e with ⟨rfl, e4⟩ | ⟨hb, e4⟩
  ·rw [bR] at e2
   cases e2
   exact hsp
  ·rw [aU _ _ hb] at e2
   exact R.sp b o L' e4 e2
theorem Ro.sim {w : World} {ρ : Ren} {h : Hp} (R : Ro w ρ h) : Sim false h h := ⟨rfl, fun b o e => by
 obtain ⟨l, rfl⟩ := R.row b o e
 exact ⟨_, e, rfl⟩⟩
theorem Ro.skip {w : World} {ρ : Ren} {h : Hp} (R : Ro w ρ h) (p : Pos) (hp : h.next.toNat ≤ p.toNat) : Ro w ρ ⟨p, h.bl⟩ := ⟨R.dom, fun b L hL => Nat.lt_of_lt_of_le (R.lt b L hL) hp, R.row, R.cell, R.sp⟩
theorem rY {f : FuncId} {args : List DV} {h0 : Hp} {ρ : Ren} (hr : ∃ k, aE CF dB 900 f args h0 = some (.b true, k)) (fn : Func) (hf : Tryz.prog.funcs[f]? = some fn) (hb : fn.body.isSome = true)
  (w : World) (W : Facts w) (R : Ro w ρ h0) (args' : Array Value) (hargs : VRs ρ args args'.toList) :
  Calls Tryz.prog f args' w fun e w' => e = .returned (.bool true) ∧ Below w.heap.size w w' := by
 obtain ⟨k, hk⟩ := hr
 obtain ⟨g, h1, _⟩ := nY (P := Tryz.prog) (I2 := CF.I) (I1 := CF1.I) HCX 900 12 f args h0 h0 R.sim _ _ hk
 have H := R.hr W
 rcases qY bFn Try_ok 912 f args h0 _ g h1 _ w args' H hargs with ⟨_, h⟩ | ⟨ρ', w', v', h, _⟩
 ·refine h.mono ?_
  rintro e w' ⟨ρ', v', rfl, h2, h3, h4, h5⟩
  cases h3
  exact ⟨rfl, h5.low⟩
 ·exfalso
  have hn : ¬ fn.name = "runtime.NumGoroutine" := by simpa using Try_ok.names f fn hf
  have hbn : fn.body ≠ none := by intro e; rw [e] at hb; cases hb
  unfold callFunc at h
  simp [show CF1.P.funcs[f]? = some fn from hf, hn, hbn] at h
end Go.Dd

namespace Go.Dd
open Go.Proofs Go.RowKit
abbrev cXk : List (String × DataW Unit) := YtcepbgoefnfnmaaGreatDoor.Rows.renderWordsRow.laid
theorem bLp : (YtcepbgoefnfnmaaGreatDoor.Rows.laid_internal_strconv_uint64pow10 : DataW Unit) = Lib.tabData .u64 Lib.pow10Tab := by kernel_rfl
theorem nG {W : World} (hL : laidMet Tryz.prog cXk W) (hs : W.ShapedOpen Tryz.prog) : Facts W := by
 refine ⟨Tryz.laysM143.s1_3 W hs, ?_⟩
 obtain ⟨g, t, cs, fuel, p, hg, ht, hv, hd⟩ := Lib.laidMet.reads hL (n := "internal/strconv.uint64pow10") (d := YtcepbgoefnfnmaaGreatDoor.Rows.laid_internal_strconv_uint64pow10) (.tail _ (.tail _ (.head _)))
 have e1 : Tryz.prog.globalNamed "internal/strconv.uint64pow10" = some 1 := by kernel_rfl
 obtain rfl := Option.some.inj (e1.symm.trans hg)
 have e2 : (Tryz.prog.globals[1]?).map (·.type) = some 184 := by kernel_rfl
 obtain rfl := Option.some.inj (e2.symm.trans ht)
 rw [bLp] at hd
 have hc := Lib.cells_of_tab Tryz.underlying184 Tryz.underlying156 (by kernel_rfl) (by kernel_rfl) hd
 unfold World.var? at hv
 rw [e1] at hv
 simp only [Option.bind_some] at hv
 split at hv
 ·rename_i cs' t' z' hh
  obtain rfl := Option.some.inj hv
  refine ⟨t', z', ?_⟩
  rw [hh]
  congr 2
  rw [← hc]
 ·cases hv
theorem hU {H : Type} {enc : TypeId × Value → H} {a : Assume} {C : Checked} {os : Os} {f : FuncId} {fn : Func} {s : ChangeSpec} {conds : List PathCond} {apart fresh handsOn again : Bool} {X : World → Array Value → Prop}
  (hX : ∀ (w w' : World) (args : Array Value), w.heap = w'.heap → X w args → X w' args)
  (own : ownKnob C.prog.godebug = none) (started : os.Started) (noInit : C.prog.inits.idxOf? f = none) (hfn : C.prog.funcs[f]? = some fn)
  (witness : ∃ (w : World) (tape : Tape) (i : Input), w.os = os ∧ (w.forCall tape i).Shaped C.prog ∧ i.vars = [] ∧ Input.okWide C.prog (w.forCall tape i) .any w.heap.size f i ∧
   ((s.pre enc C.prog fn conds apart (w.forCall tape i).memory i.args ∧ X (w.forCall tape i).memory i.args) ∧ sizedMet enc C.prog fn (OpenSpec.ofChange s) apart (w.forCall tape i).memory i.args) ∧ a.holds C.prog (lone (Frame.enter C.prog f i.args .normal) [] (w.forCall tape i)))
  (contract : ∀ (W : World) (base : Nat) (args : Array Value) (ds gs : List (DataW H)) (before : List MemPlace),
   (∀ (j : Nat) t v, fn.params[j]? = some t → args[j]? = some v → Value.okWide C.prog W .any base t v) →
   DataW.Whole enc C.prog fn.params.toList s.vars apart W args.toList ds gs before →
   X W args → W.ShapedOpen C.prog →
   Calls C.prog f args W fun e W' => ∃ v, e = .returned v ∧ s.post enc C.prog fn apart fresh handsOn again W args v W') :
  ReturnsInHanded a C os f .any (fun w args => (s.pre enc C.prog fn conds apart w args ∧ X w args) ∧ sizedMet enc C.prog fn (OpenSpec.ofChange s) apart w args) (s.post enc C.prog fn apart fresh handsOn again) := by
 refine returnsInHanded_of_calls own started noInit witness ?_
 intro w tape i _ hsh _ hok hpre hholds
 obtain ⟨_, _, _, fn', hfn', _, _, _, _, hval⟩ := hok
 have e : fn' = fn := Option.some.inj (hfn'.symm.trans hfn)
 subst e
 obtain ⟨⟨⟨ds, gs, before, hw, hc⟩, hx⟩, hz⟩ := hpre
 have hw' := DataW.Whole.of_heap (w' := w.forCall tape i) (by rfl) hw
 refine (contract (w.forCall tape i) w.heap.size i.args ds gs before hval hw' (hX _ _ _ (by rfl) hx) hsh).mono fun e W' ⟨v, he, hp⟩ => ?_
 subst he
 exact ChangeSpec.post_blind hp
theorem own : ownKnob Tryz.prog.godebug = none := by kernel_rfl
theorem bGp {P : Program} {W : World} {base : Nat} {t : TypeId} {v : Value} {fs : Array Field} (ht : P.underlying t = some (.struct fs)) (h : Value.okWide P W .any base t v) : ∃ cs, v = .agg cs := by
 unfold Value.okWide at h
 rw [ht] at h
 obtain ⟨cs, e, _⟩ := h
 exact ⟨cs, e⟩
end Go.Dd

