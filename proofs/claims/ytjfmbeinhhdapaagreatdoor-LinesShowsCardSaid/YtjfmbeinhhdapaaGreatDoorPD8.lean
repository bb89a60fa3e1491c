/- A part of the proof: HD HE OC T0 TL TM TN TP TQ TR HF HG HI W1 W2 W3 W4 W5 LT0 LT1 LT2 LT3 RH NJ SH QQ FQ RL QN: each text has a comment of its own. -/
import Derived.Test.YtjfmbeinhhdapaaGreatDoorPD4
import Derived.Test.YtjfmbeinhhdapaaGreatDoorPD5
import Derived.Test.YtjfmbeinhhdapaaGreatDoorPD6
import Derived.Test.YtjfmbeinhhdapaaGreatDoorPD7
import Derived.Shelf.Strings.Builder1
import Derived.Shelf.Strings.Builder2
import Derived.Shelf.Strings.OnBuilder
import Derived.Shelf.Small.Bits
import Derived.Shelf.Small.Strs
import Derived.Shelf.Utf8.RuneCount
import Derived.Shelf.Strconv.Atoi
import Derived.Shelf.Strconv.Itoa0
import Derived.Shelf.Strconv.Itoa1
import Derived.Shelf.LaysM
import Derived.Shelf.Strconv.Itoa2
import Derived.Shelf.Strconv.Itoa3
import Derived.Shelf.Strconv.AtoiErrFast
import Derived.Shelf.Strconv.ParseIntEmpty
import Derived.Shelf.Strconv.AtoiFail
import Derived.Shelf.Strconv.Clone
import Derived.Shelf.Strconv.SyntaxError
import Derived.Shelf.LaysC
import Derived.Shelf.Strconv.ToError
import Derived.Shelf.Strconv.Lower
import Derived.Shelf.Strconv.ParseUint10
import Derived.Shelf.Strconv.ParseUint10Empty
import Derived.Shelf.Strconv.ParseUint10Any
import Derived.Shelf.Strconv.ParseInt10
import Derived.Shelf.Strconv.AtoiLong
import Derived.Shelf.Strconv.AtoiInnerAll
import Derived.Shelf.Strconv.RangeError
import Derived.Shelf.Strconv.ToErrorRange
import Derived.Shelf.Strconv.AtoiAll
import Derived.Shelf.Strings.Search1
import Derived.Shelf.Strings.Search2
import Derived.Shelf.Strings.Search3
import Derived.Shelf.Strings.Cut
import Derived.Shelf.Strings.Count
import Derived.Shelf.Strings.Shaped
import Derived.Shelf.Strings.Split
import Derived.Shelf.Strings.Replace
import Derived.Shelf.Strings.SplitShaped
import Derived.Shelf.Unicode.Decode
import Derived.Shelf.Strings.RuneCount
import Derived.Shelf.Strings.Explode
import Derived.Shelf.Bits.Mul64
import Derived.Shelf.Unicode.DecodeSlow
import Derived.Shelf.Unicode.DecodeAny
import Derived.Shelf.Slices.Reverse
import Derived.Ground.Names2Prog
import Derived.Shelf.Slices.Clone
import Derived.Shelf.Slices.CompactS
import Derived.Shelf.Slices.SearchI
import Derived.Shelf.Slices.Cells
import Derived.Ground.SlgnProg
import Derived.Shelf.SlicesE.Clone
import Derived.Test.YtjfmbeinhhdapaaGreatDoorProg
import Derived.Lib.SplitLaws
import Derived.Lib.IndexBytes
import Derived.Lib.CutLaws
import Derived.Lib.AtoiAll
import Derived.Tactics
import Derived.Tactics2
import Derived.RegionTactic
import Derived.RegionCalls
set_option linter.unusedVariables false
set_option linter.unusedSimpArgs false
set_option linter.constructorNameAsVariable false
set_option maxRecDepth 100000
namespace Go.Dd
theorem lY : ∀ p q : Pos, mI p q = true → p = q
 | .h, .h, _ => rfl
 | .h, .o q, h => by cases h
 | .h, .i q, h => by cases h
 | .o p, .h, h => by cases h
 | .o p, .o q, h => by rw [lY p q h]
 | .o p, .i q, h => by cases h
 | .i p, .h, h => by cases h
 | .i p, .o q, h => by cases h
 | .i p, .i q, h => by rw [lY p q h]
theorem bCa (x y : Int) (h : bZi x y = true) : x = y := by
 cases x <;> cases y <;> simp only [bZi] at h
 ·rw [Nat.eq_of_beq_eq_true h]
 ·cases h
 ·cases h
 ·rw [Nat.eq_of_beq_eq_true h]
theorem aIv : ∀ t u : WT, wtE t u = true → t = u
 | .e, .e, _ => rfl
 | .e, .n _ _ _, h => by cases h
 | .n _ _ _, .e, h => by cases h
 | .n l v r, .n l' v' r', h => by
  have h' : (bZi v v' && (wtE l l' && wtE r r')) = true := h
  simp only [Bool.and_eq_true] at h'
  rw [bCa _ _ h'.1, aIv _ _ h'.2.1, aIv _ _ h'.2.2]
theorem aPh (x y : DV) (h : dvE x y = true) : x = y := by
 unfold dvE at h
 split at h <;> (try (cases h; done)) <;> (try rfl)
 ·rw [bCa _ _ h]
 ·rw [(nI _ _).1 h]
 ·simp only [Bool.and_eq_true] at h
  rw [lY _ _ h.1, Nat.eq_of_beq_eq_true h.2]
 ·simp only [Bool.and_eq_true] at h
  rw [lY _ _ h.1, Nat.eq_of_beq_eq_true h.2.1, Nat.eq_of_beq_eq_true h.2.2.1, Nat.eq_of_beq_eq_true h.2.2.2]
 ·rw [lY _ _ h]
 ·simp at h; rw [h]
theorem aLb : ∀ l m : List DV, cLf l m = true → l = m
 | [], [], _ => rfl
 | [], _ :: _, h => by cases h
 | _ :: _, [], h => by cases h
 | x :: l, y :: m, h => by
  have h' : (dvE x y && cLf l m) = true := h
  simp only [Bool.and_eq_true] at h'
  rw [aPh _ _ h'.1, aLb _ _ h'.2]
theorem bAl : ∀ l m : List (DV × DV), dLf l m = true → l = m
 | [], [], _ => rfl
 | [], _ :: _, h => by cases h
 | _ :: _, [], h => by cases h
 | x :: l, y :: m, h => by
  have h' : (dvE x.1 y.1 && (dvE x.2 y.2 && dLf l m)) = true := h
  simp only [Bool.and_eq_true] at h'
  rw [bAl _ _ h'.2.2]
  congr 1
  exact Prod.ext (aPh _ _ h'.1) (aPh _ _ h'.2.1)
theorem dEu (o p : Ob) (h : obE o p = true) : o = p := by
 unfold obE at h
 split at h <;> (try (cases h; done))
 ·rw [aLb _ _ h]
 ·rw [bAl _ _ h]
 ·simp only [Bool.and_eq_true] at h
  rw [Nat.eq_of_beq_eq_true h.1, aIv _ _ h.2]
 ·rw [aIv _ _ h]
theorem aNc (t : Tr Ob) : ∀ l : List (Pos × Ob), bVc t l = true → ∀ x ∈ l, t.get x.1 = some x.2
 | [], _, x, hx => by cases hx
 | y :: l, h, x, hx => by
  have h' : ((match t.get y.1 with
   | some o => obE o y.2
   | none => false) && bVc t l) = true := h
  simp only [Bool.and_eq_true] at h'
  rcases List.mem_cons.1 hx with rfl | hx
  ·have h1 := h'.1
   split at h1
   ·rename_i o ho
    rw [ho, dEu _ _ h1]
   ·cases h1
  ·exact aNc t l h'.2 x hx
theorem aMn : ∀ (l : List (Pos × Ob)) (b : Pos) (o : Ob), (cXw l).get b = some o → (b, o) ∈ l
 | [], b, o, h => by cases b <;> cases h
 | y :: l, b, o, h => by
  have h' : (Tr.set y.2 y.1 (cXw l)).get b = some o := h
  by_cases e : b = y.1
  ·subst e
   rw [eCm] at h'
   simp only [aV] at h'
   rw [← h']
   exact List.mem_cons_self
  ·rw [eCl _ _ _ _ e] at h'
   exact List.mem_cons_of_mem _ (aMn l b o h')
theorem lE (o : Ob) : wC true o o := by cases o <;> simp [wC]
theorem Sim.refl (h : Hp) : Sim true h h := ⟨rfl, fun b o hb => ⟨o, hb, lE o⟩⟩
theorem kD {o o' : Ob} (h : wC true o o') : o' = o := by cases o <;> simpa [wC] using h
theorem Sim.trans {a b c : Hp} (h : Sim true a b) (k : Sim true b c) : Sim true a c := ⟨k.next.trans h.next, fun p o hp => by
 obtain ⟨o', h1, h2⟩ := h.get p o hp
 rw [kD h2] at h1
 exact k.get p o h1⟩
theorem bBl {r : aG} {vs : List DV} {nx : Nat} {l : List (Pos × Ob)} (h : lR r vs nx l = true) : ∃ g, r = some (.t vs, g) ∧ Sim true (iS nx l) g := by
 unfold lR at h
 split at h <;> (try (cases h; done))
 rename_i us g
 simp only [Bool.and_eq_true] at h
 refine ⟨g, by rw [aLb _ _ h.1], ?_, fun b o hb => ⟨o, ?_, lE o⟩⟩
 ·exact lY _ _ h.2.1
 ·exact aNc _ _ h.2.2 (b, o) (aMn _ _ _ hb)
end Go.Dd

namespace Go.Dd
open Go.Proofs
noncomputable section
def pN0 : Code := cf Tryz.f55
def pN1 : Code := cR pN0
def pN2 : Code := cR pN1
def pN3 : Code := cR pN2
def pN4 : Code := cR pN3
def pN5 : Code := cR pN4
def pN6 : Code := cR pN5
def cPx : Code := .seq (cL pN0) (.seq (cL pN1) (.seq (cL pN2) (.seq (cL pN3) (.seq (cL pN4) (.seq (cL pN5) (cL (cL pN6)))))))
def cAk : Code := cR (cL pN6)
def dQe : Code := cR pN6
def hS : Hp := ⟨cO 1, .e⟩
def dMp : K := fun e h => some (.t [e 5, e 155, e 156, e 157], h)
def dHa (n : Nat) : aG := aM CF (kS 899) 179 899 cPx (fun _ _ _ => none) (fun _ _ => none) dMp (aH [.i .i64 (.ofNat n)]) hS
end
theorem he0 : lR (dHa 30000) (lF 0) 432 (nJ 30000 553 84 18 [1076, 1096, 6, 24, 42, 60, 78, 96, 114, 132, 150, 168, 186, 204, 222, 240, 258, 276] [(10, 0), (19, 0), (46, 0), (55, 0), (64, 0), (91, 0), (100, 0), (109, 0), (118, 0), (127, 0), (145, 0)] 0) = true := by kernel_rfl
end Go.Dd

namespace Go.Dd
inductive Out where
 | n (e : aZ) (h : Hp)
 | x (i : Nat) (e : aZ) (h : Hp)
 | r (e : aZ) (h : Hp)
def eDy (o : Option Out) (X : Nat → K) (kr k : K) : aG :=
 match o with
 | none => none
 | some (.n e h) => k e h
 | some (.x i e h) => X i e h
 | some (.r e h) => kr e h
section
variable {C : Cfg} {rec : FuncId → List DV → Hp → aG} {nt : Nat}
theorem bCx (all : Array Oper) : ∀ l : List Oper, ∃ O : aZ → Hp → Option (aZ × Hp), ∀ k env h, gM C rec nt all l k env h = match O env h with
  | none => none
  | some (e, h) => k e h
 | [] => ⟨fun e h => some (e, h), fun k env h => rfl⟩
 | o :: l => by
  obtain ⟨O, hO⟩ := bCx all l
  refine ⟨fun env h => bif dA nt o.dst then (match bJ C rec all o env h with
   | some (v, h') => O (bM env o.dst v) h'
   | none => none) else none, fun k env h => ?_⟩
  change cnd (dA nt o.dst) (bnd (bJ C rec all o env h) fun v h' => gM C rec nt all l k (bM env o.dst v) h') = _
  cases dA nt o.dst with
  | false => rfl
  | true =>
   simp only [cond_true]
   cases hs : bJ C rec all o env h with
   | none => rfl
   | some p => exact hO k _ _
theorem aMp (all : Array Oper) (m : Array Nat) (p0 : Pos) : ∀ (l : List Oper) (i c : Nat) (dirty : Bool) (rd : List Seen) (hs : List (Option Nat × Hp)), ∃ O : aZ → Hp → Option (aZ × Hp),
  ∀ k env h, eJ C rec nt all m p0 l k i c dirty rd hs env h = match O env h with
   | none => none
   | some (e, h) => k e h
 | [], i, c, dirty, rd, hs => ⟨fun e h => some (e, h), fun k env h => rfl⟩
 | o :: l, i, c, dirty, rd, hs => by
  have ih := aMp all m p0 l
  cases hc : bU C.P o.op with
  | pure =>
   obtain ⟨O, hO⟩ := ih (i + 1) c dirty rd hs
   refine ⟨fun env h => bif dA nt o.dst then (match bJ C rec all o env h with
    | some (v, h') => O (bM env o.dst v) h'
    | none => none) else none, fun k env h => ?_⟩
   have e : eJ C rec nt all m p0 (o :: l) k i c dirty rd hs env h = cnd (dA nt o.dst) (bnd (bJ C rec all o env h) fun v h' => eJ C rec nt all m p0 l k (i + 1) c dirty rd hs (bM env o.dst v) h') := by
    change cnd (dA nt o.dst) (match bU C.P o.op with | .pure => _ | .reads => _ | .makes => _ | .acts => _) = _
    rw [hc]
    rfl
   rw [e]
   cases dA nt o.dst with
   | false => rfl
   | true =>
    simp only [cond_true]
    cases hs : bJ C rec all o env h with
    | none => rfl
    | some p => exact hO k _ _
  | reads =>
   have hex : ∀ (env : aZ) (v : DV), ∃ O : aZ → Hp → Option (aZ × Hp), ∀ k e h, eJ C rec nt all m p0 l k (i + 1) c dirty (⟨i, bJ C rec all o env, v⟩ :: rd) hs e h = match O e h with
    | none => none
    | some (e, h) => k e h := fun env v => ih (i + 1) c dirty (⟨i, bJ C rec all o env, v⟩ :: rd) hs
   refine ⟨fun env h => bif dA nt o.dst then (match bJ C rec all o env h with
    | some (v, h') => bif eM m i v (bJ C rec all o env) dirty hs then (hex env v).choose (bM env o.dst v) h' else none
    | none => none) else none, fun k env h => ?_⟩
   have e : eJ C rec nt all m p0 (o :: l) k i c dirty rd hs env h = cnd (dA nt o.dst) (bnd (bJ C rec all o env h) fun v h' =>
     cnd (eM m i v (bJ C rec all o env) dirty hs) (eJ C rec nt all m p0 l k (i + 1) c dirty (⟨i, bJ C rec all o env, v⟩ :: rd) hs (bM env o.dst v) h')) := by
    change cnd (dA nt o.dst) (match bU C.P o.op with | .pure => _ | .reads => _ | .makes => _ | .acts => _) = _
    rw [hc]
    rfl
   rw [e]
   cases dA nt o.dst with
   | false => rfl
   | true =>
    simp only [cond_true]
    cases hs2 : bJ C rec all o env h with
    | none => rfl
    | some p =>
     obtain ⟨v, h'⟩ := p
     show cnd (eM m i v (bJ C rec all o env) dirty hs) _ = _
     cases hcc : eM m i v (bJ C rec all o env) dirty hs with
     | false => simp only [hcc, cond_false]
     | true => simp only [hcc, cond_true]; exact (hex env v).choose_spec k _ _
  | makes =>
   obtain ⟨O, hO⟩ := ih (i + 1) (c + 1) true rd hs
   refine ⟨fun env h => bif dA nt o.dst then (match dX C o (cB c p0) env h with
    | some (v, h') => O (bM env o.dst v) h'
    | none => none) else none, fun k env h => ?_⟩
   have e : eJ C rec nt all m p0 (o :: l) k i c dirty rd hs env h = cnd (dA nt o.dst) (bnd (dX C o (cB c p0) env h) fun v h' => eJ C rec nt all m p0 l k (i + 1) (c + 1) true rd hs (bM env o.dst v) h') := by
    change cnd (dA nt o.dst) (match bU C.P o.op with | .pure => _ | .reads => _ | .makes => _ | .acts => _) = _
    rw [hc]
    rfl
   rw [e]
   cases dA nt o.dst with
   | false => rfl
   | true =>
    simp only [cond_true]
    cases hs : dX C o (cB c p0) env h with
    | none => rfl
    | some p => exact hO k _ _
  | acts =>
   have hex : ∀ h' : Hp, ∃ O : aZ → Hp → Option (aZ × Hp), ∀ k e h, eJ C rec nt all m p0 l k (i + 1) c false rd ((some i, h') :: hs) e h = match O e h with
    | none => none
    | some (e, h) => k e h := fun h' => ih (i + 1) c false rd ((some i, h') :: hs)
   refine ⟨fun env h => bif dA nt o.dst then (match bJ C rec all o env h with
    | some (v, h') => bif rd.all (fun q => gF m q.at_ i || bB (q.look h') q.v) then (hex h').choose (bM env o.dst v) h' else none
    | none => none) else none, fun k env h => ?_⟩
   have e : eJ C rec nt all m p0 (o :: l) k i c dirty rd hs env h = cnd (dA nt o.dst) (bnd (bJ C rec all o env h) fun v h' =>
     cnd (rd.all (fun q => gF m q.at_ i || bB (q.look h') q.v)) (eJ C rec nt all m p0 l k (i + 1) c false rd ((some i, h') :: hs) (bM env o.dst v) h')) := by
    change cnd (dA nt o.dst) (match bU C.P o.op with | .pure => _ | .reads => _ | .makes => _ | .acts => _) = _
    rw [hc]
    rfl
   rw [e]
   cases dA nt o.dst with
   | false => rfl
   | true =>
    simp only [cond_true]
    cases hs2 : bJ C rec all o env h with
    | none => rfl
    | some p =>
     obtain ⟨v, h'⟩ := p
     show cnd (rd.all (fun q => gF m q.at_ i || bB (q.look h') q.v)) _ = _
     cases hcc : rd.all (fun q => gF m q.at_ i || bB (q.look h') q.v) with
     | false => simp only [hcc, cond_false]
     | true => simp only [hcc, cond_true]; exact (hex h').choose_spec k _ _
theorem aNn (n : Nat) : ∀ c : Code, ∃ O : aZ → Hp → Option Out, ∀ X kr k env h, aM C rec nt n c X kr k env h = eDy (O env h) X kr k := by
 have hfail : ∃ O : aZ → Hp → Option Out, ∀ (X : Nat → K) (kr k : K) (env : aZ) (h : Hp), cN env h = eDy (O env h) X kr k := ⟨fun _ _ => none, fun X kr k env h => rfl⟩
 intro c
 induction c with
 | skip => exact ⟨fun e h => some (.n e h), fun X kr k env h => rfl⟩
 | region id ops dr =>
  cases dr with
  | false =>
   obtain ⟨O, hO⟩ := bCx (C := C) (rec := rec) (nt := nt) ops ops.toList
   refine ⟨fun env h => (O env h).map fun p => .n p.1 p.2, fun X kr k env h => ?_⟩
   show gM C rec nt ops ops.toList k env h = _
   rw [hO]
   dsimp only
   cases hh : O env h <;> rfl
  | true =>
   cases hd : eO C.P ops with
   | false =>
    refine ⟨fun _ _ => none, fun X kr k env h => ?_⟩
    show (Bool.rec (motive := fun _ => K) cN (iB C rec nt ops k) (eO C.P ops)) env h = _
    rw [hd]; rfl
   | true =>
    have hex : ∀ h : Hp, _ := fun h => aMp (C := C) (rec := rec) (nt := nt) ops (Region.before ops) h.next ops.toList 0 0 false [] [(none, resv (cF C.P ops.toList) h)]
    refine ⟨fun env h => ((hex h).choose env (resv (cF C.P ops.toList) h)).map fun p => .n p.1 p.2, fun X kr k env h => ?_⟩
    have e : aM C rec nt n (.region id ops true) X kr k env h = iB C rec nt ops k env h := by
     show (Bool.rec (motive := fun _ => K) cN (iB C rec nt ops k) (eO C.P ops)) env h = _
     rw [hd]
    rw [e]
    unfold iB
    rw [(hex h).choose_spec k env _]
    dsimp only
    cases hh : (hex h).choose env (resv (cF C.P ops.toList) h) <;> rfl
 | seq x y ihx ihy =>
  obtain ⟨O1, h1⟩ := ihx
  obtain ⟨O2, h2⟩ := ihy
  refine ⟨fun env h => match O1 env h with
   | some (.n e h) => O2 e h
   | o => o, fun X kr k env h => ?_⟩
  show aM C rec nt n x X kr (aM C rec nt n y X kr k) env h = _
  rw [h1]
  dsimp only
  cases ho : O1 env h with
  | none => rfl
  | some o =>
   cases o with
   | n e h' => exact h2 X kr k e h'
   | x i e h' => rfl
   | r e h' => rfl
 | cond c x y ihx ihy =>
  obtain ⟨O1, h1⟩ := ihx
  obtain ⟨O2, h2⟩ := ihy
  refine ⟨fun env h => match opr env c with
   | .b true => O1 env h
   | .b false => O2 env h
   | _ => none, fun X kr k env h => ?_⟩
  show aT (opr env c) (aM C rec nt n x X kr k env h) (aM C rec nt n y X kr k env h) = _
  rw [h1, h2]
  unfold aT
  dsimp only
  cases opr env c <;> try rfl
  rename_i b
  cases b <;> rfl
 | block id x ih =>
  obtain ⟨O1, h1⟩ := ih
  refine ⟨fun env h => match O1 env h with
   | some (.x i e h') => bif Nat.beq i id then some (.n e h') else some (.x i e h')
   | o => o, fun X kr k env h => ?_⟩
  show aM C rec nt n x (fun j => bif Nat.beq j id then k else X j) kr k env h = _
  rw [h1]
  dsimp only
  cases ho : O1 env h with
  | none => rfl
  | some o =>
   cases o with
   | n e h' => rfl
   | r e h' => rfl
   | x i e h' =>
    simp only [eDy]
    cases hb : Nat.beq i id with
    | true => rfl
    | false => rfl
 | loop x ih =>
  obtain ⟨O1, h1⟩ := ih
  have key : ∀ m : Nat, ∃ O : aZ → Hp → Option Out, ∀ (X : Nat → K) (kr k : K) env h, aL (fun kk => aM C rec nt n x X kr kk) m env h = eDy (O env h) X kr k := by
   intro m
   induction m with
   | zero => exact ⟨fun _ _ => none, fun X kr k env h => rfl⟩
   | succ m ihm =>
    obtain ⟨O2, h2⟩ := ihm
    refine ⟨fun env h => match O1 env h with
     | some (.n e h) => O2 e h
     | o => o, fun X kr k env h => ?_⟩
    show aM C rec nt n x X kr (aL (fun kk => aM C rec nt n x X kr kk) m) env h = _
    rw [h1]
    dsimp only
    cases ho : O1 env h with
    | none => rfl
    | some o =>
     cases o with
     | n e h' => exact h2 X kr k e h'
     | x i e h' => rfl
     | r e h' => rfl
  exact key n
 | rangeFunc f ps x y ihx ihy => exact hfail
 | exit id => exact ⟨fun e h => some (.x id e h), fun X kr k env h => rfl⟩
 | scope x ih => exact ih
 | label l => exact ⟨fun e h => some (.n e h), fun X kr k env h => rfl⟩
 | goto l => exact hfail
 | ret => exact ⟨fun e h => some (.r e h), fun X kr k env h => rfl⟩
 | refuse why => exact hfail
end
end Go.Dd

namespace Go.Dd
open Go.Proofs
noncomputable def t20 (rec : FuncId → List DV → Hp → aG) (n : Nat) (x0 x1 : DV) (h0 : Hp) : aG :=
 bnd (aD .eql x1 (.i .i64 (Int.ofNat 0)) h0) fun v1 h1 =>
 bnd (gD v1 false (some (x1, h1)) h1) fun v2 h2 =>
 bnd (gD v1 false (aD .eql v2 (.i .i64 (Int.ofNat 2)) h2) h2) fun v3 h3 =>
 bnd (aN v1 (.b true) v3 h3) fun v4 h4 =>
 bnd (gD v4 false (some (x1, h4)) h4) fun v5 h5 =>
 bnd (gD v4 false (aD .eql v5 (.i .i64 (Int.ofNat 4)) h5) h5) fun v6 h6 =>
 bnd (aN v4 (.b true) v6 h6) fun v7 h7 =>
 bnd (gD v7 false (some (x1, h7)) h7) fun v8 h8 =>
 bnd (gD v7 false (rec 200 [v8] h8) h8) fun v9 h9 =>
 bnd (aN v7 (.b true) v9 h9) fun v10 h10 =>
 bnd (gD v10 false (some (x0, h10)) h10) fun v11 h11 =>
 bnd (gD v10 false (some (x1, h11)) h11) fun v12 h12 =>
 bnd (gD v10 false (rec 196 [v11, v12] h12) h12) fun v13 h13 =>
 bnd (aN v10 (.b true) v13 h13) fun v14 h14 =>
 some (v14, h14)
noncomputable def E20 (rec : FuncId → List DV → Hp → aG) (n : Nat) (c : Code) (X : Nat → K) (k : K) : K := aM CF1 rec 24 n c X (aO CF1 Tryz.f132) k
theorem dYz (rec : FuncId → List DV → Hp → aG) (n : Nat) : E20 rec n (cf Tryz.f132) x0 (aO CF1 Tryz.f132) = (fun (env : aZ) (h : Hp) => t20 rec n (env 0) (env 1) h) :=
 (by kernel_rfl)
theorem dUq (rec : FuncId → List DV → Hp → aG) (n : Nat) (args : List DV) (h : Hp) : aF CF1 rec n 132 args h = t20 rec n (args.getD 0 aR) (args.getD 1 aR) h :=
 (by kernel_rfl : aF CF1 rec n 132 args h = E20 rec n (cf Tryz.f132) x0 (aO CF1 Tryz.f132) (aH args) h).trans ((congrFun (congrFun (dYz rec n) (aH args)) h).trans (by kernel_rfl))
noncomputable def t21 (rec : FuncId → List DV → Hp → aG) (n : Nat) (x0 x1 : DV) (h0 : Hp) : aG :=
 bnd (rec 247 [x1] h0) fun v1 h1 =>
 bnd (gD v1 true (some (x0, h1)) h1) fun v2 h2 =>
 bnd (gD v1 true (aY v2 h2) h2) fun v3 h3 =>
 bnd (gD v1 true (aB 3 v3 h3) h3) fun v4 h4 =>
 bnd (gD v1 true (aA v4 h4) h4) fun v5 h5 =>
 bnd (gD v1 true (some (x1, h5)) h5) fun v6 h6 =>
 bnd (gD v1 true (rec 198 [v6] h6) h6) fun v7 h7 =>
 cnd (bB (gD v1 true (aA v4 h7) h7) v5 && true) (
 bnd (gD v1 true (eC (.int .i64) (.b false) false v5 v7 h7) h7) fun v8 h8 =>
 bnd (aN v1 v8 (.b false) h8) fun v9 h9 =>
 some (v9, h9))
noncomputable def E21 (rec : FuncId → List DV → Hp → aG) (n : Nat) (c : Code) (X : Nat → K) (k : K) : K := aM CF1 rec 16 n c X (aO CF1 Tryz.f196) k
theorem dYd (rec : FuncId → List DV → Hp → aG) (n : Nat) : E21 rec n (cf Tryz.f196) x0 (aO CF1 Tryz.f196) = (fun (env : aZ) (h : Hp) => t21 rec n (env 0) (env 1) h) :=
 (by kernel_rfl)
theorem dNn (rec : FuncId → List DV → Hp → aG) (n : Nat) (args : List DV) (h : Hp) : aF CF1 rec n 196 args h = t21 rec n (args.getD 0 aR) (args.getD 1 aR) h :=
 (by kernel_rfl : aF CF1 rec n 196 args h = E21 rec n (cf Tryz.f196) x0 (aO CF1 Tryz.f196) (aH args) h).trans ((congrFun (congrFun (dYd rec n) (aH args)) h).trans (by kernel_rfl))
noncomputable def t22 (rec : FuncId → List DV → Hp → aG) (n : Nat) (x0 : DV) (h0 : Hp) : aG :=
 bnd (aY x0 h0) fun v1 h1 =>
 bnd (aB 0 v1 h1) fun v2 h2 =>
 bnd (aA v2 h2) fun v3 h3 =>
 bnd (bV v3 h3) fun v4 h4 =>
 some (v4, h4)
noncomputable def E22 (rec : FuncId → List DV → Hp → aG) (n : Nat) (c : Code) (X : Nat → K) (k : K) : K := aM CF1 rec 8 n c X (aO CF1 Tryz.f108) k
theorem dYb (rec : FuncId → List DV → Hp → aG) (n : Nat) : E22 rec n (cf Tryz.f108) x0 (aO CF1 Tryz.f108) = (fun (env : aZ) (h : Hp) => t22 rec n (env 0) h) :=
 (by kernel_rfl)
theorem dOb (rec : FuncId → List DV → Hp → aG) (n : Nat) (args : List DV) (h : Hp) : aF CF1 rec n 108 args h = t22 rec n (args.getD 0 aR) h :=
 (by kernel_rfl : aF CF1 rec n 108 args h = E22 rec n (cf Tryz.f108) x0 (aO CF1 Tryz.f108) (aH args) h).trans ((congrFun (congrFun (dYb rec n) (aH args)) h).trans (by kernel_rfl))
noncomputable def t29 (rec : FuncId → List DV → Hp → aG) (n : Nat) (x0 : DV) (h0 : Hp) : aG :=
 bnd (aY x0 h0) fun v1 h1 =>
 bnd (aB 0 v1 h1) fun v2 h2 =>
 bnd (aA v2 h2) fun v3 h3 =>
 bnd (bV v3 h3) fun v4 h4 =>
 bnd (aY x0 h4) fun v5 h5 =>
 bnd (aB 1 v5 h5) fun v6 h6 =>
 bnd (aA v6 h6) fun v7 h7 =>
 bnd (aD .sub v4 v7 h7) fun v8 h8 =>
 some (v8, h8)
noncomputable def E29 (rec : FuncId → List DV → Hp → aG) (n : Nat) (c : Code) (X : Nat → K) (k : K) : K := aM CF1 rec 13 n c X (aO CF1 Tryz.f126) k
theorem dYi (rec : FuncId → List DV → Hp → aG) (n : Nat) : E29 rec n (cf Tryz.f126) x0 (aO CF1 Tryz.f126) = (fun (env : aZ) (h : Hp) => t29 rec n (env 0) h) :=
 (by kernel_rfl)
theorem dPy (rec : FuncId → List DV → Hp → aG) (n : Nat) (args : List DV) (h : Hp) : aF CF1 rec n 126 args h = t29 rec n (args.getD 0 aR) h :=
 (by kernel_rfl : aF CF1 rec n 126 args h = E29 rec n (cf Tryz.f126) x0 (aO CF1 Tryz.f126) (aH args) h).trans ((congrFun (congrFun (dYi rec n) (aH args)) h).trans (by kernel_rfl))
noncomputable def t30 (rec : FuncId → List DV → Hp → aG) (n : Nat) (x0 x1 x2 x3 : DV) (h0 : Hp) : aG :=
 bnd (rec 125 [x0, x1] h0) fun v1 h1 =>
 bnd (hZ .not v1 h1) fun v2 h2 =>
 bnd (gD v2 false (some (x2, h2)) h2) fun v3 h3 =>
 bnd (gD v2 false (aD .lss v3 (.i .i64 (Int.ofNat 0)) h3) h3) fun v4 h4 =>
 bnd (aN v2 (.b true) v4 h4) fun v5 h5 =>
 bnd (gD v5 false (some (x2, h5)) h5) fun v6 h6 =>
 bnd (gD v5 false (aD .gtr v6 (.i .i64 (Int.ofNat 2)) h6) h6) fun v7 h7 =>
 bnd (aN v5 (.b true) v7 h7) fun v8 h8 =>
 bnd (gD v8 false (some (x3, h8)) h8) fun v9 h9 =>
 bnd (gD v8 false (aD .lss v9 (.i .i64 (Int.ofNat 0)) h9) h9) fun v10 h10 =>
 bnd (aN v8 (.b true) v10 h10) fun v11 h11 =>
 bnd (gD v11 false (some (x3, h11)) h11) fun v12 h12 =>
 bnd (gD v11 false (aD .gtr v12 (.i .i64 (Int.ofNat 256)) h12) h12) fun v13 h13 =>
 bnd (aN v11 (.b true) v13 h13) fun v14 h14 =>
 aT v14 (
  some (.t [(.i .i64 (Int.ofNat 0)), (.i .i64 (Int.ofNat 1))], h14)) (
  bnd (rec 126 [x0] h14) fun v15 h15 =>
  bnd (aD .add x3 (.i .i64 (Int.ofNat 3)) h15) fun v16 h16 =>
  bnd (aD .lss v15 v16 h16) fun v17 h17 =>
  bnd (gD v17 false (some (x0, h17)) h17) fun v18 h18 =>
  bnd (gD v17 false (aY v18 h18) h18) fun v19 h19 =>
  bnd (gD v17 false (aB 2 v19 h19) h19) fun v20 h20 =>
  bnd (gD v17 false (aA v20 h20) h20) fun v21 h21 =>
  bnd (gD v17 false (aD .geq v21 (.i .i64 (Int.ofNat 1099511627776)) h21) h21) fun v22 h22 =>
  bnd (aN v17 (.b true) v22 h22) fun v23 h23 =>
  aT v23 (
   some (.t [(.i .i64 (Int.ofNat 0)), (.i .i64 (Int.ofNat 4))], h23)) (
   bnd (aY x0 h23) fun v24 h24 =>
   bnd (aB 1 v24 h24) fun v25 h25 =>
   bnd (aA v25 h25) fun v26 h26 =>
   bnd (aY x0 h26) fun v27 h27 =>
   bnd (aB 2 v27 h27) fun v28 h28 =>
   bnd (aA v28 h28) fun v29 h29 =>
   bnd (aD .add v29 (.i .i64 (Int.ofNat 1)) h29) fun v30 h30 =>
   bnd (aY x0 h30) fun v31 h31 =>
   bnd (aB 2 v31 h31) fun v32 h32 =>
   bnd (aI 1 v32 v30 h32) fun _ h33 =>
   bnd (aY x0 h33) fun v34 h34 =>
   bnd (aB 0 v34 h34) fun v35 h35 =>
   bnd (aA v35 h35) fun v36 h36 =>
   bnd (aY x0 h36) fun v37 h37 =>
   bnd (aB 0 v37 h37) fun v38 h38 =>
   bnd (aA v38 h38) fun v39 h39 =>
   bnd (aD .add v26 (.i .i64 (Int.ofNat 1)) h39) fun v40 h40 =>
   bnd (aY x0 h40) fun v41 h41 =>
   bnd (aB 0 v41 h41) fun v42 h42 =>
   bnd (aA v42 h42) fun v43 h43 =>
   bnd (aD .add v26 (.i .i64 (Int.ofNat 2)) h43) fun v44 h44 =>
   bnd (dN .shl x3 (.i .u64 (Int.ofNat 2)) h44) fun v45 h45 =>
   bnd (aD .or v45 x2 h45) fun v46 h46 =>
   bnd (aY x0 h46) fun v47 h47 =>
   bnd (aB 2 v47 h47) fun v48 h48 =>
   bnd (aA v48 h48) fun v49 h49 =>
   bnd (aE 1 v36 v26 h49) fun v50 h50 =>
   bnd (aI 1 v50 v46 h50) fun v51 h51 =>
   bnd (aE 1 v39 v40 h51) fun v52 h52 =>
   bnd (aI 1 v52 x1 h52) fun v53 h53 =>
   bnd (aE 1 v43 v44 h53) fun v54 h54 =>
   bnd (aI 1 v54 v49 h54) fun v55 h55 =>
   bnd (aY x0 h55) fun v56 h56 =>
   bnd (aB 0 v56 h56) fun v57 h57 =>
   bnd (aA v57 h57) fun v58 h58 =>
   bnd (aD .add v26 (.i .i64 (Int.ofNat 3)) h58) fun v59 h59 =>
   bnd (aD .add v26 (.i .i64 (Int.ofNat 3)) h59) fun v60 h60 =>
   bnd (aD .add v60 x3 h60) fun v61 h61 =>
   bnd (cS 1 v58 (some v59) (some v61) h61) fun v62 h62 =>
   bnd (jP [(.i .i64 (Int.ofNat 0))] v62 h62) fun _ h63 =>
   bnd (aY x0 h63) fun v64 h64 =>
   bnd (aB 1 v64 h64) fun v65 h65 =>
   bnd (aA v65 h65) fun v66 h66 =>
   bnd (aD .add x3 (.i .i64 (Int.ofNat 3)) h66) fun v67 h67 =>
   bnd (aD .add v66 v67 h67) fun v68 h68 =>
   bnd (aY x0 h68) fun v69 h69 =>
   bnd (aB 1 v69 h69) fun v70 h70 =>
   bnd (aI 1 v70 v68 h70) fun _ h71 =>
   bnd (aY x0 h71) fun v72 h72 =>
   bnd (aB 3 v72 h72) fun v73 h73 =>
   bnd (aA v73 h73) fun v74 h74 =>
   bnd (dP (.int .i64) v74 v26 (.b true) h74) fun _ h75 =>
   bnd (rec 127 [v26] h75) fun v76 h76 =>
   bnd (aC 0 v76 h76) fun v77 h77 =>
   bnd (aC 1 v76 h77) fun v78 h78 =>
   some (.t [v77, (.i .i64 (Int.ofNat 0))], h78)))
noncomputable def E30 (rec : FuncId → List DV → Hp → aG) (n : Nat) (c : Code) (X : Nat → K) (k : K) : K := aM CF1 rec 118 n c X (aO CF1 Tryz.f77) k
theorem dXv (rec : FuncId → List DV → Hp → aG) (n : Nat) : E30 rec n (cf Tryz.f77) x0 (aO CF1 Tryz.f77) = (fun (env : aZ) (h : Hp) => t30 rec n (env 0) (env 1) (env 2) (env 3) h) :=
 (by kernel_rfl)
theorem dTu (rec : FuncId → List DV → Hp → aG) (n : Nat) (args : List DV) (h : Hp) : aF CF1 rec n 77 args h = t30 rec n (args.getD 0 aR) (args.getD 1 aR) (args.getD 2 aR) (args.getD 3 aR) h :=
 (by kernel_rfl : aF CF1 rec n 77 args h = E30 rec n (cf Tryz.f77) x0 (aO CF1 Tryz.f77) (aH args) h).trans ((congrFun (congrFun (dXv rec n) (aH args)) h).trans (by kernel_rfl))
noncomputable def t41 (rec : FuncId → List DV → Hp → aG) (n : Nat) (x0 : DV) (h0 : Hp) : aG :=
 bnd (aD .lss x0 (.i .i64 (Int.ofNat 16)) h0) fun v1 h1 =>
 bnd (gD v1 false (some (x0, h1)) h1) fun v2 h2 =>
 bnd (gD v1 false (aD .gtr v2 (.i .i64 (Int.ofNat 131072)) h2) h2) fun v3 h3 =>
 bnd (aN v1 (.b true) v3 h3) fun v4 h4 =>
 aT v4 (
  some (.p0, h4)) (
  bnd (bN 1 8 [(.i .i64 (Int.ofNat 0))] x0 x0 h4) fun v5 h5 =>
  bnd (dS h5) fun v6 h6 =>
  bnd (bL [.l0, (.i .i64 (Int.ofNat 0)), (.i .i64 (Int.ofNat 0)), .m0] [(0, 1, v5), (1, 1, (.i .i64 (Int.ofNat 3))), (3, 1, v6)] h6) fun v7 h7 =>
  bnd (cH v7 h7) fun v8 h8 =>
  some (v8, h8))
noncomputable def E41 (rec : FuncId → List DV → Hp → aG) (n : Nat) (c : Code) (X : Nat → K) (k : K) : K := aM CF1 rec 14 n c X (aO CF1 Tryz.f76) k
theorem eAl (rec : FuncId → List DV → Hp → aG) (n : Nat) : E41 rec n (cf Tryz.f76) x0 (aO CF1 Tryz.f76) = (fun (env : aZ) (h : Hp) => t41 rec n (env 0) h) :=
 (by kernel_rfl)
theorem cVs (rec : FuncId → List DV → Hp → aG) (n : Nat) (args : List DV) (h : Hp) : aF CF1 rec n 76 args h = t41 rec n (args.getD 0 aR) h :=
 (by kernel_rfl : aF CF1 rec n 76 args h = E41 rec n (cf Tryz.f76) x0 (aO CF1 Tryz.f76) (aH args) h).trans ((congrFun (congrFun (eAl rec n) (aH args)) h).trans (by kernel_rfl))
noncomputable def t44 (rec : FuncId → List DV → Hp → aG) (n : Nat) (x0 x1 x2 : DV) (h0 : Hp) : aG :=
 bnd (rec 128 [x0, x1] h0) fun v1 h1 =>
 bnd (aD .eql v1 (.i .i64 (Int.ofNat 0)) h1) fun v2 h2 =>
 bnd (gD v2 false (some (x0, h2)) h2) fun v3 h3 =>
 bnd (gD v2 false (some (x2, h3)) h3) fun v4 h4 =>
 bnd (gD v2 false (rec 125 [v3, v4] h4) h4) fun v5 h5 =>
 bnd (gD v2 false (hZ .not v5 h5) h5) fun v6 h6 =>
 bnd (aN v2 (.b true) v6 h6) fun v7 h7 =>
 aT v7 (
  some ((.i .i64 (Int.ofNat 1)), h7)) (
  bnd (aY x0 h7) fun v8 h8 =>
  bnd (aB 0 v8 h8) fun v9 h9 =>
  bnd (aA v9 h9) fun v10 h10 =>
  bnd (aD .add v1 (.i .i64 (Int.ofNat 1)) h10) fun v11 h11 =>
  bnd (aE 1 v10 v11 h11) fun v12 h12 =>
  bnd (aI 1 v12 x2 h12) fun _ h13 =>
  some ((.i .i64 (Int.ofNat 0)), h13))
noncomputable def E44 (rec : FuncId → List DV → Hp → aG) (n : Nat) (c : Code) (X : Nat → K) (k : K) : K := aM CF1 rec 27 n c X (aO CF1 Tryz.f80) k
theorem dYc (rec : FuncId → List DV → Hp → aG) (n : Nat) : E44 rec n (cf Tryz.f80) x0 (aO CF1 Tryz.f80) = (fun (env : aZ) (h : Hp) => t44 rec n (env 0) (env 1) (env 2) h) :=
 (by kernel_rfl)
theorem dRe (rec : FuncId → List DV → Hp → aG) (n : Nat) (args : List DV) (h : Hp) : aF CF1 rec n 80 args h = t44 rec n (args.getD 0 aR) (args.getD 1 aR) (args.getD 2 aR) h :=
 (by kernel_rfl : aF CF1 rec n 80 args h = E44 rec n (cf Tryz.f80) x0 (aO CF1 Tryz.f80) (aH args) h).trans ((congrFun (congrFun (dYc rec n) (aH args)) h).trans (by kernel_rfl))
noncomputable def sU (rec : FuncId → List DV → Hp → aG) (n : Nat) (x0 x3 x9 : DV) (h0 : Hp) : aG :=
 bnd (aY x0 h0) fun v1 h1 =>
 bnd (aB 0 v1 h1) fun v2 h2 =>
 bnd (aA v2 h2) fun v3 h3 =>
 bnd (aE 1 v3 x9 h3) fun v4 h4 =>
 bnd (aI 1 v4 x3 h4) fun _ h5 =>
 some ((.i .i64 (Int.ofNat 0)), h5)
noncomputable def aZl (rec : FuncId → List DV → Hp → aG) (n : Nat) (x0 x1 x3 x9 : DV) (h0 : Hp) : aG :=
 bnd (rec 136 [x0, x1] h0) fun v11 h11 =>
 bnd (aD .eql v11 (.i .i64 (Int.ofNat 0)) h11) fun v12 h12 =>
 aT v12 (
  bnd (rec 132 [x0, x3] h12) fun v13 h13 =>
  bnd (hZ .not v13 h13) fun v14 h14 =>
  aT v14 (
   some ((.i .i64 (Int.ofNat 6)), h14)) (
   sU rec n x0 x3 x9 h14)) (
  bnd (aD .eql v11 (.i .i64 (Int.ofNat 2)) h12) fun v15 h15 =>
  aT v15 (
   bnd (aD .lss x3 (.i .i64 (Int.ofNat 0)) h15) fun v16 h16 =>
   bnd (gD v16 false (some (x3, h16)) h16) fun v17 h17 =>
   bnd (gD v16 false (aD .gtr v17 (.i .i64 (Int.ofNat 255)) h17) h17) fun v18 h18 =>
   bnd (aN v16 (.b true) v18 h18) fun v19 h19 =>
   aT v19 (
    some ((.i .i64 (Int.ofNat 6)), h19)) (
    sU rec n x0 x3 x9 h19)) (
   sU rec n x0 x3 x9 h15))
noncomputable def aMw (rec : FuncId → List DV → Hp → aG) (n : Nat) (x0 x1 x3 x9 x10 : DV) (h0 : Hp) : aG :=
 bnd (aD .neq x10 (.i .i64 (Int.ofNat 0)) h0) fun v29 h29 =>
 aT v29 (
  some (x10, h29)) (
  aZl rec n x0 x1 x3 x9 h29)
noncomputable def aYk (rec : FuncId → List DV → Hp → aG) (n : Nat) (x0 x1 x2 x3 : DV) (h0 : Hp) : aG :=
 bnd (rec 135 [x0, x1, x2] h0) fun v31 h31 =>
 bnd (aC 0 v31 h31) fun v32 h32 =>
 bnd (aC 1 v31 h32) fun v33 h33 =>
 aMw rec n x0 x1 x3 v32 v33 h33
noncomputable def t47 (rec : FuncId → List DV → Hp → aG) (n : Nat) (x0 x1 x2 x3 : DV) (h0 : Hp) : aG :=
 aYk rec n x0 x1 x2 x3 h0
noncomputable def E47 (rec : FuncId → List DV → Hp → aG) (n : Nat) (c : Code) (X : Nat → K) (k : K) : K := aM CF1 rec 45 n c X (aO CF1 Tryz.f84) k
theorem dHj (rec : FuncId → List DV → Hp → aG) (n : Nat) : E47 rec n (cR (cR (cR (cR (cf Tryz.f84))))) x0 (aO CF1 Tryz.f84) = (fun (env : aZ) (h : Hp) => sU rec n (env 0) (env 3) (env 9) h) :=
 (by kernel_rfl)
theorem cSc (rec : FuncId → List DV → Hp → aG) (n : Nat) : E47 rec n (cR (cR (cR (cf Tryz.f84)))) x0 (aO CF1 Tryz.f84) = E47 rec n (cL (cR (cR (cR (cf Tryz.f84))))) x0 (fun (env : aZ) (h : Hp) => sU rec n (env 0) (env 3) (env 9) h) :=
 congrArg (fun k => E47 rec n (cL (cR (cR (cR (cf Tryz.f84))))) x0 k) (dHj rec n)
theorem dLa (rec : FuncId → List DV → Hp → aG) (n : Nat) : E47 rec n (cR (cR (cR (cf Tryz.f84)))) x0 (aO CF1 Tryz.f84) = (fun (env : aZ) (h : Hp) => aZl rec n (env 0) (env 1) (env 3) (env 9) h) :=
 (cSc rec n).trans
 ((by kernel_rfl))
theorem cFs (rec : FuncId → List DV → Hp → aG) (n : Nat) : E47 rec n (cR (cR (cf Tryz.f84))) x0 (aO CF1 Tryz.f84) = E47 rec n (cL (cR (cR (cf Tryz.f84)))) x0 (fun (env : aZ) (h : Hp) => aZl rec n (env 0) (env 1) (env 3) (env 9) h) :=
 congrArg (fun k => E47 rec n (cL (cR (cR (cf Tryz.f84)))) x0 k) (dLa rec n)
theorem dFz (rec : FuncId → List DV → Hp → aG) (n : Nat) : E47 rec n (cR (cR (cf Tryz.f84))) x0 (aO CF1 Tryz.f84) = (fun (env : aZ) (h : Hp) => aMw rec n (env 0) (env 1) (env 3) (env 9) (env 10) h) :=
 (cFs rec n).trans
 ((by kernel_rfl))
theorem cMo (rec : FuncId → List DV → Hp → aG) (n : Nat) : E47 rec n (cR (cf Tryz.f84)) x0 (aO CF1 Tryz.f84) = E47 rec n (cL (cR (cf Tryz.f84))) x0 (fun (env : aZ) (h : Hp) => aMw rec n (env 0) (env 1) (env 3) (env 9) (env 10) h) :=
 congrArg (fun k => E47 rec n (cL (cR (cf Tryz.f84))) x0 k) (dFz rec n)
theorem dIn (rec : FuncId → List DV → Hp → aG) (n : Nat) : E47 rec n (cR (cf Tryz.f84)) x0 (aO CF1 Tryz.f84) = (fun (env : aZ) (h : Hp) => aYk rec n (env 0) (env 1) (env 2) (env 3) h) :=
 (cMo rec n).trans
 ((by kernel_rfl))
theorem dMy (rec : FuncId → List DV → Hp → aG) (n : Nat) : E47 rec n (cf Tryz.f84) x0 (aO CF1 Tryz.f84) = E47 rec n (cL (cf Tryz.f84)) x0 (fun (env : aZ) (h : Hp) => aYk rec n (env 0) (env 1) (env 2) (env 3) h) :=
 congrArg (fun k => E47 rec n (cL (cf Tryz.f84)) x0 k) (dIn rec n)
theorem eAg (rec : FuncId → List DV → Hp → aG) (n : Nat) : E47 rec n (cf Tryz.f84) x0 (aO CF1 Tryz.f84) = (fun (env : aZ) (h : Hp) => t47 rec n (env 0) (env 1) (env 2) (env 3) h) :=
 (dMy rec n).trans
 ((by kernel_rfl))
theorem dSj (rec : FuncId → List DV → Hp → aG) (n : Nat) (args : List DV) (h : Hp) : aF CF1 rec n 84 args h = t47 rec n (args.getD 0 aR) (args.getD 1 aR) (args.getD 2 aR) (args.getD 3 aR) h :=
 (by kernel_rfl : aF CF1 rec n 84 args h = E47 rec n (cf Tryz.f84) x0 (aO CF1 Tryz.f84) (aH args) h).trans ((congrFun (congrFun (eAg rec n) (aH args)) h).trans (by kernel_rfl))
noncomputable def t50 (rec : FuncId → List DV → Hp → aG) (n : Nat) (x0 x1 : DV) (h0 : Hp) : aG :=
 bnd (aY x0 h0) fun v1 h1 =>
 bnd (aB 0 v1 h1) fun v2 h2 =>
 bnd (aA v2 h2) fun v3 h3 =>
 bnd (rec 128 [x0, x1] h3) fun v4 h4 =>
 cnd (bB (aA v2 h4) v3 && true) (
 bnd (aD .add v4 (.i .i64 (Int.ofNat 1)) h4) fun v5 h5 =>
 bnd (aE 1 v3 v5 h5) fun v6 h6 =>
 bnd (aA v6 h6) fun v7 h7 =>
 some (v7, h7))
noncomputable def E50 (rec : FuncId → List DV → Hp → aG) (n : Nat) (c : Code) (X : Nat → K) (k : K) : K := aM CF1 rec 15 n c X (aO CF1 Tryz.f243) k
theorem dYw (rec : FuncId → List DV → Hp → aG) (n : Nat) : E50 rec n (cf Tryz.f243) x0 (aO CF1 Tryz.f243) = (fun (env : aZ) (h : Hp) => t50 rec n (env 0) (env 1) h) :=
 (by kernel_rfl)
theorem dRv (rec : FuncId → List DV → Hp → aG) (n : Nat) (args : List DV) (h : Hp) : aF CF1 rec n 243 args h = t50 rec n (args.getD 0 aR) (args.getD 1 aR) h :=
 (by kernel_rfl : aF CF1 rec n 243 args h = E50 rec n (cf Tryz.f243) x0 (aO CF1 Tryz.f243) (aH args) h).trans ((congrFun (congrFun (dYw rec n) (aH args)) h).trans (by kernel_rfl))
noncomputable def t51 (rec : FuncId → List DV → Hp → aG) (n : Nat) (x0 x1 : DV) (h0 : Hp) : aG :=
 bnd (aY x0 h0) fun v1 h1 =>
 bnd (aB 0 v1 h1) fun v2 h2 =>
 bnd (aA v2 h2) fun v3 h3 =>
 bnd (rec 128 [x0, x1] h3) fun v4 h4 =>
 cnd (bB (aA v2 h4) v3 && true) (
 bnd (aE 1 v3 v4 h4) fun v5 h5 =>
 bnd (aA v5 h5) fun v6 h6 =>
 bnd (aD .and v6 (.i .i64 (Int.ofNat 3)) h6) fun v7 h7 =>
 some (v7, h7))
noncomputable def E51 (rec : FuncId → List DV → Hp → aG) (n : Nat) (c : Code) (X : Nat → K) (k : K) : K := aM CF1 rec 15 n c X (aO CF1 Tryz.f136) k
theorem dXe (rec : FuncId → List DV → Hp → aG) (n : Nat) : E51 rec n (cf Tryz.f136) x0 (aO CF1 Tryz.f136) = (fun (env : aZ) (h : Hp) => t51 rec n (env 0) (env 1) h) :=
 (by kernel_rfl)
theorem dUi (rec : FuncId → List DV → Hp → aG) (n : Nat) (args : List DV) (h : Hp) : aF CF1 rec n 136 args h = t51 rec n (args.getD 0 aR) (args.getD 1 aR) h :=
 (by kernel_rfl : aF CF1 rec n 136 args h = E51 rec n (cf Tryz.f136) x0 (aO CF1 Tryz.f136) (aH args) h).trans ((congrFun (congrFun (dXe rec n) (aH args)) h).trans (by kernel_rfl))
noncomputable def t52 (rec : FuncId → List DV → Hp → aG) (n : Nat) (x0 x1 : DV) (h0 : Hp) : aG :=
 bnd (aY x0 h0) fun v1 h1 =>
 bnd (aB 0 v1 h1) fun v2 h2 =>
 bnd (aA v2 h2) fun v3 h3 =>
 bnd (rec 128 [x0, x1] h3) fun v4 h4 =>
 cnd (bB (aA v2 h4) v3 && true) (
 bnd (aE 1 v3 v4 h4) fun v5 h5 =>
 bnd (aA v5 h5) fun v6 h6 =>
 bnd (dN .shr v6 (.i .u64 (Int.ofNat 2)) h6) fun v7 h7 =>
 some (v7, h7))
noncomputable def E52 (rec : FuncId → List DV → Hp → aG) (n : Nat) (c : Code) (X : Nat → K) (k : K) : K := aM CF1 rec 15 n c X (aO CF1 Tryz.f201) k
theorem eAe (rec : FuncId → List DV → Hp → aG) (n : Nat) : E52 rec n (cf Tryz.f201) x0 (aO CF1 Tryz.f201) = (fun (env : aZ) (h : Hp) => t52 rec n (env 0) (env 1) h) :=
 (by kernel_rfl)
theorem dPw (rec : FuncId → List DV → Hp → aG) (n : Nat) (args : List DV) (h : Hp) : aF CF1 rec n 201 args h = t52 rec n (args.getD 0 aR) (args.getD 1 aR) h :=
 (by kernel_rfl : aF CF1 rec n 201 args h = E52 rec n (cf Tryz.f201) x0 (aO CF1 Tryz.f201) (aH args) h).trans ((congrFun (congrFun (eAe rec n) (aH args)) h).trans (by kernel_rfl))
noncomputable def t54 (rec : FuncId → List DV → Hp → aG) (n : Nat) (x0 : DV) (h0 : Hp) : aG :=
 bnd (aD .and x0 (.i .i64 (Int.ofNat 1)) h0) fun v1 h1 =>
 bnd (aD .eql v1 (.i .i64 (Int.ofNat 1)) h1) fun v2 h2 =>
 bnd (gD v2 true (some (x0, h2)) h2) fun v3 h3 =>
 bnd (gD v2 true (dN .shr v3 (.i .u64 (Int.ofNat 1)) h3) h3) fun v4 h4 =>
 bnd (gD v2 true (rec 197 [v4, (.i .i64 (Int.negSucc 1073741823)), (.i .i64 (Int.ofNat 1073741823))] h4) h4) fun v5 h5 =>
 bnd (aN v2 v5 (.b false) h5) fun v6 h6 =>
 some (v6, h6)
noncomputable def E54 (rec : FuncId → List DV → Hp → aG) (n : Nat) (c : Code) (X : Nat → K) (k : K) : K := aM CF1 rec 11 n c X (aO CF1 Tryz.f200) k
theorem dZm (rec : FuncId → List DV → Hp → aG) (n : Nat) : E54 rec n (cf Tryz.f200) x0 (aO CF1 Tryz.f200) = (fun (env : aZ) (h : Hp) => t54 rec n (env 0) h) :=
 (by kernel_rfl)
theorem dTv (rec : FuncId → List DV → Hp → aG) (n : Nat) (args : List DV) (h : Hp) : aF CF1 rec n 200 args h = t54 rec n (args.getD 0 aR) h :=
 (by kernel_rfl : aF CF1 rec n 200 args h = E54 rec n (cf Tryz.f200) x0 (aO CF1 Tryz.f200) (aH args) h).trans ((congrFun (congrFun (dZm rec n) (aH args)) h).trans (by kernel_rfl))
noncomputable def t60 (rec : FuncId → List DV → Hp → aG) (n : Nat) (x0 : DV) (h0 : Hp) : aG :=
 bnd (rec 197 [x0, (.i .i64 (Int.negSucc 1073741823)), (.i .i64 (Int.ofNat 1073741823))] h0) fun v1 h1 =>
 bnd (hZ .not v1 h1) fun v2 h2 =>
 aT v2 (
  some (.t [(.i .i64 (Int.ofNat 0)), (.b false)], h2)) (
  bnd (dN .shl x0 (.i .u64 (Int.ofNat 1)) h2) fun v3 h3 =>
  bnd (aD .or v3 (.i .i64 (Int.ofNat 1)) h3) fun v4 h4 =>
  some (.t [v4, (.b true)], h4))
noncomputable def E60 (rec : FuncId → List DV → Hp → aG) (n : Nat) (c : Code) (X : Nat → K) (k : K) : K := aM CF1 rec 10 n c X (aO CF1 Tryz.f134) k
theorem dXy (rec : FuncId → List DV → Hp → aG) (n : Nat) : E60 rec n (cf Tryz.f134) x0 (aO CF1 Tryz.f134) = (fun (env : aZ) (h : Hp) => t60 rec n (env 0) h) :=
 (by kernel_rfl)
theorem dSl (rec : FuncId → List DV → Hp → aG) (n : Nat) (args : List DV) (h : Hp) : aF CF1 rec n 134 args h = t60 rec n (args.getD 0 aR) h :=
 (by kernel_rfl : aF CF1 rec n 134 args h = E60 rec n (cf Tryz.f134) x0 (aO CF1 Tryz.f134) (aH args) h).trans ((congrFun (congrFun (dXy rec n) (aH args)) h).trans (by kernel_rfl))
noncomputable def t62 (rec : FuncId → List DV → Hp → aG) (n : Nat) (x0 : DV) (h0 : Hp) : aG :=
 bnd (rec 200 [x0] h0) fun v1 h1 =>
 bnd (hZ .not v1 h1) fun v2 h2 =>
 aT v2 (
  some ((.i .i64 (Int.ofNat 0)), h2)) (
  bnd (dN .shr x0 (.i .u64 (Int.ofNat 1)) h2) fun v3 h3 =>
  some (v3, h3))
noncomputable def E62 (rec : FuncId → List DV → Hp → aG) (n : Nat) (c : Code) (X : Nat → K) (k : K) : K := aM CF1 rec 8 n c X (aO CF1 Tryz.f216) k
theorem eBz (rec : FuncId → List DV → Hp → aG) (n : Nat) : E62 rec n (cf Tryz.f216) x0 (aO CF1 Tryz.f216) = (fun (env : aZ) (h : Hp) => t62 rec n (env 0) h) :=
 (by kernel_rfl)
theorem dOa (rec : FuncId → List DV → Hp → aG) (n : Nat) (args : List DV) (h : Hp) : aF CF1 rec n 216 args h = t62 rec n (args.getD 0 aR) h :=
 (by kernel_rfl : aF CF1 rec n 216 args h = E62 rec n (cf Tryz.f216) x0 (aO CF1 Tryz.f216) (aH args) h).trans ((congrFun (congrFun (eBz rec n) (aH args)) h).trans (by kernel_rfl))
noncomputable def t63 (rec : FuncId → List DV → Hp → aG) (n : Nat) (x0 : DV) (h0 : Hp) : aG :=
 bnd (aD .and x0 (.i .i64 (Int.ofNat 1)) h0) fun v1 h1 =>
 bnd (aD .eql v1 (.i .i64 (Int.ofNat 0)) h1) fun v2 h2 =>
 bnd (gD v2 true (some (x0, h2)) h2) fun v3 h3 =>
 bnd (gD v2 true (dN .shr v3 (.i .u64 (Int.ofNat 1)) h3) h3) fun v4 h4 =>
 bnd (gD v2 true (rec 197 [v4, (.i .i64 (Int.ofNat 3)), (.i .i64 (Int.ofNat 131072))] h4) h4) fun v5 h5 =>
 bnd (aN v2 v5 (.b false) h5) fun v6 h6 =>
 some (v6, h6)
noncomputable def E63 (rec : FuncId → List DV → Hp → aG) (n : Nat) (c : Code) (X : Nat → K) (k : K) : K := aM CF1 rec 11 n c X (aO CF1 Tryz.f247) k
theorem dZd (rec : FuncId → List DV → Hp → aG) (n : Nat) : E63 rec n (cf Tryz.f247) x0 (aO CF1 Tryz.f247) = (fun (env : aZ) (h : Hp) => t63 rec n (env 0) h) :=
 (by kernel_rfl)
theorem dQp (rec : FuncId → List DV → Hp → aG) (n : Nat) (args : List DV) (h : Hp) : aF CF1 rec n 247 args h = t63 rec n (args.getD 0 aR) h :=
 (by kernel_rfl : aF CF1 rec n 247 args h = E63 rec n (cf Tryz.f247) x0 (aO CF1 Tryz.f247) (aH args) h).trans ((congrFun (congrFun (dZd rec n) (aH args)) h).trans (by kernel_rfl))
noncomputable def t64 (rec : FuncId → List DV → Hp → aG) (n : Nat) (x0 : DV) (h0 : Hp) : aG :=
 bnd (rec 247 [x0] h0) fun v1 h1 =>
 bnd (hZ .not v1 h1) fun v2 h2 =>
 aT v2 (
  some ((.i .i64 (Int.ofNat 0)), h2)) (
  bnd (dN .shr x0 (.i .u64 (Int.ofNat 1)) h2) fun v3 h3 =>
  some (v3, h3))
noncomputable def E64 (rec : FuncId → List DV → Hp → aG) (n : Nat) (c : Code) (X : Nat → K) (k : K) : K := aM CF1 rec 8 n c X (aO CF1 Tryz.f198) k
theorem eBe (rec : FuncId → List DV → Hp → aG) (n : Nat) : E64 rec n (cf Tryz.f198) x0 (aO CF1 Tryz.f198) = (fun (env : aZ) (h : Hp) => t64 rec n (env 0) h) :=
 (by kernel_rfl)
theorem dPs (rec : FuncId → List DV → Hp → aG) (n : Nat) (args : List DV) (h : Hp) : aF CF1 rec n 198 args h = t64 rec n (args.getD 0 aR) h :=
 (by kernel_rfl : aF CF1 rec n 198 args h = E64 rec n (cf Tryz.f198) x0 (aO CF1 Tryz.f198) (aH args) h).trans ((congrFun (congrFun (eBe rec n) (aH args)) h).trans (by kernel_rfl))
noncomputable def t73 (rec : FuncId → List DV → Hp → aG) (n : Nat) (x0 x1 x2 : DV) (h0 : Hp) : aG :=
 bnd (rec 135 [x0, x1, x2] h0) fun v1 h1 =>
 bnd (aC 0 v1 h1) fun v2 h2 =>
 bnd (aC 1 v1 h2) fun v3 h3 =>
 bnd (aD .neq v3 (.i .i64 (Int.ofNat 0)) h3) fun v4 h4 =>
 aT v4 (
  some (.t [(.i .i64 (Int.ofNat 0)), v3], h4)) (
  bnd (aY x0 h4) fun v5 h5 =>
  bnd (aB 0 v5 h5) fun v6 h6 =>
  bnd (aA v6 h6) fun v7 h7 =>
  bnd (aE 1 v7 v2 h7) fun v8 h8 =>
  bnd (aA v8 h8) fun v9 h9 =>
  some (.t [v9, (.i .i64 (Int.ofNat 0))], h9))
noncomputable def E73 (rec : FuncId → List DV → Hp → aG) (n : Nat) (c : Code) (X : Nat → K) (k : K) : K := aM CF1 rec 27 n c X (aO CF1 Tryz.f245) k
theorem dXl (rec : FuncId → List DV → Hp → aG) (n : Nat) : E73 rec n (cf Tryz.f245) x0 (aO CF1 Tryz.f245) = (fun (env : aZ) (h : Hp) => t73 rec n (env 0) (env 1) (env 2) h) :=
 (by kernel_rfl)
theorem cUz (rec : FuncId → List DV → Hp → aG) (n : Nat) (args : List DV) (h : Hp) : aF CF1 rec n 245 args h = t73 rec n (args.getD 0 aR) (args.getD 1 aR) (args.getD 2 aR) h :=
 (by kernel_rfl : aF CF1 rec n 245 args h = E73 rec n (cf Tryz.f245) x0 (aO CF1 Tryz.f245) (aH args) h).trans ((congrFun (congrFun (dXl rec n) (aH args)) h).trans (by kernel_rfl))
noncomputable def t74 (rec : FuncId → List DV → Hp → aG) (n : Nat) (x0 x1 : DV) (h0 : Hp) : aG :=
 bnd (aD .eql x1 (.i .i64 (Int.ofNat 0)) h0) fun v1 h1 =>
 bnd (gD v1 false (some (x0, h1)) h1) fun v2 h2 =>
 bnd (gD v1 false (some (x1, h2)) h2) fun v3 h3 =>
 bnd (gD v1 false (rec 196 [v2, v3] h3) h3) fun v4 h4 =>
 bnd (aN v1 (.b true) v4 h4) fun v5 h5 =>
 some (v5, h5)
noncomputable def E74 (rec : FuncId → List DV → Hp → aG) (n : Nat) (c : Code) (X : Nat → K) (k : K) : K := aM CF1 rec 12 n c X (aO CF1 Tryz.f125) k
theorem dYt (rec : FuncId → List DV → Hp → aG) (n : Nat) : E74 rec n (cf Tryz.f125) x0 (aO CF1 Tryz.f125) = (fun (env : aZ) (h : Hp) => t74 rec n (env 0) (env 1) h) :=
 (by kernel_rfl)
theorem dVi (rec : FuncId → List DV → Hp → aG) (n : Nat) (args : List DV) (h : Hp) : aF CF1 rec n 125 args h = t74 rec n (args.getD 0 aR) (args.getD 1 aR) h :=
 (by kernel_rfl : aF CF1 rec n 125 args h = E74 rec n (cf Tryz.f125) x0 (aO CF1 Tryz.f125) (aH args) h).trans ((congrFun (congrFun (dYt rec n) (aH args)) h).trans (by kernel_rfl))
noncomputable def t75 (rec : FuncId → List DV → Hp → aG) (n : Nat) (x0 : DV) (h0 : Hp) : aG :=
 bnd (rec 197 [x0, (.i .i64 (Int.ofNat 3)), (.i .i64 (Int.ofNat 131072))] h0) fun v1 h1 =>
 bnd (hZ .not v1 h1) fun v2 h2 =>
 aT v2 (
  some (.t [(.i .i64 (Int.ofNat 0)), (.b false)], h2)) (
  bnd (dN .shl x0 (.i .u64 (Int.ofNat 1)) h2) fun v3 h3 =>
  some (.t [v3, (.b true)], h3))
noncomputable def E75 (rec : FuncId → List DV → Hp → aG) (n : Nat) (c : Code) (X : Nat → K) (k : K) : K := aM CF1 rec 9 n c X (aO CF1 Tryz.f127) k
theorem eBr (rec : FuncId → List DV → Hp → aG) (n : Nat) : E75 rec n (cf Tryz.f127) x0 (aO CF1 Tryz.f127) = (fun (env : aZ) (h : Hp) => t75 rec n (env 0) h) :=
 (by kernel_rfl)
theorem dMo (rec : FuncId → List DV → Hp → aG) (n : Nat) (args : List DV) (h : Hp) : aF CF1 rec n 127 args h = t75 rec n (args.getD 0 aR) h :=
 (by kernel_rfl : aF CF1 rec n 127 args h = E75 rec n (cf Tryz.f127) x0 (aO CF1 Tryz.f127) (aH args) h).trans ((congrFun (congrFun (eBr rec n) (aH args)) h).trans (by kernel_rfl))
noncomputable def t105 (rec : FuncId → List DV → Hp → aG) (n : Nat) (x0 x1 : DV) (h0 : Hp) : aG :=
 bnd (rec 196 [x0, x1] h0) fun v1 h1 =>
 bnd (hZ .not v1 h1) fun v2 h2 =>
 aT v2 (
  some ((.i .i64 (Int.ofNat 0)), h2)) (
  bnd (rec 198 [x1] h2) fun v3 h3 =>
  some (v3, h3))
noncomputable def dRi (rec : FuncId → List DV → Hp → aG) (n : Nat) (c : Code) (X : Nat → K) (k : K) : K := aM CF1 rec 11 n c X (aO CF1 Tryz.f128) k
theorem dSq (rec : FuncId → List DV → Hp → aG) (n : Nat) : dRi rec n (cf Tryz.f128) x0 (aO CF1 Tryz.f128) = (fun (env : aZ) (h : Hp) => t105 rec n (env 0) (env 1) h) :=
 (by kernel_rfl)
theorem dIh (rec : FuncId → List DV → Hp → aG) (n : Nat) (args : List DV) (h : Hp) : aF CF1 rec n 128 args h = t105 rec n (args.getD 0 aR) (args.getD 1 aR) h :=
 (by kernel_rfl : aF CF1 rec n 128 args h = dRi rec n (cf Tryz.f128) x0 (aO CF1 Tryz.f128) (aH args) h).trans ((congrFun (congrFun (dSq rec n) (aH args)) h).trans (by kernel_rfl))
noncomputable def bIn (rec : FuncId → List DV → Hp → aG) (n : Nat) (x0 x1 x2 : DV) (h0 : Hp) : aG :=
 bnd (rec 128 [x0, x1] h0) fun v1 h1 =>
 bnd (aD .eql v1 (.i .i64 (Int.ofNat 0)) h1) fun v2 h2 =>
 aT v2 (
  some (.t [(.i .i64 (Int.ofNat 0)), (.i .i64 (Int.ofNat 1))], h2)) (
  bnd (aD .lss x2 (.i .i64 (Int.ofNat 0)) h2) fun v3 h3 =>
  bnd (gD v3 false (some (x2, h3)) h3) fun v4 h4 =>
  bnd (gD v3 false (some (x0, h4)) h4) fun v5 h5 =>
  bnd (gD v3 false (some (x1, h5)) h5) fun v6 h6 =>
  bnd (gD v3 false (rec 201 [v5, v6] h6) h6) fun v7 h7 =>
  bnd (gD v3 false (aD .geq v4 v7 h7) h7) fun v8 h8 =>
  bnd (aN v3 (.b true) v8 h8) fun v9 h9 =>
  aT v9 (
   some (.t [(.i .i64 (Int.ofNat 0)), (.i .i64 (Int.ofNat 5))], h9)) (
   bnd (aD .add v1 (.i .i64 (Int.ofNat 3)) h9) fun v10 h10 =>
   bnd (aD .add v10 x2 h10) fun v11 h11 =>
   some (.t [v11, (.i .i64 (Int.ofNat 0))], h11)))
noncomputable def dRx (rec : FuncId → List DV → Hp → aG) (n : Nat) (c : Code) (X : Nat → K) (k : K) : K := aM CF1 rec 29 n c X (aO CF1 Tryz.f135) k
theorem dQs (rec : FuncId → List DV → Hp → aG) (n : Nat) : dRx rec n (cf Tryz.f135) x0 (aO CF1 Tryz.f135) = (fun (env : aZ) (h : Hp) => bIn rec n (env 0) (env 1) (env 2) h) :=
 (by kernel_rfl)
theorem aLm (rec : FuncId → List DV → Hp → aG) (n : Nat) (args : List DV) (h : Hp) : aF CF1 rec n 135 args h = bIn rec n (args.getD 0 aR) (args.getD 1 aR) (args.getD 2 aR) h :=
 (by kernel_rfl : aF CF1 rec n 135 args h = dRx rec n (cf Tryz.f135) x0 (aO CF1 Tryz.f135) (aH args) h).trans ((congrFun (congrFun (dQs rec n) (aH args)) h).trans (by kernel_rfl))
noncomputable def dCl (rec : FuncId → List DV → Hp → aG) (n : Nat) (x0 x1 x2 : DV) (h0 : Hp) : aG :=
 bnd (aD .geq x0 x1 h0) fun v1 h1 =>
 bnd (gD v1 true (some (x0, h1)) h1) fun v2 h2 =>
 bnd (gD v1 true (some (x2, h2)) h2) fun v3 h3 =>
 bnd (gD v1 true (aD .leq v2 v3 h3) h3) fun v4 h4 =>
 bnd (aN v1 v4 (.b false) h4) fun v5 h5 =>
 some (v5, h5)
noncomputable def dVg (rec : FuncId → List DV → Hp → aG) (n : Nat) (c : Code) (X : Nat → K) (k : K) : K := aM CF1 rec 15 n c X (aO CF1 Tryz.f197) k
theorem dNb (rec : FuncId → List DV → Hp → aG) (n : Nat) : dVg rec n (cf Tryz.f197) x0 (aO CF1 Tryz.f197) = (fun (env : aZ) (h : Hp) => dCl rec n (env 0) (env 1) (env 2) h) :=
 (by kernel_rfl)
theorem dHs (rec : FuncId → List DV → Hp → aG) (n : Nat) (args : List DV) (h : Hp) : aF CF1 rec n 197 args h = dCl rec n (args.getD 0 aR) (args.getD 1 aR) (args.getD 2 aR) h :=
 (by kernel_rfl : aF CF1 rec n 197 args h = dVg rec n (cf Tryz.f197) x0 (aO CF1 Tryz.f197) (aH args) h).trans ((congrFun (congrFun (dNb rec n) (aH args)) h).trans (by kernel_rfl))
end Go.Dd

namespace Go.Dd
theorem lD {a b : Nat} : Nat.beq a b = decide (a = b) := by
 cases h : Nat.beq a b with
 | true => simp [Nat.eq_of_beq_eq_true h]
 | false =>
  have : a ≠ b := by intro e; subst e; simp at h
  simp [this]
theorem aUm {a b : Nat} : Nat.ble a b = decide (a ≤ b) := by
 cases h : Nat.ble a b with
 | true => simp [Nat.le_of_ble_eq_true h]
 | false =>
  have : ¬ a ≤ b := by intro e; rw [Nat.ble_eq_true_of_le e] at h; cases h
  simp [this]
theorem yJ {a b : Nat} : Nat.blt a b = decide (a < b) := by
 show Nat.ble (a + 1) b = _
 rw [aUm]
 simp [Nat.succ_le_iff]
theorem aNh (w : Int) : (jH w ≠ 0 ↔ (w % 2 = 0 ∧ 3 ≤ w / 2 ∧ w / 2 ≤ 131072)) ∧ (jH w ≠ 0 → (jH w : Int) = w / 2) ∧ jH w ≤ 131072 := by
 cases w with
 | ofNat w =>
  simp only [jH, lD, aUm]
  have e1 : Nat.mod w 2 = w % 2 := rfl
  have e2 : Nat.div w 2 = w / 2 := rfl
  rw [e1, e2]
  by_cases hc : w % 2 = 0 ∧ 6 ≤ w ∧ w ≤ 262144
  ·obtain ⟨h1, h2, h3⟩ := hc
   simp only [h1, h2, h3, decide_true, Bool.and_self, cond_true]
   simp only [Int.ofNat_eq_natCast]
   refine ⟨⟨fun _ => ⟨by omega, by omega, by omega⟩, fun _ => by omega⟩, fun _ => by omega, by omega⟩
  ·have : (decide (w % 2 = 0) && (decide (6 ≤ w) && decide (w ≤ 262144))) = false := by
    rw [← Bool.not_eq_true]
    simpa using hc
   rw [this]
   simp only [cond_false, Int.ofNat_eq_natCast]
   refine ⟨⟨fun h => absurd rfl h, fun h => by omega⟩, fun h => absurd rfl h, by omega⟩
 | negSucc w =>
  simp only [jH]
  refine ⟨⟨fun h => absurd rfl h, fun h => by omega⟩, fun h => absurd rfl h, by omega⟩
theorem aPw (w : Int) : iK w = decide (w % 2 = 1 ∧ -1073741824 ≤ w / 2 ∧ w / 2 ≤ 1073741823) := by
 rw [Bool.eq_iff_iff, decide_eq_true_iff]
 cases w with
 | ofNat w =>
  simp only [iK, lD, yJ, Bool.and_eq_true, decide_eq_true_eq]
  have e1 : Nat.mod w 2 = w % 2 := rfl
  rw [e1]
  simp only [Int.ofNat_eq_natCast]
  omega
 | negSucc w =>
  simp only [iK, lD, yJ, Bool.and_eq_true, decide_eq_true_eq]
  have e1 : Nat.mod w 2 = w % 2 := rfl
  rw [e1]
  omega
theorem bGm (w : Int) : cVr w = w / 2 := by
 cases w with
 | ofNat w => show Int.ofNat (w / 2) = _; simp
 | negSucc w => show Int.negSucc (w / 2) = _; omega
theorem jE (a : Int) (h : -9223372036854775808 ≤ a ∧ a ≤ 9223372036854775807) : IntKind.i64.wrap a = a := by
 simp [IntKind.wrap, IntKind.signed, IntKind.bits, Int.bmod]
 omega
theorem gH (a : Int) : (BitVec.ofInt 64 a).toNat = (a % 18446744073709551616).toNat := by
 rw [BitVec.toNat_ofInt]
 rfl
theorem dWv (w : Int) : IntKind.i64.wrap (((BitVec.ofInt 64 w &&& BitVec.ofInt 64 1).toNat : Nat) : Int) = w % 2 := by
 rw [BitVec.toNat_and, gH, gH]
 rw [show ((1 : Int) % 18446744073709551616).toNat = 1 from rfl, Nat.and_one_is_mod]
 rw [jE _ (by omega)]
 omega
theorem dYv (w : Int) : IntKind.i64.wrap (((BitVec.ofInt 64 w &&& BitVec.ofInt 64 3).toNat : Nat) : Int) = w % 4 := by
 rw [BitVec.toNat_and, gH, gH]
 rw [show ((3 : Int) % 18446744073709551616).toNat = 2 ^ 2 - 1 from rfl, Nat.and_two_pow_sub_one_eq_mod]
 rw [jE _ (by omega)]
 omega
theorem dDr (a : Nat) (k b : Nat) (hb : b < 2 ^ k) (hs : a * 2 ^ k + b < 9223372036854775808) : IntKind.i64.wrap (((BitVec.ofInt 64 ((a * 2 ^ k : Nat) : Int) ||| BitVec.ofInt 64 (b : Int)).toNat : Nat) : Int) = ((a * 2 ^ k + b : Nat) : Int) := by
 have h1 : (BitVec.ofInt 64 ((a * 2 ^ k : Nat) : Int)).toNat = a * 2 ^ k := by rw [gH]; omega
 have h2 : (BitVec.ofInt 64 (b : Int)).toNat = b := by rw [gH]; omega
 rw [BitVec.toNat_or, h1, h2, Nat.mul_comm a, ← Nat.two_pow_add_eq_or_of_lt hb, Nat.mul_comm]
 exact jE _ (by omega)
theorem aOc (a : Int) (b : Int) (hb : 0 ≤ b) : a.fdiv b = a / b := Int.fdiv_eq_ediv_of_nonneg a hb
theorem gE (k : IntKind) (a b : Int) (h : Hp) : aD .eql (.i k a) (.i k b) h = some (.b (a == b), h) := by simp only [aD, if_true, fB]
theorem aAy (k : IntKind) (a b : Int) (h : Hp) : aD .neq (.i k a) (.i k b) h = some (.b (a != b), h) := by simp only [aD, if_true, fB]
theorem dV (k : IntKind) (a b : Int) (h : Hp) : aD .lss (.i k a) (.i k b) h = some (.b (decide (a < b)), h) := by simp only [aD, if_true, fB]
theorem bKy (k : IntKind) (a b : Int) (h : Hp) : aD .leq (.i k a) (.i k b) h = some (.b (decide (a ≤ b)), h) := by simp only [aD, if_true, fB]
theorem mN (k : IntKind) (a b : Int) (h : Hp) : aD .gtr (.i k a) (.i k b) h = some (.b (decide (a > b)), h) := by simp only [aD, if_true, fB]
theorem oM (k : IntKind) (a b : Int) (h : Hp) : aD .geq (.i k a) (.i k b) h = some (.b (decide (a ≥ b)), h) := by simp only [aD, if_true, fB]
theorem xL (a b : Int) (h : Hp) (hr : -9223372036854775808 ≤ a + b ∧ a + b ≤ 9223372036854775807) : aD .add (.i .i64 a) (.i .i64 b) h = some (.i .i64 (a + b), h) := by simp only [aD, if_true, fB, jE _ hr]
theorem bTb (a b : Int) (h : Hp) (hr : -9223372036854775808 ≤ a - b ∧ a - b ≤ 9223372036854775807) : aD .sub (.i .i64 a) (.i .i64 b) h = some (.i .i64 (a - b), h) := by simp only [aD, if_true, fB, jE _ hr]
theorem bDl (w : Int) (h : Hp) : aD .and (.i .i64 w) (.i .i64 (Int.ofNat 1)) h = some (.i .i64 (w % 2), h) := by
 have : fB .and .i64 w (Int.ofNat 1) = some (.i .i64 (w % 2)) := by
  rw [← dWv w]; rfl
 simp only [aD, if_true, this]
theorem cEz (w : Int) (h : Hp) : aD .and (.i .i64 w) (.i .i64 (Int.ofNat 3)) h = some (.i .i64 (w % 4), h) := by
 have : fB .and .i64 w (Int.ofNat 3) = some (.i .i64 (w % 4)) := by
  rw [← dYv w]; rfl
 simp only [aD, if_true, this]
theorem vT (w : Int) (h : Hp) : dN .shr (.i .i64 w) (.i .u64 (Int.ofNat 1)) h = some (.i .i64 (w / 2), h) := by
 have : w.fdiv (2 ^ (min (Int.ofNat 1).toNat IntKind.i64.bits)) = w / 2 := aOc w (2 ^ 1) (by decide)
 simp only [dN, show ¬ ((Int.ofNat 1) < 0) by decide, if_false, this]
theorem cEw (w : Int) (h : Hp) : dN .shr (.i .i64 w) (.i .u64 (Int.ofNat 2)) h = some (.i .i64 (w / 4), h) := by
 have : w.fdiv (2 ^ (min (Int.ofNat 2).toNat IntKind.i64.bits)) = w / 4 := aOc w (2 ^ 2) (by decide)
 simp only [dN, show ¬ ((Int.ofNat 2) < 0) by decide, if_false, this]
theorem aWr (w : Int) (h : Hp) (hr : -4611686018427387904 ≤ w ∧ w ≤ 4611686018427387903) : dN .shl (.i .i64 w) (.i .u64 (Int.ofNat 1)) h = some (.i .i64 (2 * w), h) := by
 have : IntKind.i64.wrap (w * 2 ^ (min (Int.ofNat 1).toNat IntKind.i64.bits)) = 2 * w := by
  rw [show w * 2 ^ (min (Int.ofNat 1).toNat IntKind.i64.bits) = 2 * w from Int.mul_comm w 2]
  exact jE _ (by omega)
 simp only [dN, show ¬ ((Int.ofNat 1) < 0) by decide, if_false, this]
theorem cJu (w : Int) (h : Hp) (hr : -2305843009213693952 ≤ w ∧ w ≤ 2305843009213693951) : dN .shl (.i .i64 w) (.i .u64 (Int.ofNat 2)) h = some (.i .i64 (4 * w), h) := by
 have : IntKind.i64.wrap (w * 2 ^ (min (Int.ofNat 2).toNat IntKind.i64.bits)) = 4 * w := by
  rw [show w * 2 ^ (min (Int.ofNat 2).toNat IntKind.i64.bits) = 4 * w from Int.mul_comm w 4]
  exact jE _ (by omega)
 simp only [dN, show ¬ ((Int.ofNat 2) < 0) by decide, if_false, this]
theorem aSb (r : aG) (h : Hp) : gD (.b true) true r h = r := Eq.trans rfl rfl
theorem nS (r : aG) (h : Hp) : gD (.b false) false r h = r := Eq.trans rfl rfl
theorem iY (r : aG) (h : Hp) : gD (.b true) false r h = some (aR, h) := Eq.trans rfl rfl
theorem aZg (r : aG) (h : Hp) : gD (.b false) true r h = some (aR, h) := Eq.trans rfl rfl
theorem dZi (w : Bool) (r : aG) (h : Hp) : gD aR w r h = some (aR, h) := Eq.trans rfl rfl
theorem aU (v : DV) (h : Hp) (k : DV → Hp → aG) : bnd (some (v, h)) k = k v h := Eq.trans rfl rfl
theorem dU (x y : DV) (h : Hp) : aN (.b true) x y h = some (x, h) := Eq.trans rfl rfl
theorem eP (x y : DV) (h : Hp) : aN (.b false) x y h = some (y, h) := Eq.trans rfl rfl
theorem tD (b : Bool) (h : Hp) : hZ .not (.b b) h = some (.b (!b), h) := Eq.trans rfl rfl
theorem cX (a b : aG) : aT (.b true) a b = a := Eq.trans rfl rfl
theorem dK (a b : aG) : aT (.b false) a b = b := Eq.trans rfl rfl
theorem g0 (a : DV) (l : List DV) : (a :: l).getD 0 aR = a := Eq.trans rfl rfl
theorem g1 (a b : DV) (l : List DV) : (a :: b :: l).getD 1 aR = b := Eq.trans rfl rfl
theorem g2 (a b c : DV) (l : List DV) : (a :: b :: c :: l).getD 2 aR = c := Eq.trans rfl rfl
theorem g3 (a b c d : DV) (l : List DV) : (a :: b :: c :: d :: l).getD 3 aR = d := Eq.trans rfl rfl
theorem bAq (n : Nat) (a b c : Int) (h : Hp) : fI CF1 (n + 1) 197 [.i .i64 a, .i .i64 b, .i .i64 c] h = some (.b (decide (b ≤ a ∧ a ≤ c)), h) := by
 rw [cE 197 rfl, dHs]
 simp only [dCl, g0, g1, g2, oM, aU]
 by_cases h1 : b ≤ a
 ·simp only [ge_iff_le, h1, decide_true, aSb, aU, bKy, dU, true_and]
 ·simp only [ge_iff_le, h1, decide_false, aZg, aU, eP, false_and]
theorem dHb (n : Nat) (w : Int) (h : Hp) : fI CF1 (n + 2) 200 [.i .i64 w] h = some (.b (iK w), h) := by
 rw [cE 200 rfl, dTv]
 simp only [t54, g0, bDl, aU, gE, aPw]
 by_cases h1 : w % 2 = 1
 ·have e : (w % 2 == Int.ofNat 1) = true := by simpa using h1
  rw [e]
  simp only [aSb, aU, vT, bAq, dU, h1, true_and]
  rfl
 ·have e : (w % 2 == Int.ofNat 1) = false := by simpa using h1
  rw [e]
  simp only [aZg, aU, eP, h1, false_and, decide_false]
theorem dTn (n : Nat) (w : Int) (h : Hp) : fI CF1 (n + 2) 247 [.i .i64 w] h = some (.b (!(Nat.beq (jH w) 0)), h) := by
 rw [cE 247 rfl, dQp]
 simp only [t63, g0, bDl, aU, gE, lD]
 have hp := (aNh w).1
 by_cases h1 : w % 2 = 0
 ·have e : (w % 2 == Int.ofNat 0) = true := by simpa using h1
  rw [e]
  simp only [aSb, aU, vT, bAq, dU]
  by_cases h2 : jH w = 0
  ·have : ¬ (Int.ofNat 3 ≤ w / 2 ∧ w / 2 ≤ Int.ofNat 131072) := fun h => (hp.2 ⟨h1, h⟩) h2
   simp only [h2, this, decide_true, Bool.not_true, decide_false]
  ·have : Int.ofNat 3 ≤ w / 2 ∧ w / 2 ≤ Int.ofNat 131072 := (hp.1 h2).2
   simp only [h2, this, decide_false, Bool.not_false, and_self, decide_true]
 ·have h2 : jH w = 0 := by
   by_cases h2 : jH w = 0
   ·exact h2
   ·exact absurd (hp.1 h2).1 h1
  have e : (w % 2 == Int.ofNat 0) = false := by simpa using h1
  rw [e]
  simp only [aZg, aU, eP, h2, decide_true, Bool.not_true]
theorem dSo (n : Nat) (w : Int) (h : Hp) : fI CF1 (n + 3) 198 [.i .i64 w] h = some (.i .i64 (jH w), h) := by
 rw [cE 198 rfl, dPs]
 simp only [t64, g0, dTn, aU, tD, lD]
 by_cases h2 : jH w = 0
 ·simp only [h2, decide_true, Bool.not_true, Bool.not_false, cX]; rfl
 ·have hp := (aNh w).2.1 h2
  simp only [h2, decide_false, Bool.not_false, Bool.not_true, dK, vT, aU, hp]
theorem dUp (n : Nat) (w : Int) (h : Hp) : fI CF1 (n + 2) 134 [.i .i64 w] h = some (if -1073741824 ≤ w ∧ w ≤ 1073741823 then .t [.i .i64 (2 * w + 1), .b true] else .t [.i .i64 0, .b false], h) := by
 rw [cE 134 rfl, dSl]
 simp only [t60, g0, bAq, aU, tD]
 by_cases h1 : -1073741824 ≤ w ∧ w ≤ 1073741823
 ·have h1' : Int.negSucc 1073741823 ≤ w ∧ w ≤ Int.ofNat 1073741823 := h1
  rw [if_pos h1]
  simp only [h1', decide_true, and_self, dK, Bool.not_true]
  rw [aWr w h (by omega)]
  have hb : fB .or .i64 (2 * w) (Int.ofNat 1) = some (.i .i64 (2 * w + 1)) := by
   have : IntKind.i64.wrap (((BitVec.ofInt 64 (2 * w) ||| BitVec.ofInt 64 (Int.ofNat 1)).toNat : Nat) : Int) = 2 * w + 1 := by
    rw [BitVec.toNat_or, gH, gH]
    rw [show ((Int.ofNat 1) % 18446744073709551616).toNat = 1 from rfl]
    obtain ⟨q, hq⟩ : ∃ q : Nat, ((2 * w) % 18446744073709551616).toNat = 2 ^ 1 * q := ⟨((2 * w) % 18446744073709551616).toNat / 2, by omega⟩
    rw [hq, ← Nat.two_pow_add_eq_or_of_lt (show 1 < 2 ^ 1 by omega)]
    rw [← hq]
    simp [IntKind.wrap, IntKind.signed, IntKind.bits, Int.bmod]
    omega
   rw [← this]; rfl
  simp only [aU, aD, if_true, hb]
 ·have h1' : ¬ (Int.negSucc 1073741823 ≤ w ∧ w ≤ Int.ofNat 1073741823) := h1
  rw [if_neg h1]
  simp only [h1', decide_false, cX, Bool.not_false]
  rfl
theorem dWl (n : Nat) (w : Int) (h : Hp) : fI CF1 (n + 3) 216 [.i .i64 w] h = some (if iK w then .i .i64 (w / 2) else .i .i64 0, h) := by
 rw [cE 216 rfl, dOa]
 simp only [t62, g0, dHb, aU, tD]
 cases iK w with
 | false => rfl
 | true => simp only [Bool.not_true, dK, vT, aU, if_true]
theorem dZv (n : Nat) (a : Int) (h : Hp) : fI CF1 (n + 2) 127 [.i .i64 a] h = some (if 3 ≤ a ∧ a ≤ 131072 then .t [.i .i64 (2 * a), .b true] else .t [.i .i64 0, .b false], h) := by
 rw [cE 127 rfl, dMo]
 simp only [t75, g0, bAq, aU, tD]
 by_cases h1 : 3 ≤ a ∧ a ≤ 131072
 ·have h1' : Int.ofNat 3 ≤ a ∧ a ≤ Int.ofNat 131072 := h1
  rw [if_pos h1]
  simp only [h1', decide_true, and_self, dK, Bool.not_true]
  rw [aWr a h (by omega)]
  rfl
 ·have h1' : ¬ (Int.ofNat 3 ≤ a ∧ a ≤ Int.ofNat 131072) := h1
  rw [if_neg h1]
  simp only [h1', decide_false, cX, Bool.not_false]
  rfl
end Go.Dd

namespace Go.Dd
structure ML (m : Pos) (M : MemV) (h : Hp) : Prop where
 row : h.bl.get m = some (.row .ex [.l M.wb 0 M.n M.n, .i .i64 (Int.ofNat M.fin), .i .i64 (Int.ofNat M.made), .m M.pb])
 words : h.bl.get M.wb = some (.row .ex (hY M.n M.t))
 places : ∃ es, h.bl.get M.pb = some (.mp es) ∧ ∀ a : Int, fZ (.int .i64) (.i .i64 a) es = some (if 0 ≤ a ∧ M.pl.get a.toNat ≠ 0 then some (.b true) else none)
 n_lt : M.n < 1000000
 fin_le : M.fin ≤ M.n
 made_lt : M.made < 2000000
 d1 : m ≠ M.wb
 d2 : m ≠ M.pb
 d3 : M.wb ≠ M.pb
theorem rC {m : Pos} {M : MemV} {h : Hp} (hm : qO m h = some M) :
  h.bl.get m = some (.row .ex [.l M.wb 0 M.n M.n, .i .i64 (Int.ofNat M.fin), .i .i64 (Int.ofNat M.made), .m M.pb]) ∧ h.bl.get M.wb = some (.big M.n M.t) ∧ h.bl.get M.pb = some (.mi M.pl) ∧ M.n < 1000000 ∧ M.fin ≤ M.n ∧ M.made < 1000000 := by
 unfold qO at hm
 split at hm <;> (try (cases hm; done))
 rename_i wb n c fin made pb hr
 split at hm <;> (try (cases hm; done))
 rename_i n' t pl h1 h2
 cases hb : (Nat.beq n n' && Nat.beq n c) with
 | false => rw [hb] at hm; cases hm
 | true =>
  rw [hb] at hm
  simp only [cond_true] at hm
  cases hc : (Nat.blt n 1000000 && (Nat.ble fin n && Nat.blt made 1000000)) with
  | false => rw [hc] at hm; cases hm
  | true =>
   rw [hc] at hm
   simp only [cond_true, aV] at hm
   subst hm
   simp only [lD, aUm, yJ, Bool.and_eq_true, decide_eq_true_eq] at hb hc
   obtain ⟨rfl, rfl⟩ := hb
   exact ⟨hr, h1, h2, hc.1, hc.2.1, hc.2.2⟩
theorem fH {m : Pos} {M : MemV} {h h' : Hp} (hm : qO m h = some M) (S : Sim false h h') : ML m M h' := by
 obtain ⟨h1, h2, h3, h4, h5, h6⟩ := rC hm
 refine ⟨S.row h1, ?_, ?_, h4, h5, by omega, fun e => by (rw [e, h2] at h1; cases h1), fun e => by (rw [e, h3] at h1; cases h1), fun e => by (rw [e, h3] at h2; cases h2)⟩
 ·obtain ⟨o', e1, e2⟩ := S.get _ _ h2
  have e2' : o' = .row .ex (hY M.n M.t) := by simpa [aJ, wC] using e2
  rw [e1, e2']
 ·obtain ⟨o', e1, e2⟩ := S.get _ _ h3
  have e2' : ∃ es, o' = .mp es ∧ ∀ a : Int, fZ (.int .i64) (.i .i64 a) es = some (if 0 ≤ a ∧ M.pl.get a.toNat ≠ 0 then some (.b true) else none) := by simpa [aJ, wC] using e2
  obtain ⟨es, rfl, e3⟩ := e2'
  exact ⟨es, e1, e3⟩
section
variable {m : Pos} {M : MemV} {h : Hp}
theorem gQ (b : Pos) (o : Nat) (h : Hp) : aY (.p b o) h = some (.p b o, h) := Eq.trans rfl rfl
theorem eE (k : Nat) (b : Pos) (o : Nat) (h : Hp) : aB k (.p b o) h = some (.p b (o + k), h) := Eq.trans rfl rfl
theorem ML.l0 (H : ML m M h) : aA (.p m (0 + 0)) h = some (.l M.wb 0 M.n M.n, h) := by
 simp [aA, cellD, rowOf, H.row, DV.one]
theorem ML.l1 (H : ML m M h) : aA (.p m (0 + 1)) h = some (.i .i64 (Int.ofNat M.fin), h) := by
 simp [aA, cellD, rowOf, H.row, DV.one]
theorem ML.l2 (H : ML m M h) : aA (.p m (0 + 2)) h = some (.i .i64 (Int.ofNat M.made), h) := by
 simp [aA, cellD, rowOf, H.row, DV.one]
theorem ML.l3 (H : ML m M h) : aA (.p m (0 + 3)) h = some (.m M.pb, h) := by
 simp [aA, cellD, rowOf, H.row, DV.one]
theorem kR {n : Nat} {t : WT} {i : Nat} (h : i < n) : (hY n t)[i]? = some (.i .i64 (t.get i)) := by
 simp [hY, h]
theorem ML.ix (H : ML m M h) {a : Nat} (ha : a < M.n) : aE 1 (.l M.wb 0 M.n M.n) (.i .i64 (a : Int)) h = some (.p M.wb a, h) := by
 have : (0 : Int) ≤ (a : Int) ∧ (a : Int) < (M.n : Int) := by omega
 simp [aE, this]
theorem ML.ld (H : ML m M h) {a : Nat} (ha : a < M.n) : aA (.p M.wb a) h = some (.i .i64 (M.t.get a), h) := by
 simp [aA, cellD, rowOf, H.words, kR ha, DV.one]
theorem bSr (o : Int) (pl : WT) : gG o pl = 0 ∨ (gG o pl = jH o ∧ jH o ≠ 0) := by
 unfold gG
 by_cases h0 : jH o = 0
 ·simp [h0, lD]
 ·simp only [lD, h0, decide_false, cond_false]
  split
  ·exact .inl rfl
  ·exact .inr ⟨rfl, h0⟩
theorem atN_pos {o : Int} {pl : WT} : (gG o pl ≠ 0) ↔ (jH o ≠ 0 ∧ pl.get (jH o) ≠ 0) := by
 unfold gG
 by_cases h0 : jH o = 0
 ·simp [h0, lD]
 ·simp only [lD, h0, decide_false, cond_false]
  split
  ·rename_i e; simp [e]
  ·rename_i e
   refine ⟨fun _ => ⟨h0, fun e' => e (by rw [e']; rfl)⟩, fun _ => h0⟩
theorem ML.lookup (H : ML m M h) (a : Nat) : eC (.int .i64) (.b false) false (.m M.pb) (.i .i64 (a : Int)) h = some (.b (decide (M.pl.get a ≠ 0)), h) := by
 obtain ⟨es, h1, h2⟩ := H.places
 have := h2 a
 simp only [Int.toNat_natCast] at this
 simp only [eC, jG, h1, this]
 by_cases hc : M.pl.get a = 0
 ·simp [hc]
 ·simp [hc]
theorem lX {r : aG} {v : DV} {h : Hp} (hr : r = some (v, h)) (hv : DV.beq v v = true) : bB r v = true := by
 rw [hr]; exact hv
theorem dMe (b : Pos) : DV.beq (.m b) (.m b) = true := by simp [DV.beq]
theorem bVd (b : Pos) (o n c : Nat) : DV.beq (.l b o n c) (.l b o n c) = true := by simp [DV.beq]
theorem cMr (H : ML m M h) (n : Nat) (w : Int) : fI CF1 (n + 4) 196 [.p m 0, .i .i64 w] h = some (.b (!(Nat.beq (gG w M.pl) 0)), h) := by
 rw [cE 196 rfl, dNn]
 simp only [t21, g0, g1, dTn, aU, lD]
 by_cases h0 : jH w = 0
 ·have : gG w M.pl = 0 := by
   rcases bSr w M.pl with e | ⟨e, e'⟩
   ·exact e
   ·exact absurd h0 e'
  simp only [h0, decide_true, Bool.not_true, aZg, aU, this]
  simp [bB, aR, DV.beq, eDg, cnd, bnd, aN]
 ·simp only [h0, decide_false, Bool.not_false, aSb, aU, gQ, eE, H.l3, dSo]
  rw [lX rfl (dMe _), Bool.and_self]
  simp only [cnd, H.lookup, aU, dU]
  by_cases h1 : M.pl.get (jH w) = 0
  ·have : gG w M.pl = 0 := by
    by_cases e : gG w M.pl = 0
    ·exact e
    ·exact absurd h1 (atN_pos.1 e).2
   simp [h1, this]
  ·have : gG w M.pl ≠ 0 := atN_pos.2 ⟨h0, h1⟩
   simp [h1, this]
theorem dYy (H : ML m M h) (n : Nat) : fI CF1 (n + 1) 108 [.p m 0] h = some (.i .i64 (Int.ofNat M.n), h) := by
 rw [cE 108 rfl, dOb]
 simp only [t22, g0, aU, gQ, eE, H.l0]
 rfl
theorem dPj (H : ML m M h) (n : Nat) : fI CF1 (n + 1) 126 [.p m 0] h = some (.i .i64 (Int.ofNat (M.n - M.fin)), h) := by
 rw [cE 126 rfl, dPy]
 have h1 := H.n_lt
 have h2 := H.fin_le
 have e : bV (.l M.wb 0 M.n M.n) h = some (.i .i64 (M.n : Int), h) := rfl
 simp only [t29, g0, aU, gQ, eE, H.l0, H.l1, e]
 rw [bTb _ _ _ (by simp only [Int.ofNat_eq_natCast]; omega)]
 simp only [aU]
 congr 3
 simp only [Int.ofNat_eq_natCast]
 omega
theorem dVe (H : ML m M h) (n : Nat) (w : Int) : fI CF1 (n + 5) 132 [.p m 0, .i .i64 w] h = some (.b (aGb w M.pl), h) := by
 rw [cE 132 rfl, dUq]
 have hm : aGb w M.pl = (decide (w = 0) || (decide (w = 2) || (decide (w = 4) || (iK w || !(Nat.beq (gG w M.pl) 0))))) := by
  unfold aGb
  split
  ·simp
  ·simp
  ·simp
  ·rename_i h1 h2 h3
   have e1 : w ≠ 0 := fun e => h1 (by rw [e]; rfl)
   have e2 : w ≠ 2 := fun e => h2 (by rw [e]; rfl)
   have e3 : w ≠ 4 := fun e => h3 (by rw [e]; rfl)
   simp [e1, e2, e3]
 rw [hm]
 simp only [t20, g0, g1, gE, aU]
 have b0 : (w == Int.ofNat 0) = decide (w = 0) := rfl
 have b2 : (w == Int.ofNat 2) = decide (w = 2) := rfl
 have b4 : (w == Int.ofNat 4) = decide (w = 4) := rfl
 rw [b0]
 cases decide (w = 0) with
 | true => simp only [iY, aU, dU, Bool.true_or]
 | false =>
  simp only [nS, aU, gE, eP, b2, Bool.false_or]
  cases decide (w = 2) with
  | true => simp only [iY, aU, dU, Bool.true_or]
  | false =>
   simp only [nS, aU, gE, eP, b4, Bool.false_or]
   cases decide (w = 4) with
   | true => simp only [iY, aU, dU, Bool.true_or]
   | false =>
    simp only [nS, aU, dHb, eP, Bool.false_or]
    cases iK w with
    | true => simp only [iY, aU, dU, Bool.true_or]
    | false => simp only [nS, aU, cMr H, eP, Bool.false_or]
theorem dTi (H : ML m M h) (n : Nat) (w : Int) : fI CF1 (n + 5) 125 [.p m 0, .i .i64 w] h = some (.b (aBi w M.pl), h) := by
 rw [cE 125 rfl, dVi]
 have hm : aBi w M.pl = (decide (w = 0) || !(Nat.beq (gG w M.pl) 0)) := by
  unfold aBi
  split
  ·simp
  ·rename_i h1
   have e1 : w ≠ 0 := fun e => h1 (by rw [e]; rfl)
   simp [e1]
 rw [hm]
 have b0 : (w == Int.ofNat 0) = decide (w = 0) := rfl
 simp only [t74, g0, g1, gE, aU, b0]
 cases decide (w = 0) with
 | true => simp only [iY, aU, dU, Bool.true_or]
 | false => simp only [nS, aU, cMr H, eP, Bool.false_or]
theorem sT (H : ML m M h) (n : Nat) (w : Int) : fI CF1 (n + 5) 128 [.p m 0, .i .i64 w] h = some (.i .i64 (gG w M.pl), h) := by
 rw [cE 128 rfl, dIh]
 simp only [t105, g0, g1, cMr H, aU, tD, lD]
 rcases bSr w M.pl with e | ⟨e, e'⟩
 ·simp only [e, decide_true, Bool.not_true, Bool.not_false, cX]; rfl
 ·simp only [e, e', decide_false, Bool.not_false, Bool.not_true, dK, dSo, aU]
theorem vS {o : Int} {k : Nat → aG} {r : DV × Hp} (hh : mA M o k = some r) : gG o M.pl + 1 < M.n ∧ ∃ hd, M.t.get (gG o M.pl) = Int.ofNat hd ∧ hd < 1000000000000 ∧ k hd = some r := by
 unfold mA at hh
 cases hb : Nat.blt (Nat.add (gG o M.pl) 1) M.n with
 | false => rw [hb] at hh; cases hh
 | true =>
  rw [hb] at hh
  simp only [cond_true] at hh
  simp only [yJ, decide_eq_true_eq] at hb
  split at hh <;> (try (cases hh; done))
  rename_i hd he
  cases hc : Nat.blt hd 1000000000000 with
  | false => rw [hc] at hh; cases hh
  | true =>
   rw [hc] at hh
   simp only [yJ, decide_eq_true_eq] at hc
   exact ⟨hb, hd, he, hc, hh⟩
theorem dYx (H : ML m M h) (n : Nat) (o : Int) (ho : gG o M.pl + 1 < M.n) : fI CF1 (n + 6) 243 [.p m 0, .i .i64 o] h = some (.i .i64 (M.t.get (gG o M.pl + 1)), h) := by
 rw [cE 243 rfl, dRv]
 have hn := H.n_lt
 simp only [t50, g0, g1, aU, gQ, eE, H.l0, sT H]
 rw [lX rfl (bVd _ _ _ _), Bool.and_self]
 simp only [cnd]
 rw [xL _ _ _ (by simp only [Int.ofNat_eq_natCast]; omega)]
 have e : (gG o M.pl : Int) + Int.ofNat 1 = ((gG o M.pl + 1 : Nat) : Int) := by simp
 simp only [aU, e, H.ix ho, H.ld ho]
theorem dUr (H : ML m M h) (n : Nat) (o : Int) (ho : gG o M.pl < M.n) : fI CF1 (n + 6) 136 [.p m 0, .i .i64 o] h = some (.i .i64 (M.t.get (gG o M.pl) % 4), h) := by
 rw [cE 136 rfl, dUi]
 simp only [t51, g0, g1, aU, gQ, eE, H.l0, sT H]
 rw [lX rfl (bVd _ _ _ _), Bool.and_self]
 simp only [cnd, aU, H.ix ho, H.ld ho, cEz]
theorem dTb (H : ML m M h) (n : Nat) (o : Int) (ho : gG o M.pl < M.n) : fI CF1 (n + 6) 201 [.p m 0, .i .i64 o] h = some (.i .i64 (M.t.get (gG o M.pl) / 4), h) := by
 rw [cE 201 rfl, dPw]
 simp only [t52, g0, g1, aU, gQ, eE, H.l0, sT H]
 rw [lX rfl (bVd _ _ _ _), Bool.and_self]
 simp only [cnd, aU, H.ix ho, H.ld ho, cEw]
end
end Go.Dd

namespace Go.Dd
section
variable {m : Pos} {M : MemV} {h : Hp}
theorem cDr (H : ML m M h) {o i : Int} {bad : Nat → aG} {k : Nat → Nat → aG} {r : DV × Hp} (hf : kJ M o i bad k = some r) :
  (∃ e : Nat, e ≠ 0 ∧ bad e = some r ∧ ∀ n, fI CF1 (n + 7) 135 [.p m 0, .i .i64 o, .i .i64 i] h = some (.t [.i .i64 (Int.ofNat 0), .i .i64 (Int.ofNat e)], h)) ∨
  (∃ hd a : Nat, gG o M.pl ≠ 0 ∧ a < M.n ∧ gG o M.pl + 1 < M.n ∧ M.t.get (gG o M.pl) = Int.ofNat hd ∧ k hd a = some r ∧ ∀ n, fI CF1 (n + 7) 135 [.p m 0, .i .i64 o, .i .i64 i] h = some (.t [.i .i64 (a : Int), .i .i64 (Int.ofNat 0)], h)) := by
 have hn := H.n_lt
 unfold kJ at hf
 rw [lD] at hf
 by_cases h0 : gG o M.pl = 0
 ·simp only [h0, decide_true, cond_true] at hf
  refine .inl ⟨1, by omega, hf, fun n => ?_⟩
  rw [cE 135 rfl, aLm]
  simp only [bIn, g0, g1, g2, sT H, aU, gE, h0]
  rfl
 ·simp only [h0, decide_false, cond_false] at hf
  have e0 : ((gG o M.pl : Int) == Int.ofNat 0) = false := by simpa using h0
  cases i with
  | negSucc i =>
   refine .inl ⟨5, by omega, hf, fun n => ?_⟩
   rw [cE 135 rfl, aLm]
   have hlt : decide (Int.negSucc i < Int.ofNat 0) = true := decide_eq_true (Int.negSucc_lt_zero i)
   simp only [bIn, g0, g1, g2, sT H, aU, gE, e0, dK, dV, hlt, iY, dU, cX]
  | ofNat i =>
   dsimp only at hf
   obtain ⟨h1, hd, h2, h3, h4⟩ := vS hf
   rw [aUm] at h4
   have hlt : decide (Int.ofNat i < Int.ofNat 0) = false := by simp
   have h52 := fun n => dTb H n o (show gG o M.pl < M.n by omega)
   rw [h2] at h52
   by_cases hi : Nat.div hd 4 ≤ i
   ·simp only [hi, decide_true, cond_true] at h4
    refine .inl ⟨5, by omega, h4, fun n => ?_⟩
    rw [cE 135 rfl, aLm]
    have hge : decide (Int.ofNat i ≥ Int.ofNat hd / 4) = true := by
     have : hd / 4 ≤ i := hi
     simp only [decide_eq_true_eq, Int.ofNat_eq_natCast]
     omega
    simp only [bIn, g0, g1, g2, sT H, aU, gE, e0, dK, dV, hlt, nS, h52, oM, hge, eP, cX]
   ·simp only [hi, decide_false, cond_false] at h4
    rw [yJ] at h4
    by_cases ha : Nat.add (Nat.add (gG o M.pl) 3) i < M.n
    ·simp only [ha, decide_true, cond_true] at h4
     have ha' : gG o M.pl + 3 + i < M.n := ha
     refine .inr ⟨hd, _, h0, ha, h1, h2, h4, fun n => ?_⟩
     rw [cE 135 rfl, aLm]
     have hge : decide (Int.ofNat i ≥ Int.ofNat hd / 4) = false := by
      have : ¬ hd / 4 ≤ i := hi
      simp only [decide_eq_false_iff_not, Int.ofNat_eq_natCast]
      omega
     simp only [bIn, g0, g1, g2, sT H, aU, gE, e0, dK, dV, hlt, nS, h52, oM, hge, eP]
     rw [xL _ _ _ (by simp only [Int.ofNat_eq_natCast]; omega)]
     simp only [aU]
     rw [xL _ _ _ (by simp only [Int.ofNat_eq_natCast]; omega)]
     simp only [aU]
     congr 4
    ·simp only [ha, decide_false, cond_false] at h4
     cases h4
theorem cDn (a b : DV) (h : Hp) : aC 0 (.t [a, b]) h = some (a, h) := Eq.trans rfl rfl
theorem bXr (a b : DV) (h : Hp) : aC 1 (.t [a, b]) h = some (b, h) := Eq.trans rfl rfl
theorem cXc {e : Nat} (he : e ≠ 0) : (Int.ofNat e != Int.ofNat 0) = true := by
 simpa using he
theorem ML.put (H : ML m M h) {a : Nat} (ha : a < M.n) (w : Int) : aI 1 (.p M.wb a) (.i .i64 w) h = some (aR, ⟨h.next, Tr.set (.row .ex (hY M.n (M.t.set a w))) M.wb h.bl⟩) := by
 have hput : ∀ (n : Nat) (l : List DV) (x : DV), (∀ v ∈ l, v.one = true) → x.one = true → n < l.length → fT n l [x] = some (l.set n x) := by
  intro n
  induction n with
  | zero =>
   intro l x hl hx hlt
   cases l with
   | nil => simp at hlt
   | cons y l =>
    have hp : jY l [] = some l := by cases l <;> rfl
    simp [fT, jY, hl y (by simp), hx, hp]
  | succ n ih =>
   intro l x hl hx hlt
   cases l with
   | nil => simp at hlt
   | cons y l =>
    simp only [fT, List.set_cons_succ]
    rw [ih l x (fun v hv => hl v (by simp [hv])) hx (by simpa using hlt)]
    rfl
 have hb : ∀ v ∈ hY M.n M.t, v.one = true := by
  intro v hv
  simp only [hY, List.mem_map] at hv
  obtain ⟨i, _, rfl⟩ := hv
  rfl
 have hlen : (hY M.n M.t).length = M.n := by simp [hY]
 have hset : (hY M.n M.t).set a (.i .i64 w) = hY M.n (M.t.set a w) := by
  apply List.ext_getElem?
  intro i
  rw [List.getElem?_set]
  by_cases hi : i < M.n
  ·rw [kR hi, kR hi, WT.get_set M.t a w i (by have := H.n_lt; omega)]
   by_cases e : a = i
   ·subst e
    simp [hlen, hi]
   ·rw [if_neg e, if_neg (by omega)]
  ·have h1 : (hY M.n M.t)[i]? = none := List.getElem?_eq_none (by omega)
   have h2 : (hY M.n (M.t.set a w))[i]? = none := List.getElem?_eq_none (by simp [hY]; omega)
   rw [h2]
   split
   ·rename_i e; subst e; rw [if_neg (by omega)]
   ·exact h1
 simp only [aI, eA, List.length_singleton, if_true, cV, H.words, Kind.writable]
 rw [hput a _ _ hb rfl (by omega), hset]
theorem eCf (H : ML m M h) {o i : Int} {k : Nat → aG} {kk : Nat → Nat → aG} {r : DV × Hp} (hf : kJ M o i k kk = some r) :
  (∃ e : Nat, k e = some r ∧ ∀ n, fI CF1 (n + 8) 245 [.p m 0, .i .i64 o, .i .i64 i] h = some (.t [.i .i64 (Int.ofNat 0), .i .i64 (Int.ofNat e)], h)) ∨
  (∃ hd a : Nat, kk hd a = some r ∧ ∀ n, fI CF1 (n + 8) 245 [.p m 0, .i .i64 o, .i .i64 i] h = some (.t [.i .i64 (M.t.get a), .i .i64 (Int.ofNat 0)], h)) := by
 rcases cDr H hf with ⟨e, he, h1, h2⟩ | ⟨hd, a, h0, h1, h2, h3, h4, h5⟩
 ·refine .inl ⟨e, h1, fun n => ?_⟩
  rw [cE 245 rfl, cUz]
  simp only [t73, g0, g1, g2, h2, aU, cDn, bXr, aAy, cXc he, cX]
 ·refine .inr ⟨hd, a, h4, fun n => ?_⟩
  rw [cE 245 rfl, cUz]
  have e0 : (Int.ofNat 0 != Int.ofNat 0) = false := rfl
  simp only [t73, g0, g1, g2, h5, aU, cDn, bXr, aAy, e0, dK, gQ, eE, H.l0, H.ix h1, H.ld h1]
end
theorem eN {args : List DV} {h : Hp} {k : MemV → List DV → aG} {r : DV × Hp} (hr : qR args h k = some r) :
  ∃ m rest M, args = .p m 0 :: rest ∧ qO m h = some M ∧ k M rest = some r := by
 unfold qR at hr
 split at hr <;> (try (cases hr; done))
 rename_i m rest
 split at hr <;> (try (cases hr; done))
 rename_i M hM
 exact ⟨m, rest, M, rfl, hM, hr⟩
theorem dEy (n : Nat) (args : List DV) : SimP false (isF args) (fI CF1 (n + 12) 196 args) := fun h h' S v k e => by
 obtain ⟨m, rest, M, rfl, hM, e⟩ := eN e
 split at e <;> (try (cases e; done))
 simp only [aV, bI] at e
 obtain ⟨rfl, rfl⟩ := e
 exact ⟨h', cMr (fH hM S) (n + 8) _, S⟩
theorem cFa (n : Nat) (args : List DV) : SimP false (bMx args) (fI CF1 (n + 12) 132 args) := fun h h' S v k e => by
 obtain ⟨m, rest, M, rfl, hM, e⟩ := eN e
 split at e <;> (try (cases e; done))
 simp only [aV, bI] at e
 obtain ⟨rfl, rfl⟩ := e
 exact ⟨h', dVe (fH hM S) (n + 7) _, S⟩
theorem cDy (n : Nat) (args : List DV) : SimP false (aCa args) (fI CF1 (n + 12) 108 args) := fun h h' S v k e => by
 obtain ⟨m, rest, M, rfl, hM, e⟩ := eN e
 split at e <;> (try (cases e; done))
 simp only [aV, bI] at e
 obtain ⟨rfl, rfl⟩ := e
 exact ⟨h', dYy (fH hM S) (n + 11), S⟩
theorem bLs (n : Nat) (args : List DV) : SimP false (bCn args) (fI CF1 (n + 12) 126 args) := fun h h' S v k e => by
 obtain ⟨m, rest, M, rfl, hM, e⟩ := eN e
 split at e <;> (try (cases e; done))
 simp only [aV, bI] at e
 obtain ⟨rfl, rfl⟩ := e
 exact ⟨h', dPj (fH hM S) (n + 11), S⟩
theorem bGw (n : Nat) (args : List DV) : SimP false (rN args) (fI CF1 (n + 12) 243 args) := fun h h' S v k e => by
 obtain ⟨m, rest, M, rfl, hM, e⟩ := eN e
 split at e <;> (try (cases e; done))
 obtain ⟨h1, hd, h2, h3, e⟩ := vS e
 simp only [aV, bI] at e
 obtain ⟨rfl, rfl⟩ := e
 exact ⟨h', dYx (fH hM S) (n + 6) _ h1, S⟩
theorem aPk (n : Nat) (args : List DV) : SimP false (uE args) (fI CF1 (n + 12) 136 args) := fun h h' S v k e => by
 obtain ⟨m, rest, M, rfl, hM, e⟩ := eN e
 split at e <;> (try (cases e; done))
 obtain ⟨h1, hd, h2, h3, e⟩ := vS e
 simp only [aV, bI] at e
 obtain ⟨rfl, rfl⟩ := e
 refine ⟨h', ?_, S⟩
 rw [dUr (fH hM S) (n + 6) _ (by omega), h2]
 rfl
theorem aUs (n : Nat) (args : List DV) : SimP false (nG args) (fI CF1 (n + 12) 201 args) := fun h h' S v k e => by
 obtain ⟨m, rest, M, rfl, hM, e⟩ := eN e
 split at e <;> (try (cases e; done))
 obtain ⟨h1, hd, h2, h3, e⟩ := vS e
 simp only [aV, bI] at e
 obtain ⟨rfl, rfl⟩ := e
 refine ⟨h', ?_, S⟩
 rw [dTb (fH hM S) (n + 6) _ (by omega), h2]
 rfl
theorem cQp (n : Nat) (args : List DV) : SimP false (cCn args) (fI CF1 (n + 12) 245 args) := fun h h' S v k e => by
 obtain ⟨m, rest, M, rfl, hM, e⟩ := eN e
 split at e <;> (try (cases e; done))
 rename_i o i
 rcases eCf (fH hM S) e with ⟨er, e1, e2⟩ | ⟨hd, a, e1, e2⟩
 ·simp only [err, aV, bI] at e1
  obtain ⟨rfl, rfl⟩ := e1
  exact ⟨h', e2 (n + 4), S⟩
 ·simp only [aV, bI] at e1
  obtain ⟨rfl, rfl⟩ := e1
  exact ⟨h', e2 (n + 4), S⟩
theorem aMb (n : Nat) (args : List DV) : SimP false (jR args) (fI CF1 (n + 12) 200 args) := fun h h' S v k e => by
 unfold jR at e
 split at e <;> (try (cases e; done))
 simp only [aV, bI] at e
 obtain ⟨rfl, rfl⟩ := e
 exact ⟨h', dHb (n + 10) _ h', S⟩
theorem bJf (n : Nat) (args : List DV) : SimP false (oN args) (fI CF1 (n + 12) 216 args) := fun h h' S v k e => by
 unfold oN at e
 split at e <;> (try (cases e; done))
 rename_i w
 have hc := dWl (n + 9) w h'
 cases hs : iK w with
 | true =>
  rw [hs] at e hc
  simp only [cond_true, aV, bI] at e
  obtain ⟨rfl, rfl⟩ := e
  exact ⟨h', by rw [hc, bGm]; rfl, S⟩
 | false =>
  rw [hs] at e hc
  simp only [cond_false, aV, bI] at e
  obtain ⟨rfl, rfl⟩ := e
  exact ⟨h', by rw [hc]; rfl, S⟩
theorem bIg (n : Nat) (args : List DV) : SimP false (oS args) (fI CF1 (n + 12) 134 args) := fun h h' S v k e => by
 unfold oS at e
 split at e <;> (try (cases e; done))
 ·rename_i w
  have hc := dUp (n + 10) (Int.ofNat w) h'
  rw [yJ] at e
  by_cases hw : w < 1073741824
  ·simp only [hw, decide_true, cond_true, aV, bI] at e
   obtain ⟨rfl, rfl⟩ := e
   rw [if_pos (by simp only [Int.ofNat_eq_natCast]; omega)] at hc
   refine ⟨h', ?_, S⟩
   rw [hc]
   have : 2 * Int.ofNat w + 1 = Int.ofNat (Nat.succ (Nat.mul w 2)) := by
    have : Nat.mul w 2 = w * 2 := rfl
    rw [this]
    simp only [Int.ofNat_eq_natCast]; omega
   rw [this]
  ·simp only [hw, decide_false, cond_false, aV, bI] at e
   obtain ⟨rfl, rfl⟩ := e
   rw [if_neg (by simp only [Int.ofNat_eq_natCast]; omega)] at hc
   exact ⟨h', by rw [hc]; rfl, S⟩
 ·rename_i w
  have hc := dUp (n + 10) (Int.negSucc w) h'
  rw [yJ] at e
  by_cases hw : w < 1073741824
  ·simp only [hw, decide_true, cond_true, aV, bI] at e
   obtain ⟨rfl, rfl⟩ := e
   rw [if_pos (by omega)] at hc
   refine ⟨h', ?_, S⟩
   rw [hc]
   have : 2 * Int.negSucc w + 1 = Int.negSucc (Nat.mul w 2) := by
    have : Nat.mul w 2 = w * 2 := rfl
    rw [this]; omega
   rw [this]
  ·simp only [hw, decide_false, cond_false, aV, bI] at e
   obtain ⟨rfl, rfl⟩ := e
   rw [if_neg (by omega)] at hc
   exact ⟨h', by rw [hc]; rfl, S⟩
end Go.Dd

namespace Go.Dd
def Oth (m wb pb : Pos) (h h1 : Hp) : Prop := h1.next = h.next ∧ ∀ b, b ≠ m → b ≠ wb → b ≠ pb → h1.bl.get b = h.bl.get b
theorem Oth.refl (m wb pb : Pos) (h : Hp) : Oth m wb pb h h := ⟨rfl, fun _ _ _ _ => rfl⟩
theorem Oth.trans {m wb pb : Pos} {a b c : Hp} (h : Oth m wb pb a b) (k : Oth m wb pb b c) : Oth m wb pb a c := ⟨k.1.trans h.1, fun x h1 h2 h3 => (k.2 x h1 h2 h3).trans (h.2 x h1 h2 h3)⟩
section
variable {m : Pos} {M : MemV} {h : Hp}
def bLl (M : MemV) : Ob := .row .ex [.l M.wb 0 M.n M.n, .i .i64 (Int.ofNat M.fin), .i .i64 (Int.ofNat M.made), .m M.pb]
theorem ML.setM (H : ML m M h) (M' : MemV) (e1 : M'.wb = M.wb) (e2 : M'.pb = M.pb) (e3 : M'.n = M.n) (e4 : M'.t = M.t) (e5 : M'.pl = M.pl) (h1 : M'.fin ≤ M.n) (h2 : M'.made < 2000000) :
  ML m M' ⟨h.next, Tr.set (bLl M') m h.bl⟩ ∧ Oth m M.wb M.pb h ⟨h.next, Tr.set (bLl M') m h.bl⟩ := by
 refine ⟨⟨by rw [eCm]; rfl, ?_, ?_, by rw [e3]; exact H.n_lt, by rw [e3]; exact h1, h2, by rw [e1]; exact H.d1, by rw [e2]; exact H.d2, by rw [e1, e2]; exact H.d3⟩, rfl, fun b h1 _ _ => eCl _ _ _ _ h1⟩
 ·rw [e1, e3, e4, eCl _ _ _ _ (Ne.symm H.d1)]; exact H.words
 ·rw [e2, e5, eCl _ _ _ _ (Ne.symm H.d2)]; exact H.places
theorem ML.st1 (H : ML m M h) {x : Nat} (hx : x ≤ M.n) : ∃ h1, aI 1 (.p m (0 + 1)) (.i .i64 (Int.ofNat x)) h = some (aR, h1) ∧ ML m { M with fin := x } h1 ∧ Oth m M.wb M.pb h h1 := by
 obtain ⟨a, b⟩ := H.setM { M with fin := x } rfl rfl rfl rfl rfl hx H.made_lt
 exact ⟨_, by simp [aI, eA, cV, H.row, Kind.writable, fT, jY, DV.one, bLl], a, b⟩
theorem ML.st2 (H : ML m M h) {x : Nat} (hx : x < 2000000) : ∃ h1, aI 1 (.p m (0 + 2)) (.i .i64 (Int.ofNat x)) h = some (aR, h1) ∧ ML m { M with made := x } h1 ∧ Oth m M.wb M.pb h h1 := by
 obtain ⟨a, b⟩ := H.setM { M with made := x } rfl rfl rfl rfl rfl H.fin_le hx
 exact ⟨_, by simp [aI, eA, cV, H.row, Kind.writable, fT, jY, DV.one, bLl], a, b⟩
theorem ML.setW (H : ML m M h) (t : WT) : ML m { M with t := t } ⟨h.next, Tr.set (.row .ex (hY M.n t)) M.wb h.bl⟩ ∧ Oth m M.wb M.pb h ⟨h.next, Tr.set (.row .ex (hY M.n t)) M.wb h.bl⟩ := by
 refine ⟨⟨?_, by rw [eCm], ?_, H.n_lt, H.fin_le, H.made_lt, H.d1, H.d2, H.d3⟩, rfl, fun b _ h1 _ => eCl _ _ _ _ h1⟩
 ·rw [eCl _ _ _ _ H.d1]; exact H.row
 ·rw [eCl _ _ _ _ (Ne.symm H.d3)]; exact H.places
theorem ML.put' (H : ML m M h) {a : Nat} (ha : a < M.n) (w : Int) : ∃ h1, aI 1 (.p M.wb a) (.i .i64 w) h = some (aR, h1) ∧ ML m { M with t := M.t.set a w } h1 ∧ Oth m M.wb M.pb h h1 :=
 ⟨_, H.put ha w, (H.setW _).1, (H.setW _).2⟩
theorem bFf {a : Int} {es : List (DV × DV)} : ∀ (b : Int) {r r' : Option DV}, fZ (.int .i64) (.i .i64 a) es = some r → fZ (.int .i64) (.i .i64 b) es = some r' →
  fZ (.int .i64) (.i .i64 b) (rQ (.int .i64) (.i .i64 a) (.b true) es) = some (if b = a then some (.b true) else r') := by
 induction es with
 | nil =>
  intro b r r' h1 h2
  simp only [fZ, aV] at h2
  subst h2
  simp only [rQ, fZ, tK, if_true]
  by_cases e : b = a
  ·simp [e]
  ·have : (b == a) = false := by simpa using e
   simp [e, this]
 | cons e es ih =>
  intro b r r' h1 h2
  simp only [fZ] at h1 h2
  have hk : ∃ c, e.1 = .i .i64 c := by
   obtain ⟨x, y⟩ := e
   cases x <;> simp [tK] at h1
   rename_i k c
   cases k <;> simp at h1
   exact ⟨c, rfl⟩
  obtain ⟨c, hc⟩ := hk
  simp only [hc, tK, if_true] at h1 h2
  simp only [rQ, hc, tK, if_true]
  by_cases hac : a = c
  ·subst hac
   simp only [beq_self_eq_true] at h1 ⊢
   simp only [fZ, tK, if_true]
   by_cases hba : b = a
   ·subst hba; simp
   ·have : (b == a) = false := by simpa using hba
    simp only [this] at h2 ⊢
    rw [h2]; simp [hba]
  ·have hac' : (a == c) = false := by simpa using hac
   simp only [hac'] at h1 ⊢
   simp only [fZ, hc, tK, if_true]
   by_cases hbc : b = c
   ·subst hbc
    simp only [beq_self_eq_true, aV] at h2 ⊢
    rw [if_neg (fun e => hac e.symm), h2]
   ·have hbc' : (b == c) = false := by simpa using hbc
    simp only [hbc'] at h2 ⊢
    exact ih b h1 h2
theorem ML.place (H : ML m M h) {a : Nat} (ha : a < 16000000) : ∃ h1, dP (.int .i64) (.m M.pb) (.i .i64 (a : Int)) (.b true) h = some (aR, h1) ∧ ML m { M with pl := M.pl.set a 1 } h1 ∧ Oth m M.wb M.pb h h1 := by
 obtain ⟨es, h1, h2⟩ := H.places
 refine ⟨⟨h.next, Tr.set (.mp (rQ (.int .i64) (.i .i64 (a : Int)) (.b true) es)) M.pb h.bl⟩, by simp [dP, h1, h2 a], ⟨?_, ?_, ⟨_, by rw [eCm], fun b => ?_⟩, H.n_lt, H.fin_le, H.made_lt, H.d1, H.d2, H.d3⟩, rfl, fun b _ _ h1 => eCl _ _ _ _ h1⟩
 ·rw [eCl _ _ _ _ H.d2]; exact H.row
 ·rw [eCl _ _ _ _ H.d3]; exact H.words
 ·rw [bFf b (h2 a) (h2 b)]
  congr 1
  by_cases e : b = (a : Int)
  ·subst e
   simp [WT.get_set _ _ _ _ ha]
  ·rw [if_neg e]
   by_cases hb : 0 ≤ b
   ·have : b.toNat ≠ a := by omega
    rw [WT.get_set _ _ _ _ ha, if_neg this]
   ·simp [hb]
theorem cFb {h' h1 : Hp} {M' : MemV} (S : Sim false h h') (hM : qO m h = some M) (H1 : ML m M' h1) (e1 : M'.wb = M.wb) (e2 : M'.pb = M.pb) (e3 : M'.n = M.n) (O : Oth m M.wb M.pb h' h1) :
  Sim false ⟨h.next, Tr.set (bLl M') m (Tr.set (.mi M'.pl) M.pb (Tr.set (.big M.n M'.t) M.wb h.bl))⟩ h1 := by
 have H := fH hM S
 refine ⟨O.1.trans S.next, fun b o hb => ?_⟩
 by_cases b1 : b = m
 ·subst b1
  simp only [eCm, aV] at hb
  subst hb
  exact ⟨_, H1.row, rfl⟩
 ·simp only [eCl _ _ _ _ b1] at hb
  by_cases b2 : b = M.pb
  ·subst b2
   simp only [eCm, aV] at hb
   subst hb
   obtain ⟨es, p1, p2⟩ := H1.places
   rw [e2] at p1
   exact ⟨_, p1, by simp only [wC]; exact ⟨es, rfl, p2⟩⟩
  ·simp only [eCl _ _ _ _ b2] at hb
   by_cases b3 : b = M.wb
   ·subst b3
    simp only [eCm, aV] at hb
    subst hb
    have := H1.words
    rw [e1, e3] at this
    exact ⟨_, this, by simp [wC]⟩
   ·simp only [eCl _ _ _ _ b3] at hb
    rw [O.2 b b1 b3 b2]
    exact S.get b o hb
theorem bHm {h' h1 : Hp} {t : WT} (S : Sim false h h') (hM : qO m h = some M) (H1 : ML m { M with t := t } h1) (O : Oth m M.wb M.pb h' h1) (hm : h1.bl.get m = h'.bl.get m) (hp : h1.bl.get M.pb = h'.bl.get M.pb) :
  Sim false ⟨h.next, Tr.set (.big M.n t) M.wb h.bl⟩ h1 := by
 refine ⟨O.1.trans S.next, fun b o hb => ?_⟩
 by_cases b3 : b = M.wb
 ·subst b3
  simp only [eCm, aV] at hb
  subst hb
  exact ⟨_, H1.words, by simp [wC]⟩
 ·simp only [eCl _ _ _ _ b3] at hb
  by_cases b1 : b = m
  ·subst b1; rw [hm]; exact S.get _ o hb
  ·by_cases b2 : b = M.pb
   ·subst b2; rw [hp]; exact S.get _ o hb
   ·rw [O.2 b b1 b3 b2]
    exact S.get b o hb
end
theorem aNo {m : Pos} {M : MemV} {h h' : Hp} (S : Sim false h h') (hM : qO m h = some M) {a : Nat} (ha : a < M.n) (w : Int) {v : DV} {k : Hp} (hp : qQ M a w h = some (v, k)) :
  v = .i .i64 (Int.ofNat 0) ∧ ∃ h1, aI 1 (.p M.wb a) (.i .i64 w) h' = some (aR, h1) ∧ Sim false k h1 := by
 have H := fH hM S
 simp only [qQ, aV, bI] at hp
 obtain ⟨rfl, rfl⟩ := hp
 refine ⟨rfl, _, H.put ha w, bHm S hM (H.setW _).1 (H.setW _).2 ?_ ?_⟩
 ·exact eCl _ _ _ _ H.d1
 ·exact eCl _ _ _ _ (Ne.symm H.d3)
theorem cLb (n : Nat) (args : List DV) : SimP false (aOj args) (fI CF1 (n + 12) 84 args) := fun h h' S v k e => by
 obtain ⟨m, rest, M, rfl, hM, e⟩ := eN e
 split at e <;> (try (cases e; done))
 rename_i o i w _
 have H := fH hM S
 rw [cE 84 rfl, dSj]
 simp only [t47, aYk, g0, g1, g2, g3]
 rcases cDr H e with ⟨er, he, e1, e2⟩ | ⟨hd, a, h0, h1, h2, h3, e1, e2⟩
 ·simp only [aV, bI] at e1
  obtain ⟨rfl, rfl⟩ := e1
  refine ⟨h', ?_, S⟩
  simp only [e2 (n + 4), aU, cDn, bXr, aMw, aAy, cXc he, cX]
 ·have e0 : (Int.ofNat 0 != Int.ofNat 0) = false := rfl
  have h51 := dUr H (n + 5) o (show gG o M.pl < M.n by omega)
  rw [h3] at h51
  simp only [e2 (n + 4), aU, cDn, bXr, aMw, aAy, e0, dK, aZl, h51, gE]
  have hmod : Int.ofNat hd % 4 = Int.ofNat (Nat.mod hd 4) := rfl
  have h4 : sU (fI CF1 (n + 11)) (n + 11) (.p m 0) (.i .i64 w) (.i .i64 (a : Int)) h' = bnd (aI 1 (.p M.wb a) (.i .i64 w) h') fun _ h5 => some (.i .i64 (Int.ofNat 0), h5) := by
   simp only [sU, gQ, eE, aU, H.l0, H.ix h1]
  have hput : qQ M a w h = some (v, k) → ∃ h1, sU (fI CF1 (n + 11)) (n + 11) (.p m 0) (.i .i64 w) (.i .i64 (a : Int)) h' = some (v, h1) ∧ Sim false k h1 := by
   intro hp
   obtain ⟨rfl, h1', p1, p2⟩ := aNo S hM h1 w hp
   exact ⟨h1', by rw [h4, p1]; rfl, p2⟩
  rw [hmod]
  split at e1
  ·rename_i hz
   rw [hz]
   have : (Int.ofNat 0 == Int.ofNat 0) = true := rfl
   simp only [this, cX, dVe H, aU, tD]
   cases hmay : aGb w M.pl with
   | true =>
    rw [hmay] at e1
    simp only [cond_true] at e1
    simp only [Bool.not_true, dK]
    exact hput e1
   | false =>
    rw [hmay] at e1
    simp only [cond_false, aV, bI] at e1
    obtain ⟨rfl, rfl⟩ := e1
    exact ⟨h', rfl, S⟩
  ·rename_i hz
   rw [hz]
   have q0 : (Int.ofNat 2 == Int.ofNat 0) = false := rfl
   have q2 : (Int.ofNat 2 == Int.ofNat 2) = true := rfl
   simp only [q0, dK, aU, q2, cX, dV]
   cases w with
   | negSucc c =>
    simp only [aV, bI] at e1
    obtain ⟨rfl, rfl⟩ := e1
    have hlt : decide (Int.negSucc c < Int.ofNat 0) = true := decide_eq_true (Int.negSucc_lt_zero c)
    simp only [hlt, iY, aU, dU, cX]
    exact ⟨h', rfl, S⟩
   | ofNat c =>
    dsimp only at e1
    have hlt : decide (Int.ofNat c < Int.ofNat 0) = false := by simp
    simp only [hlt, nS, aU, eP, mN]
    rw [aUm] at e1
    by_cases hc : c ≤ 255
    ·simp only [hc, decide_true, cond_true] at e1
     have hgt : decide (Int.ofNat c > Int.ofNat 255) = false := by
      simp only [decide_eq_false_iff_not, Int.ofNat_eq_natCast]; omega
     simp only [hgt, dK]
     exact hput e1
    ·simp only [hc, decide_false, cond_false, aV, bI] at e1
     obtain ⟨rfl, rfl⟩ := e1
     have hgt : decide (Int.ofNat c > Int.ofNat 255) = true := by
      simp only [decide_eq_true_eq, Int.ofNat_eq_natCast]; omega
     simp only [hgt, cX]
     exact ⟨h', rfl, S⟩
  ·rename_i hz0 hz2
   have q0 : (Int.ofNat (Nat.mod hd 4) == Int.ofNat 0) = false := by
    simp only [beq_eq_false_iff_ne, ne_eq, Int.ofNat_eq_natCast]
    intro e; exact hz0 (by exact_mod_cast e)
   have q2 : (Int.ofNat (Nat.mod hd 4) == Int.ofNat 2) = false := by
    simp only [beq_eq_false_iff_ne, ne_eq, Int.ofNat_eq_natCast]
    intro e; exact hz2 (by exact_mod_cast e)
   simp only [q0, dK, aU, q2, dK]
   exact hput e1
theorem aJx (n : Nat) (args : List DV) : SimP false (kO args) (fI CF1 (n + 12) 80 args) := fun h h' S v k e => by
 obtain ⟨m, rest, M, rfl, hM, e⟩ := eN e
 split at e <;> (try (cases e; done))
 rename_i o c _
 have H := fH hM S
 rw [cE 80 rfl, dRe]
 simp only [t44, g0, g1, g2, sT H, aU, gE]
 rw [lD] at e
 by_cases h0 : gG o M.pl = 0
 ·simp only [h0, decide_true, Bool.true_or, cond_true, aV, bI] at e
  obtain ⟨rfl, rfl⟩ := e
  have : ((0 : Nat) : Int) = Int.ofNat 0 := rfl
  have q : (((gG o M.pl : Nat) : Int) == Int.ofNat 0) = true := by rw [h0]; rfl
  simp only [q, iY, aU, dU, cX]
  exact ⟨h', rfl, S⟩
 ·have q : (((gG o M.pl : Nat) : Int) == Int.ofNat 0) = false := by simpa using h0
  simp only [q, nS, aU, eP, dTi H, tD]
  cases hc : aBi c M.pl with
  | false =>
   rw [hc] at e
   simp only [h0, decide_false, Bool.not_false, Bool.false_or, cond_true, aV, bI] at e
   obtain ⟨rfl, rfl⟩ := e
   simp only [Bool.not_false, cX]
   exact ⟨h', rfl, S⟩
  | true =>
   rw [hc] at e
   simp only [h0, decide_false, Bool.not_true, Bool.false_or, cond_false] at e
   rw [yJ] at e
   by_cases ha : Nat.add (gG o M.pl) 1 < M.n
   ·simp only [ha, decide_true, cond_true] at e
    have ha' : gG o M.pl + 1 < M.n := ha
    have hn := H.n_lt
    simp only [Bool.not_true, dK, gQ, eE, aU, H.l0]
    rw [xL _ _ _ (by simp only [Int.ofNat_eq_natCast]; omega)]
    have ee : (gG o M.pl : Int) + Int.ofNat 1 = ((gG o M.pl + 1 : Nat) : Int) := by simp
    obtain ⟨rfl, h1', p1, p2⟩ := aNo S hM ha' c e
    simp only [aU, ee, H.ix ha', p1]
    exact ⟨h1', rfl, p2⟩
   ·simp only [ha, decide_false, cond_false] at e
    cases e
end Go.Dd

namespace Go.Dd
theorem dD (a b : Nat) (h : Hp) (hr : a + b < 4611686018427387904) : aD .add (.i .i64 (Int.ofNat a)) (.i .i64 (Int.ofNat b)) h = some (.i .i64 (Int.ofNat (a + b)), h) := by
 rw [xL _ _ _ (by simp only [Int.ofNat_eq_natCast]; omega)]
 rfl
theorem cYc (c f : Nat) (h : Hp) (hc : c ≤ 256) (hf : f ≤ 2) : aD .or (.i .i64 (4 * Int.ofNat c)) (.i .i64 (Int.ofNat f)) h = some (.i .i64 (Int.ofNat (c * 4 + f)), h) := by
 have hb : fB .or .i64 (4 * Int.ofNat c) (Int.ofNat f) = some (.i .i64 (Int.ofNat (c * 4 + f))) := by
  have := dDr c 2 f (by omega) (by omega)
  have e1 : ((c * 2 ^ 2 : Nat) : Int) = 4 * Int.ofNat c := by simp only [Int.ofNat_eq_natCast]; omega
  have e2 : ((c * 2 ^ 2 + f : Nat) : Int) = Int.ofNat (c * 4 + f) := rfl
  rw [e1, e2] at this
  rw [← this]; rfl
 simp only [aD, if_true, hb]
theorem aCb (t : WT) : ∀ (c a j : Nat), a + c < 16000000 → (oC t c a).get j = if a ≤ j ∧ j < a + c then 0 else t.get j
 | 0, a, j, h => by rw [if_neg (by omega)]; rfl
 | c + 1, a, j, h => by
  have e : oC t (c + 1) a = (oC t c (a + 1)).set a (.ofNat 0) := rfl
  rw [e, WT.get_set _ _ _ _ (by omega), aCb t c (a + 1) j (by omega)]
  by_cases h1 : j = a
  ·rw [if_pos h1, if_pos (by omega)]; rfl
  ·rw [if_neg h1]
   by_cases h2 : a + 1 ≤ j ∧ j < a + 1 + c
   ·rw [if_pos h2, if_pos (by omega)]
   ·rw [if_neg h2, if_neg (by omega)]
theorem bAm : ∀ (l vs : List DV), (∀ v ∈ l, v.one = true) → (∀ v ∈ vs, v.one = true) → vs.length ≤ l.length → ∃ l', jY l vs = some l'
 | l, [], _, _, _ => ⟨l, by cases l <;> rfl⟩
 | [], v :: vs, _, _, h => by simp at h
 | x :: l, v :: vs, h1, h2, h3 => by
  obtain ⟨l', e⟩ := bAm l vs (fun u hu => h1 u (by simp [hu])) (fun u hu => h2 u (by simp [hu])) (by simpa using h3)
  exact ⟨v :: l', by simp [jY, h1 x (by simp), h2 v (by simp), e]⟩
theorem aNr : ∀ (o : Nat) (l vs : List DV), (∀ v ∈ l, v.one = true) → (∀ v ∈ vs, v.one = true) → o + vs.length ≤ l.length → ∃ l', fT o l vs = some l'
 | 0, l, vs, h1, h2, h3 => by
  obtain ⟨l', e⟩ := bAm l vs h1 h2 (by omega)
  exact ⟨l', e⟩
 | o + 1, [], vs, h1, h2, h3 => by simp at h3
 | o + 1, x :: l, vs, h1, h2, h3 => by
  obtain ⟨l', e⟩ := aNr o l vs (fun u hu => h1 u (by simp [hu])) h2 (by simp at h3; omega)
  exact ⟨x :: l', by simp [fT, e]⟩
section
variable {m : Pos} {M : MemV} {h : Hp}
theorem bXo {n : Nat} {t : WT} : ∀ v ∈ hY n t, v.one = true := by
 intro v hv
 simp only [hY, List.mem_map] at hv
 obtain ⟨i, _, rfl⟩ := hv
 rfl
theorem ML.ix' (H : ML m M h) {a : Nat} (ha : a < M.n) : aE 1 (.l M.wb 0 M.n M.n) (.i .i64 (Int.ofNat a)) h = some (.p M.wb a, h) := H.ix ha
theorem zJ (c : Nat) : (List.replicate c [DV.i .i64 (Int.ofNat 0)]).flatten = List.replicate c (.i .i64 (Int.ofNat 0)) := by
 induction c with
 | zero => rfl
 | succ c ih => simp [List.replicate_succ, ih]
theorem ML.clear (H : ML m M h) {a c : Nat} (hac : a + c ≤ M.n) : ∃ v h1, cS 1 (.l M.wb 0 M.n M.n) (some (.i .i64 (Int.ofNat a))) (some (.i .i64 (Int.ofNat (a + c)))) h = some (v, h) ∧
  jP [.i .i64 (Int.ofNat 0)] v h = some (.t [], h1) ∧ ML m { M with t := oC M.t c a } h1 ∧ Oth m M.wb M.pb h h1 := by
 have hn := H.n_lt
 have e1 : fS (.i .i64 (Int.ofNat (a + c))) M.n = some (a + c) := by
  have : (0 : Int) ≤ Int.ofNat (a + c) ∧ Int.ofNat (a + c) ≤ (M.n : Int) := by simp only [Int.ofNat_eq_natCast]; omega
  simp only [fS, this, and_self, if_true]
  rfl
 have e2 : fS (.i .i64 (Int.ofNat a)) (a + c) = some a := by
  have : (0 : Int) ≤ Int.ofNat a ∧ Int.ofNat a ≤ ((a + c : Nat) : Int) := by simp only [Int.ofNat_eq_natCast]; omega
  simp only [fS, this, and_self, if_true]
  rfl
 refine ⟨.l M.wb (if M.n = a then 0 else 0 + a * 1) (a + c - a) (M.n - a), ?_⟩
 have hs : cS 1 (.l M.wb 0 M.n M.n) (some (.i .i64 (Int.ofNat a))) (some (.i .i64 (Int.ofNat (a + c)))) h = some (.l M.wb (if M.n = a then 0 else 0 + a * 1) (a + c - a) (M.n - a), h) := by
  simp only [cS, hiD, loD, e1, e2, H.words]
 by_cases hc : c = 0
 ·subst hc
  refine ⟨h, hs, by simp [jP], H, Oth.refl _ _ _ _⟩
 ·obtain ⟨l', hl'⟩ := aNr a (hY M.n M.t) (List.replicate c (.i .i64 (Int.ofNat 0))) bXo (fun v hv => by rw [List.eq_of_mem_replicate hv]; rfl) (by simp [hY]; omega)
  obtain ⟨p1, p2, p3, p4, p5⟩ := jL _ _ _ _ hl'
  have hll : l' = hY M.n (oC M.t c a) := by
   apply List.ext_getElem?
   intro j
   by_cases hj : j < M.n
   ·rw [kR hj, aCb _ _ _ _ (by omega)]
    by_cases hin : a ≤ j ∧ j < a + c
    ·rw [if_pos hin]
     obtain ⟨q1, _⟩ := p4 (j - a) (.i .i64 (Int.ofNat 0)) (by rw [List.getElem?_replicate, if_pos (by omega)])
     rw [show a + (j - a) = j from by omega] at q1
     exact q1
    ·rw [if_neg hin, p5 j (by rw [List.length_replicate]; omega), kR hj]
   ·rw [List.getElem?_eq_none (by rw [p1]; simp [hY]; omega), List.getElem?_eq_none (by simp [hY]; omega)]
  refine ⟨⟨h.next, Tr.set (.row .ex (hY M.n (oC M.t c a))) M.wb h.bl⟩, hs, ?_, (H.setW _).1, (H.setW _).2⟩
  have hna : M.n ≠ a := by omega
  rw [if_neg hna]
  simp only [jP, show a + c - a = c from by omega, hc, if_false, zJ, cV, H.words, Kind.writable, if_true, Nat.zero_add, Nat.mul_one, hl', hll]
end
noncomputable def aYz (rec : FuncId → List DV → Hp → aG) (x0 x3 v26 : DV) (h0 : Hp) : aG :=
 bnd (aY x0 h0) fun v64 h64 =>
 bnd (aB 1 v64 h64) fun v65 h65 =>
 bnd (aA v65 h65) fun v66 h66 =>
 bnd (aD .add x3 (.i .i64 (Int.ofNat 3)) h66) fun v67 h67 =>
 bnd (aD .add v66 v67 h67) fun v68 h68 =>
 bnd (aY x0 h68) fun v69 h69 =>
 bnd (aB 1 v69 h69) fun v70 h70 =>
 bnd (aI 1 v70 v68 h70) fun _ h71 =>
 bnd (aY x0 h71) fun v72 h72 =>
 bnd (aB 3 v72 h72) fun v73 h73 =>
 bnd (aA v73 h73) fun v74 h74 =>
 bnd (dP (.int .i64) v74 v26 (.b true) h74) fun _ h75 =>
 bnd (rec 127 [v26] h75) fun v76 h76 =>
 bnd (aC 0 v76 h76) fun v77 h77 =>
 bnd (aC 1 v76 h77) fun v78 h78 =>
 some (.t [v77, (.i .i64 (Int.ofNat 0))], h78)
noncomputable def aYp (rec : FuncId → List DV → Hp → aG) (x0 x3 v26 : DV) (h0 : Hp) : aG :=
 bnd (aY x0 h0) fun v56 h56 =>
 bnd (aB 0 v56 h56) fun v57 h57 =>
 bnd (aA v57 h57) fun v58 h58 =>
 bnd (aD .add v26 (.i .i64 (Int.ofNat 3)) h58) fun v59 h59 =>
 bnd (aD .add v26 (.i .i64 (Int.ofNat 3)) h59) fun v60 h60 =>
 bnd (aD .add v60 x3 h60) fun v61 h61 =>
 bnd (cS 1 v58 (some v59) (some v61) h61) fun v62 h62 =>
 bnd (jP [(.i .i64 (Int.ofNat 0))] v62 h62) fun _ h63 =>
 aYz rec x0 x3 v26 h63
noncomputable def bBj (rec : FuncId → List DV → Hp → aG) (x0 x1 x2 x3 v26 : DV) (h0 : Hp) : aG :=
 bnd (aY x0 h0) fun v34 h34 =>
 bnd (aB 0 v34 h34) fun v35 h35 =>
 bnd (aA v35 h35) fun v36 h36 =>
 bnd (aY x0 h36) fun v37 h37 =>
 bnd (aB 0 v37 h37) fun v38 h38 =>
 bnd (aA v38 h38) fun v39 h39 =>
 bnd (aD .add v26 (.i .i64 (Int.ofNat 1)) h39) fun v40 h40 =>
 bnd (aY x0 h40) fun v41 h41 =>
 bnd (aB 0 v41 h41) fun v42 h42 =>
 bnd (aA v42 h42) fun v43 h43 =>
 bnd (aD .add v26 (.i .i64 (Int.ofNat 2)) h43) fun v44 h44 =>
 bnd (dN .shl x3 (.i .u64 (Int.ofNat 2)) h44) fun v45 h45 =>
 bnd (aD .or v45 x2 h45) fun v46 h46 =>
 bnd (aY x0 h46) fun v47 h47 =>
 bnd (aB 2 v47 h47) fun v48 h48 =>
 bnd (aA v48 h48) fun v49 h49 =>
 bnd (aE 1 v36 v26 h49) fun v50 h50 =>
 bnd (aI 1 v50 v46 h50) fun v51 h51 =>
 bnd (aE 1 v39 v40 h51) fun v52 h52 =>
 bnd (aI 1 v52 x1 h52) fun v53 h53 =>
 bnd (aE 1 v43 v44 h53) fun v54 h54 =>
 bnd (aI 1 v54 v49 h54) fun v55 h55 =>
 aYp rec x0 x3 v26 h55
noncomputable def aEj (rec : FuncId → List DV → Hp → aG) (x0 x1 x2 x3 : DV) (h0 : Hp) : aG :=
 bnd (aY x0 h0) fun v24 h24 =>
 bnd (aB 1 v24 h24) fun v25 h25 =>
 bnd (aA v25 h25) fun v26 h26 =>
 bnd (aY x0 h26) fun v27 h27 =>
 bnd (aB 2 v27 h27) fun v28 h28 =>
 bnd (aA v28 h28) fun v29 h29 =>
 bnd (aD .add v29 (.i .i64 (Int.ofNat 1)) h29) fun v30 h30 =>
 bnd (aY x0 h30) fun v31 h31 =>
 bnd (aB 2 v31 h31) fun v32 h32 =>
 bnd (aI 1 v32 v30 h32) fun _ h33 =>
 bBj rec x0 x1 x2 x3 v26 h33
theorem dJp (rec : FuncId → List DV → Hp → aG) (n : Nat) (x0 x1 x2 x3 : DV) (h0 : Hp) : t30 rec n x0 x1 x2 x3 h0 = (
 bnd (rec 125 [x0, x1] h0) fun v1 h1 =>
 bnd (hZ .not v1 h1) fun v2 h2 =>
 bnd (gD v2 false (some (x2, h2)) h2) fun v3 h3 =>
 bnd (gD v2 false (aD .lss v3 (.i .i64 (Int.ofNat 0)) h3) h3) fun v4 h4 =>
 bnd (aN v2 (.b true) v4 h4) fun v5 h5 =>
 bnd (gD v5 false (some (x2, h5)) h5) fun v6 h6 =>
 bnd (gD v5 false (aD .gtr v6 (.i .i64 (Int.ofNat 2)) h6) h6) fun v7 h7 =>
 bnd (aN v5 (.b true) v7 h7) fun v8 h8 =>
 bnd (gD v8 false (some (x3, h8)) h8) fun v9 h9 =>
 bnd (gD v8 false (aD .lss v9 (.i .i64 (Int.ofNat 0)) h9) h9) fun v10 h10 =>
 bnd (aN v8 (.b true) v10 h10) fun v11 h11 =>
 bnd (gD v11 false (some (x3, h11)) h11) fun v12 h12 =>
 bnd (gD v11 false (aD .gtr v12 (.i .i64 (Int.ofNat 256)) h12) h12) fun v13 h13 =>
 bnd (aN v11 (.b true) v13 h13) fun v14 h14 =>
 aT v14 (
 some (.t [(.i .i64 (Int.ofNat 0)), (.i .i64 (Int.ofNat 1))], h14)) (
 bnd (rec 126 [x0] h14) fun v15 h15 =>
 bnd (aD .add x3 (.i .i64 (Int.ofNat 3)) h15) fun v16 h16 =>
 bnd (aD .lss v15 v16 h16) fun v17 h17 =>
 bnd (gD v17 false (some (x0, h17)) h17) fun v18 h18 =>
 bnd (gD v17 false (aY v18 h18) h18) fun v19 h19 =>
 bnd (gD v17 false (aB 2 v19 h19) h19) fun v20 h20 =>
 bnd (gD v17 false (aA v20 h20) h20) fun v21 h21 =>
 bnd (gD v17 false (aD .geq v21 (.i .i64 (Int.ofNat 1099511627776)) h21) h21) fun v22 h22 =>
 bnd (aN v17 (.b true) v22 h22) fun v23 h23 =>
 aT v23 (
 some (.t [(.i .i64 (Int.ofNat 0)), (.i .i64 (Int.ofNat 4))], h23)) (
 aEj rec x0 x1 x2 x3 h23))) := rfl
section
variable {m : Pos} {M : MemV} {h : Hp}
theorem bZj (H : ML m M h) {c : Nat} (hr : M.fin + (c + 3) ≤ M.n) (ha : 3 ≤ M.fin ∧ M.fin ≤ 131072) (n : Nat) :
  ∃ h1, aYz (fI CF1 (n + 11)) (.p m 0) (.i .i64 (Int.ofNat c)) (.i .i64 (Int.ofNat M.fin)) h = some (.t [.i .i64 (Int.ofNat (Nat.mul M.fin 2)), .i .i64 (Int.ofNat 0)], h1) ∧
   ML m { M with fin := M.fin + (c + 3), pl := M.pl.set M.fin 1 } h1 ∧ Oth m M.wb M.pb h h1 := by
 have hn := H.n_lt
 simp only [aYz, gQ, eE, aU, H.l1, dD c 3 _ (show c + 3 < 4611686018427387904 by omega), dD M.fin (c + 3) _ (show M.fin + (c + 3) < 4611686018427387904 by omega)]
 obtain ⟨h6, s6, H6, O6⟩ := H.st1 (x := M.fin + (c + 3)) hr
 simp only [s6, aU, H6.l3]
 obtain ⟨h7, s7, H7, O7⟩ := H6.place (a := M.fin) (by omega)
 rw [show dP (.int .i64) (.m M.pb) (.i .i64 (Int.ofNat M.fin)) (.b true) h6 = some (aR, h7) from s7]
 have hp : 3 ≤ Int.ofNat M.fin ∧ Int.ofNat M.fin ≤ 131072 := by simp only [Int.ofNat_eq_natCast]; omega
 have e2 : 2 * Int.ofNat M.fin = Int.ofNat (Nat.mul M.fin 2) := by
  have : Nat.mul M.fin 2 = M.fin * 2 := rfl
  rw [this]; simp only [Int.ofNat_eq_natCast]; omega
 have h75 := dZv (n + 9) (Int.ofNat M.fin) h7
 rw [if_pos hp, e2] at h75
 simp only [aU, h75, cDn, bXr]
 exact ⟨h7, rfl, H7, O6.trans O7⟩
theorem bVj (H : ML m M h) {c : Nat} (hr : M.fin + (c + 3) ≤ M.n) (n : Nat) :
  ∃ h1, aYp (fI CF1 (n + 11)) (.p m 0) (.i .i64 (Int.ofNat c)) (.i .i64 (Int.ofNat M.fin)) h = aYz (fI CF1 (n + 11)) (.p m 0) (.i .i64 (Int.ofNat c)) (.i .i64 (Int.ofNat M.fin)) h1 ∧
   ML m { M with t := oC M.t c (M.fin + 3) } h1 ∧ Oth m M.wb M.pb h h1 := by
 have hn := H.n_lt
 obtain ⟨vv, h5, s5, s5', H5, O5⟩ := H.clear (a := M.fin + 3) (c := c) (show M.fin + 3 + c ≤ M.n by omega)
 refine ⟨h5, ?_, H5, O5⟩
 simp only [aYp, gQ, eE, aU, H.l0, dD M.fin 3 _ (show M.fin + 3 < 4611686018427387904 by omega), dD (M.fin + 3) c _ (show M.fin + 3 + c < 4611686018427387904 by omega), s5, s5']
theorem cBj (H : ML m M h) {cls : Int} {c f : Nat} (hcc : c ≤ 256) (hf : f ≤ 2) (hr : M.fin + (c + 3) ≤ M.n) (n : Nat) :
  ∃ h1, bBj (fI CF1 (n + 11)) (.p m 0) (.i .i64 cls) (.i .i64 (Int.ofNat f)) (.i .i64 (Int.ofNat c)) (.i .i64 (Int.ofNat M.fin)) h = aYp (fI CF1 (n + 11)) (.p m 0) (.i .i64 (Int.ofNat c)) (.i .i64 (Int.ofNat M.fin)) h1 ∧
   ML m { M with t := ((M.t.set M.fin (Int.ofNat (c * 4 + f))).set (M.fin + 1) cls).set (M.fin + 2) (Int.ofNat M.made) } h1 ∧ Oth m M.wb M.pb h h1 := by
 have hn := H.n_lt
 obtain ⟨h2, s2, H2, O2⟩ := H.put' (a := M.fin) (show M.fin < M.n by omega) (Int.ofNat (c * 4 + f))
 obtain ⟨h3, s3, H3, O3⟩ := H2.put' (a := M.fin + 1) (show M.fin + 1 < M.n by omega) cls
 obtain ⟨h4, s4, H4, O4⟩ := H3.put' (a := M.fin + 2) (show M.fin + 2 < M.n by omega) (Int.ofNat M.made)
 have i1 := H.ix' (a := M.fin) (by omega)
 have i2 : aE 1 (.l M.wb 0 M.n M.n) (.i .i64 (Int.ofNat (M.fin + 1))) h2 = some (.p M.wb (M.fin + 1), h2) := H2.ix' (a := M.fin + 1) (show M.fin + 1 < M.n by omega)
 have i3 : aE 1 (.l M.wb 0 M.n M.n) (.i .i64 (Int.ofNat (M.fin + 2))) h3 = some (.p M.wb (M.fin + 2), h3) := H3.ix' (a := M.fin + 2) (show M.fin + 2 < M.n by omega)
 have s3' : aI 1 (.p M.wb (M.fin + 1)) (.i .i64 cls) h2 = some (aR, h3) := s3
 have s4' : aI 1 (.p M.wb (M.fin + 2)) (.i .i64 (Int.ofNat M.made)) h3 = some (aR, h4) := s4
 refine ⟨h4, ?_, H4, (O2.trans O3).trans O4⟩
 simp only [bBj, gQ, eE, aU, H.l0, H.l2, dD M.fin 1 _ (show M.fin + 1 < 4611686018427387904 by omega), dD M.fin 2 _ (show M.fin + 2 < 4611686018427387904 by omega),
  cJu (Int.ofNat c) _ (show -2305843009213693952 ≤ Int.ofNat c ∧ Int.ofNat c ≤ 2305843009213693951 by simp only [Int.ofNat_eq_natCast]; omega), cYc c f _ hcc hf, i1, s2, i2, s3', i3, s4']
end
theorem bIv {m : Pos} {M : MemV} {h h' : Hp} (S : Sim false h h') (hM : qO m h = some M) {cls : Int} {c f : Nat} (hcc : c ≤ 256) (hf : f ≤ 2) (hr : M.fin + (c + 3) ≤ M.n) (ha : 3 ≤ M.fin ∧ M.fin ≤ 131072) (n : Nat) :
  ∃ h1, aEj (fI CF1 (n + 11)) (.p m 0) (.i .i64 cls) (.i .i64 (Int.ofNat f)) (.i .i64 (Int.ofNat c)) h' = some (.t [.i .i64 (Int.ofNat (Nat.mul M.fin 2)), .i .i64 (Int.ofNat 0)], h1) ∧
   Sim false ⟨h.next, Tr.set (.row .ex [.l M.wb 0 M.n M.n, .i .i64 (Int.ofNat (M.fin + (c + 3))), .i .i64 (Int.ofNat (M.made + 1)), .m M.pb]) m
    (Tr.set (.mi (M.pl.set M.fin 1)) M.pb
     (Tr.set (.big M.n (oC (((M.t.set M.fin (Int.ofNat (c * 4 + f))).set (M.fin + 1) cls).set (M.fin + 2) (Int.ofNat (M.made + 1))) c (M.fin + 3))) M.wb h.bl))⟩ h1 := by
 have H := fH hM S
 have hmd : M.made < 1000000 := (rC hM).2.2.2.2.2
 obtain ⟨h1, s1, H1, O1⟩ := H.st2 (x := M.made + 1) (by omega)
 obtain ⟨h2, s2, H2, O2⟩ := cBj H1 (cls := cls) hcc hf hr n
 obtain ⟨h3, s3, H3, O3⟩ := bVj H2 hr n
 obtain ⟨h4, s4, H4, O4⟩ := bZj H3 hr ha n
 have e : aEj (fI CF1 (n + 11)) (.p m 0) (.i .i64 cls) (.i .i64 (Int.ofNat f)) (.i .i64 (Int.ofNat c)) h' = bBj (fI CF1 (n + 11)) (.p m 0) (.i .i64 cls) (.i .i64 (Int.ofNat f)) (.i .i64 (Int.ofNat c)) (.i .i64 (Int.ofNat M.fin)) h1 := by
  simp only [aEj, gQ, eE, aU, H.l1, H.l2, dD M.made 1 _ (show M.made + 1 < 4611686018427387904 by omega), s1]
 refine ⟨h4, e.trans (s2.trans (s3.trans s4)), ?_⟩
 dsimp only at H4
 have H5 : ML m ⟨M.wb, M.n, M.fin + (c + 3), M.made + 1, M.pb, oC (((M.t.set M.fin (Int.ofNat (c * 4 + f))).set (M.fin + 1) cls).set (M.fin + 2) (Int.ofNat (M.made + 1))) c (M.fin + 3), M.pl.set M.fin 1⟩ h4 := H4
 exact cFb S hM H5 rfl rfl rfl (((O1.trans O2).trans O3).trans O4)
theorem bOh (n : Nat) (args : List DV) : SimP false (tI args) (fI CF1 (n + 12) 77 args) := fun h h' S v k e => by
 unfold tI at e
 split at e <;> (try (cases e; done))
 rename_i m cls fmt cnt
 split at e <;> (try (cases e; done))
 rename_i M hM
 have H := fH hM S
 have hn := H.n_lt
 have hfn := H.fin_le
 rw [cE 77 rfl, dTu, dJp]
 simp only [g0, g1, g2, g3, dTi H, aU, tD]
 have herr : ∀ er : Nat, err er h = some (v, k) → ∃ h1, (some (.t [.i .i64 (Int.ofNat 0), .i .i64 (Int.ofNat er)], h') : aG) = some (v, h1) ∧ Sim false k h1 := by
  intro er he
  simp only [err, aV, bI] at he
  obtain ⟨rfl, rfl⟩ := he
  exact ⟨h', rfl, S⟩
 cases hc : aBi cls M.pl with
 | false =>
  rw [hc] at e
  simp only [Bool.not_false, cond_true] at e
  simp only [Bool.not_false, iY, aU, dU, cX]
  exact herr 1 e
 | true =>
  rw [hc] at e
  simp only [Bool.not_true, cond_false] at e
  simp only [Bool.not_true, nS, aU, eP, dV]
  cases fmt with
  | negSucc f =>
   have hlt : decide (Int.negSucc f < Int.ofNat 0) = true := decide_eq_true (Int.negSucc_lt_zero f)
   simp only [hlt, iY, aU, dU, cX]
   exact herr 1 e
  | ofNat f =>
   have hlt : decide (Int.ofNat f < Int.ofNat 0) = false := by simp
   simp only [hlt, nS, aU, eP, mN]
   by_cases hf : f ≤ 2
   ·have hgt : decide (Int.ofNat f > Int.ofNat 2) = false := by simp only [decide_eq_false_iff_not, Int.ofNat_eq_natCast]; omega
    simp only [hgt, nS, aU, eP, dV]
    cases cnt with
    | negSucc c =>
     have hlt : decide (Int.negSucc c < Int.ofNat 0) = true := decide_eq_true (Int.negSucc_lt_zero c)
     simp only [hlt, iY, aU, dU, cX]
     exact herr 1 e
    | ofNat c =>
     have hlt : decide (Int.ofNat c < Int.ofNat 0) = false := by simp
     simp only [hlt, nS, aU, eP, mN]
     dsimp only at e
     simp only [aUm, yJ, hf, decide_true, Bool.true_and] at e
     by_cases hcc : c ≤ 256
     ·have hgt : decide (Int.ofNat c > Int.ofNat 256) = false := by simp only [decide_eq_false_iff_not, Int.ofNat_eq_natCast]; omega
      simp only [hgt, dK, dPj H, aU, dD c 3 _ (by omega), dV]
      simp only [hcc, decide_true, cond_true] at e
      have hsub : Nat.sub M.n M.fin = M.n - M.fin := rfl
      have hadd : Nat.add c 3 = c + 3 := rfl
      rw [hsub, hadd] at e
      by_cases hr : M.n - M.fin < c + 3
      ·simp only [hr, decide_true, cond_true] at e
       have hl : decide (Int.ofNat (M.n - M.fin) < Int.ofNat (c + 3)) = true := by simp only [decide_eq_true_eq, Int.ofNat_eq_natCast]; omega
       simp only [hl, iY, aU, dU, cX]
       exact herr 4 e
      ·simp only [hr, decide_false, cond_false] at e
       have hl : decide (Int.ofNat (M.n - M.fin) < Int.ofNat (c + 3)) = false := by simp only [decide_eq_false_iff_not, Int.ofNat_eq_natCast]; omega
       simp only [hl, nS, aU, eP, gQ, eE, H.l2, oM]
       have hg : decide (Int.ofNat M.made ≥ Int.ofNat 1099511627776) = false := by
        have hmd : M.made < 1000000 := (rC hM).2.2.2.2.2
        simp only [decide_eq_false_iff_not, Int.ofNat_eq_natCast]; omega
       simp only [hg, dK]
       by_cases ha : 3 ≤ M.fin ∧ M.fin ≤ 131072
       ·simp only [ha.1, ha.2, decide_true, Bool.and_self, cond_true, aV, bI] at e
        obtain ⟨rfl, rfl⟩ := e
        exact bIv S hM hcc hf (by omega) ha n
       ·have : (decide (3 ≤ M.fin) && decide (M.fin ≤ 131072)) = false := by
         rw [← Bool.not_eq_true]
         simpa using ha
        rw [this] at e
        simp only [cond_false] at e
        cases e
     ·have hgt : decide (Int.ofNat c > Int.ofNat 256) = true := by simp only [decide_eq_true_eq, Int.ofNat_eq_natCast]; omega
      simp only [hcc, decide_false, cond_false] at e
      simp only [hgt, cX]
      exact herr 1 e
   ·have hgt : decide (Int.ofNat f > Int.ofNat 2) = true := by simp only [decide_eq_true_eq, Int.ofNat_eq_natCast]; omega
    simp only [hgt, iY, aU, dU, cX]
    cases cnt with
    | negSucc c => exact herr 1 e
    | ofNat c =>
     dsimp only at e
     simp only [aUm, hf, decide_false, Bool.false_and, cond_false] at e
     exact herr 1 e
theorem aSn (n : Nat) (args : List DV) : SimP false (aPo args) (fI CF1 (n + 12) 76 args) := fun h h' S v k e => by
 unfold aPo at e
 split at e <;> (try (cases e; done))
 ·rename_i w
  rw [cE 76 rfl, cVs]
  simp only [t41, g0, dV, aU]
  simp only [yJ] at e
  by_cases h1 : w < 16
  ·simp only [h1, decide_true, Bool.true_or, cond_true, aV, bI] at e
   obtain ⟨rfl, rfl⟩ := e
   have hl : decide (Int.ofNat w < Int.ofNat 16) = true := by simp only [decide_eq_true_eq, Int.ofNat_eq_natCast]; omega
   simp only [hl, iY, aU, dU, cX]
   exact ⟨h', rfl, S⟩
  ·have hl : decide (Int.ofNat w < Int.ofNat 16) = false := by simp only [decide_eq_false_iff_not, Int.ofNat_eq_natCast]; omega
   simp only [hl, nS, aU, eP, mN]
   by_cases h2 : 131072 < w
   ·simp only [h2, decide_true, Bool.or_true, cond_true, aV, bI] at e
    obtain ⟨rfl, rfl⟩ := e
    have hg : decide (Int.ofNat w > Int.ofNat 131072) = true := by simp only [decide_eq_true_eq, Int.ofNat_eq_natCast]; omega
    simp only [hg, cX]
    exact ⟨h', rfl, S⟩
   ·simp only [h1, h2, decide_false, Bool.or_self, cond_false, aV, bI] at e
    obtain ⟨rfl, rfl⟩ := e
    have hg : decide (Int.ofNat w > Int.ofNat 131072) = false := by simp only [decide_eq_false_iff_not, Int.ofNat_eq_natCast]; omega
    simp only [hg, dK]
    have hms : bN 1 8 [.i .i64 (Int.ofNat 0)] (.i .i64 (Int.ofNat w)) (.i .i64 (Int.ofNat w)) h' = some (.l h'.next 0 w w, ⟨h'.next.succ, Tr.set (.row .ex (hY w .e)) h'.next h'.bl⟩) := by
     have hc : (0 : Int) ≤ Int.ofNat w ∧ Int.ofNat w ≤ Int.ofNat w ∧ (Int.ofNat w).toNat * 8 ≤ 2 ^ 30 ∧ (Int.ofNat w).toNat * 1 ≤ 2 ^ 24 ∧ Int.ofNat w < 2 ^ 32 := by
      have : (Int.ofNat w).toNat = w := rfl
      rw [this]
      simp only [Int.ofNat_eq_natCast]
      omega
     have hz : (List.replicate (Int.ofNat w).toNat [DV.i .i64 (Int.ofNat 0)]).flatten = hY w .e := by
      have : (Int.ofNat w).toNat = w := rfl
      rw [this, zJ]
      apply List.ext_getElem?
      intro j
      by_cases hj : j < w
      ·rw [kR hj, List.getElem?_replicate, if_pos hj]; rfl
      ·rw [List.getElem?_replicate, if_neg hj, List.getElem?_eq_none (by simp [hY]; omega)]
     simp only [bN, hc, and_self, if_true, hz]
     rfl
    simp only [hms, aU, dS]
    have hb : ∀ x y h, bL [.l0, .i .i64 (Int.ofNat 0), .i .i64 (Int.ofNat 0), .m0] [(0, 1, .l x 0 w w), (1, 1, .i .i64 (Int.ofNat 3)), (3, 1, .m y)] h = some (.a [.l x 0 w w, .i .i64 (Int.ofNat 3), .i .i64 (Int.ofNat 0), .m y], h) := fun x y h => rfl
    simp only [hb, aU, cH, eA, bQ]
    have hnx := S.next
    refine ⟨_, by rw [hnx]; rfl, ?_⟩
    refine ⟨rfl, fun b o hb => ?_⟩
    show ∃ o', (Tr.set _ (cB 2 h.next) (Tr.set _ (cB 1 h.next) (Tr.set _ h.next h'.bl))).get b = some o' ∧ _
    by_cases b1 : b = cB 2 h.next
    ·subst b1
     simp only [eCm, aV] at hb ⊢
     subst hb
     exact ⟨_, rfl, rfl⟩
    ·simp only [eCl _ _ _ _ b1] at hb ⊢
     by_cases b2 : b = cB 1 h.next
     ·subst b2
      simp only [eCm, aV] at hb ⊢
      subst hb
      exact ⟨_, rfl, by simp only [wC]; exact ⟨[], rfl, fun a => by simp [fZ, WT.get_e]⟩⟩
     ·simp only [eCl _ _ _ _ b2] at hb ⊢
      by_cases b3 : b = h.next
      ·subst b3
       simp only [eCm, aV] at hb ⊢
       subst hb
       exact ⟨_, rfl, by simp [wC]⟩
      ·simp only [eCl _ _ _ _ b3] at hb ⊢
       exact S.get b o hb
 ·rename_i w
  simp only [aV, bI] at e
  obtain ⟨rfl, rfl⟩ := e
  rw [cE 76 rfl, cVs]
  have hl : decide (Int.negSucc w < Int.ofNat 16) = true := by simp only [decide_eq_true_eq]; have := Int.negSucc_lt_zero w; simp only [Int.ofNat_eq_natCast]; omega
  simp only [t41, g0, dV, aU, hl, iY, dU, cX]
  exact ⟨h', rfl, S⟩
end Go.Dd

namespace Go.Dd
theorem cEy {gg : Bool} (args : List DV) : SimP gg (aOq args) (aOq args) := fun h h' S v k e => by
 unfold aOq at e ⊢
 split at e <;> (try (cases e; done))
 rename_i l c
 cases hc : Nat.blt c 256 with
 | false => rw [hc] at e; cases e
 | true =>
  rw [hc] at e
  simp only [cond_true, aV, bI] at e
  obtain ⟨rfl, rfl⟩ := e
  exact ⟨h', rfl, S⟩
theorem aSh {gg : Bool} (q : Pos) (l1 : DV) (cs : List DV) : SimP gg (jQ q l1 cs) (jQ q l1 cs) := fun h h' S v k e => by
 unfold jQ at e ⊢
 split at e <;> (try (cases e; done))
 ·simp only [aV, bI] at e ⊢
  obtain ⟨rfl, rfl⟩ := e
  exact ⟨_, ⟨by rw [S.next], rfl⟩, by rw [S.next]; exact S.setR _ _ _ _⟩
 ·rename_i b o len cap
  cases hc : (Nat.ble cap len && !(mI b q)) with
  | false => rw [hc] at e; cases e
  | true =>
   rw [hc] at e
   simp only [cnd] at e ⊢
   split at e <;> (try (cases e; done))
   rename_i es l old hb hold
   rw [S.row hb, S.cellsAt hold]
   dsimp only
   split at e <;> (try (cases e; done))
   rename_i hr
   rw [if_pos hr]
   simp only [aV, bI] at e ⊢
   obtain ⟨rfl, rfl⟩ := e
   refine ⟨_, ⟨by rw [S.next], rfl⟩, ?_⟩
   rw [S.next]
   exact (S.setR .sp (bR o l) b h.next).setR _ _ _ _
theorem aTl {gg : Bool} (c q : Pos) : SimP gg (sP c q) (sP c q) := by
 intro h h' S
 unfold sP
 refine eCt (lC _ h h' S) fun l1 _ _ _ => ?_
 refine eCt (eCo (mE l1) h h' S) fun n _ _ _ => ?_
 refine eCt (kW _ _ h h' S) fun x _ _ _ => ?_
 split
 ·refine eDn id ?_
  have S2 : Sim gg ⟨h.next.succ.succ, h.bl⟩ ⟨h'.next.succ.succ, h'.bl⟩ := ⟨by show h'.next.succ.succ = _; rw [S.next], S.get⟩
  refine eCt (aSh _ _ _ _ _ S2) fun l2 h3 h3' T3 => ?_
  exact eCt (lG _ _ _ h3 h3' T3) fun u h4 h4' T4 => SimR.some T4 _
 ·exact SimR.none _
theorem cHe {gg : Bool} (n : Nat) (f : FuncId) (args : List DV) : SimP gg (lL CF0 n f args) (lL CF0 n f args) :=
 bZn (gg := gg) (P := Go.Proofs.Tryz.prog) (I2 := fun _ => none) (I1 := fun _ => none) 0 (fun _ _ => rfl) (fun _ _ h => by cases h) n f args
theorem cOa {gg : Bool} (args : List DV) : SimP gg (aLz args) (aLz args) := by
 unfold aLz
 intro h h' S
 split
 ·rename_i c lit
  dsimp only
  rw [show h'.next = h.next from S.next]
  refine eCt (aEp _ h h' S) fun b h1 h1' T1 => ?_
  refine eCt (lC _ h1 h1' T1) fun ls h2 h2' T2 => ?_
  refine eCt (cHe _ _ _ h2 h2' T2) fun i h3 h3' T3 => ?_
  refine eCt (eCo (xQ _ _ _) h3 h3' T3) fun t h4 h4' T4 => ?_
  exact aIw (aTl _ _ h4 h4' T4) (SimR.some T4 _)
 ·exact SimR.none _
theorem aCk {C : Cfg} {rec : FuncId → List DV → Hp → aG} {g : FuncId} (h : C.I g = none) (args : List DV) : cA C rec g args = rec g args := by
 funext k
 unfold cA
 rw [h]
theorem bTl {gg : Bool} (args : List DV) : SimP gg (aCj args) (aCj args) := fun h h' S v k e => by
 unfold aCj at e ⊢
 split at e <;> (try (cases e; done))
 rename_i s c new
 cases hc : Nat.blt c 256 with
 | false => rw [hc] at e; cases e
 | true =>
 rw [hc] at e
 cases hc2 : Nat.ble s.length 4000000000 with
 | false => rw [hc2] at e; cases e
 | true =>
 rw [hc2] at e
 cases hc3 : Nat.ble new.length 1000 with
 | false => rw [hc3] at e; cases e
 | true =>
  rw [hc3] at e
  simp only [cond_true, aV, bI] at e
  obtain ⟨rfl, rfl⟩ := e
  exact ⟨h', by simp only [hc3, cond_true], S⟩
theorem bMf {gg : Bool} (args : List DV) : SimP gg (jT args) (jT args) := fun h h' S v k e => by
 unfold jT at e ⊢
 split at e <;> (try (cases e; done))
 rename_i n
 cases hc : (decide (-9223372036854775808 ≤ n) && decide (n ≤ 9223372036854775807)) with
 | false => rw [hc] at e; cases e
 | true =>
  rw [hc] at e
  simp only [cond_true, aV, bI] at e
  obtain ⟨rfl, rfl⟩ := e
  exact ⟨h', by simp only [hc, cond_true], S⟩
theorem cTv {gg : Bool} (args : List DV) : SimP gg (aGp args) (aGp args) := fun h h' S v k e => by
 unfold aGp at e ⊢
 split at e <;> (try (cases e; done))
 rename_i s c
 cases hc : Nat.blt c 256 with
 | false => rw [hc] at e; cases e
 | true =>
 cases hc2 : Nat.ble s.length 4000000000 with
 | false => rw [hc, hc2] at e; cases e
 | true =>
 cases hq : aBf c s with
 | none =>
  rw [hc, hc2, hq] at e
  simp only [cond_true, aV, bI] at e
  obtain ⟨rfl, rfl⟩ := e
  exact ⟨h', by simp only [hc2, hq, cond_true], S⟩
 | some p =>
  obtain ⟨a, r⟩ := p
  rw [hc, hc2, hq] at e
  simp only [cond_true, aV, bI] at e
  obtain ⟨rfl, rfl⟩ := e
  exact ⟨h', by simp only [hc2, hq, cond_true], S⟩
theorem aRu {gg : Bool} (args : List DV) : SimP gg (kE args) (kE args) := fun h h' S v k e => by
 unfold kE at e ⊢
 split at e <;> (try (cases e; done))
 rename_i s
 cases hc2 : Nat.ble s.length 4000000000 with
 | false => rw [hc2] at e; cases e
 | true =>
 cases hq : jW s with
 | none =>
  rw [hc2, hq] at e
  simp only [cond_true, aV, bI] at e
  obtain ⟨rfl, rfl⟩ := e
  exact ⟨h', by simp only [hq, cond_true], S⟩
 | some n =>
  rw [hc2, hq] at e
  simp only [cond_true, aV, bI] at e
  obtain ⟨rfl, rfl⟩ := e
  exact ⟨h', by simp only [hq, cond_true], S⟩
theorem aPn {gg : Bool} (args : List DV) : SimP gg (iO args) (iO args) := fun h h' S v k e => by
 unfold iO at e ⊢
 split at e <;> (try (cases e; done))
 rename_i s
 cases hc2 : Nat.ble s.length 100000 with
 | false => rw [hc2] at e; cases e
 | true =>
  rw [hc2] at e
  simp only [cond_true, aV, bI] at e
  obtain ⟨rfl, rfl⟩ := e
  exact ⟨h', by simp only [cond_true], S⟩
theorem bFl {gg : Bool} (args : List DV) : SimP gg (oW args) (oW args) := fun h h' S v k e => by
 unfold oW at e ⊢
 split at e <;> (try (cases e; done))
 rename_i s c
 cases hc : Nat.blt c 256 with
 | false => rw [hc] at e; cases e
 | true =>
 cases hc2 : Nat.ble s.length 4000000000 with
 | false => rw [hc, hc2] at e; cases e
 | true =>
  rw [hc, hc2] at e
  simp only [cond_true, aV, bI] at e
  obtain ⟨rfl, rfl⟩ := e
  exact ⟨⟨h.next.succ, Tr.set (.row .ex ((tN c s).map DV.s)) h.next h'.bl⟩, by simp only [hc2, cond_true, S.next], S.setR _ _ _ _⟩
theorem bSu {gg : Bool} (args : List DV) : SimP gg (qD args) (qD args) := fun h h' S v k e => by
 unfold qD at e ⊢
 split at e <;> (try (cases e; done))
 rename_i x sep _
 split at e <;> (try (cases e; done))
 rename_i n cells hs
 rw [S.src hs]
 cases hq : nV cells with
 | none => rw [hq] at e; cases e
 | some l =>
 rw [hq] at e
 dsimp only at e ⊢
 cases c1 : Nat.ble (jB sep l).length 100000000000 with
 | false => rw [c1] at e; cases e
 | true =>
 cases c2 : (Nat.ble n 100000000000 && bKh x) with
 | false => rw [c1, c2] at e; cases e
 | true =>
  rw [c1, c2] at e
  simp only [cond_true, aV, bI] at e
  obtain ⟨rfl, rfl⟩ := e
  exact ⟨h', by simp only [hq, c1, cond_true], S⟩
theorem aIa {gg : Bool} {g : FuncId} {F : List DV → Hp → aG} (hg : oY g = some F) (args : List DV) : SimP gg (F args) (F args) := by
 unfold oY at hg
 cases h1 : Nat.beq g 68 with
 | true => rw [h1] at hg; cases hg; exact cEy args
 | false =>
 cases h2 : Nat.beq g 351 with
 | true => rw [h1, h2] at hg; cases hg; exact cOa args
 | false =>
 cases h3 : Nat.beq g 24 with
 | true => rw [h1, h2, h3] at hg; cases hg; exact bMf args
 | false =>
 cases h4 : Nat.beq g 235 with
 | true => rw [h1, h2, h3, h4] at hg; cases hg; exact bTl args
 | false =>
 cases h5 : Nat.beq g 23 with
 | true => rw [h1, h2, h3, h4, h5] at hg; cases hg; exact bSu args
 | false =>
 cases h6 : Nat.beq g 32 with
 | true => rw [h1, h2, h3, h4, h5, h6] at hg; cases hg; exact bFl args
 | false =>
 cases h7 : Nat.beq g 33 with
 | true => rw [h1, h2, h3, h4, h5, h6, h7] at hg; cases hg; exact cTv args
 | false =>
 cases h8 : Nat.beq g 74 with
 | true => rw [h1, h2, h3, h4, h5, h6, h7, h8] at hg; cases hg; exact aRu args
 | false =>
 cases h9 : Nat.beq g 25 with
 | true => rw [h1, h2, h3, h4, h5, h6, h7, h8, h9] at hg; cases hg; exact aPn args
 | false =>
 rw [h1, h2, h3, h4, h5, h6, h7, h8, h9] at hg
 cases hg
theorem aMx {g : FuncId} (hg : CF.I g = none) : oY g = none ∧ aJm g = none := by
 change orI (oY g) (aJm g) = none at hg
 cases h : oY g with
 | none => rw [h] at hg; exact ⟨rfl, hg⟩
 | some F => rw [h] at hg; cases hg
theorem zU {g : FuncId} {F : List DV → Hp → aG} (hg : CF.I g = some F) : oY g = some F ∨ (oY g = none ∧ aJm g = some F) := by
 change orI (oY g) (aJm g) = some F at hg
 cases h : oY g with
 | none => rw [h] at hg; exact .inr ⟨rfl, hg⟩
 | some F' => rw [h] at hg; cases hg; exact .inl rfl
theorem aNs (g : FuncId) (F : List DV → Hp → aG) (hg : aJm g = some F) (n : Nat) (args : List DV) : SimP false (F args) (fI CF1 (n + 12) g args) := by
 unfold aJm at hg
 have hb : ∀ k, Nat.beq g k = true → g = k := fun k h => Nat.eq_of_beq_eq_true h
 cases h1 : Nat.beq g 132 with
 | true => rw [h1] at hg; cases hg; rw [hb _ h1]; exact cFa n args
 | false =>
 cases h2 : Nat.beq g 196 with
 | true => rw [h1, h2] at hg; cases hg; rw [hb _ h2]; exact dEy n args
 | false =>
 cases h3 : Nat.beq g 108 with
 | true => rw [h1, h2, h3] at hg; cases hg; rw [hb _ h3]; exact cDy n args
 | false =>
 cases h4 : Nat.beq g 126 with
 | true => rw [h1, h2, h3, h4] at hg; cases hg; rw [hb _ h4]; exact bLs n args
 | false =>
 cases h5 : Nat.beq g 77 with
 | true => rw [h1, h2, h3, h4, h5] at hg; cases hg; rw [hb _ h5]; exact bOh n args
 | false =>
 cases h6 : Nat.beq g 76 with
 | true => rw [h1, h2, h3, h4, h5, h6] at hg; cases hg; rw [hb _ h6]; exact aSn n args
 | false =>
 cases h7 : Nat.beq g 80 with
 | true => rw [h1, h2, h3, h4, h5, h6, h7] at hg; cases hg; rw [hb _ h7]; exact aJx n args
 | false =>
 cases h8 : Nat.beq g 84 with
 | true => rw [h1, h2, h3, h4, h5, h6, h7, h8] at hg; cases hg; rw [hb _ h8]; exact cLb n args
 | false =>
 cases h9 : Nat.beq g 243 with
 | true => rw [h1, h2, h3, h4, h5, h6, h7, h8, h9] at hg; cases hg; rw [hb _ h9]; exact bGw n args
 | false =>
 cases h10 : Nat.beq g 136 with
 | true => rw [h1, h2, h3, h4, h5, h6, h7, h8, h9, h10] at hg; cases hg; rw [hb _ h10]; exact aPk n args
 | false =>
 cases h11 : Nat.beq g 201 with
 | true => rw [h1, h2, h3, h4, h5, h6, h7, h8, h9, h10, h11] at hg; cases hg; rw [hb _ h11]; exact aUs n args
 | false =>
 cases h12 : Nat.beq g 200 with
 | true => rw [h1, h2, h3, h4, h5, h6, h7, h8, h9, h10, h11, h12] at hg; cases hg; rw [hb _ h12]; exact aMb n args
 | false =>
 cases h13 : Nat.beq g 134 with
 | true => rw [h1, h2, h3, h4, h5, h6, h7, h8, h9, h10, h11, h12, h13] at hg; cases hg; rw [hb _ h13]; exact bIg n args
 | false =>
 cases h14 : Nat.beq g 216 with
 | true => rw [h1, h2, h3, h4, h5, h6, h7, h8, h9, h10, h11, h12, h13, h14] at hg; cases hg; rw [hb _ h14]; exact bJf n args
 | false =>
 cases h15 : Nat.beq g 245 with
 | true => rw [h1, h2, h3, h4, h5, h6, h7, h8, h9, h10, h11, h12, h13, h14, h15] at hg; cases hg; rw [hb _ h15]; exact cQp n args
 | false => rw [h1, h2, h3, h4, h5, h6, h7, h8, h9, h10, h11, h12, h13, h14, h15] at hg; cases hg
theorem aPy (n : Nat) (f : FuncId) (args : List DV) : SimP false (fI CF n f args) (fI CF1 (n + 12) f args) := by
 have key := aFg (I := itm) (q := rgB) (gg := false) (P := Go.Proofs.Tryz.prog) (I2 := CF.I) (I1 := CF1.I) 12 (fun g hg => (aMx hg).1) (fun g F hg n args => by
  have hcall : cA ⟨Go.Proofs.Tryz.prog, CF1.I⟩ (fI ⟨Go.Proofs.Tryz.prog, CF1.I⟩ (n + 12)) g args = fun h => match oY g with
   | some F => F args h
   | none => fI ⟨Go.Proofs.Tryz.prog, CF1.I⟩ (n + 12) g args h := rfl
  rw [hcall]
  rcases zU hg with h1 | ⟨h1, h2⟩
  ·rw [h1]; exact aIa h1 args
  ·rw [h1]; exact aNs g F h2 n args) n f args
 exact key
end Go.Dd

namespace Go.Dd
open Go.Proofs
theorem aBq {m : Pos} {M : MemV} {h h' : Hp} (S : Sim true h h') (hm : qO m h = some M) : qO m h' = some M := by
 have hget : ∀ b o, h.bl.get b = some o → h'.bl.get b = some o := fun b o hb => by
  obtain ⟨o', h1, h2⟩ := S.get b o hb
  rw [h1, kD h2]
 unfold qO at hm ⊢
 split at hm <;> (try (cases hm; done))
 rename_i wb n c fin made pb hr
 split at hm <;> (try (cases hm; done))
 rename_i n' t pl h1 h2
 simp only [hget _ _ hr, hget _ _ h1, hget _ _ h2]
 exact hm
theorem fE {args : List DV} {k : Hp → MemV → List DV → aG} (hk : ∀ M r, SimP true (fun h => k h M r) (fun h => k h M r)) : SimP true (fun h => qR args h (k h)) (fun h => qR args h (k h)) := fun h h' S v g e => by
 obtain ⟨m, rest, M, rfl, hM, e⟩ := eN e
 obtain ⟨g', e1, e2⟩ := hk M rest h h' S v g e
 refine ⟨g', ?_, e2⟩
 show (match qO m h' with
  | some M => k h' M rest
  | none => none) = some (v, g')
 rw [aBq S hM]
 exact e1
theorem lM {M : MemV} {o : Int} {k k' : Nat → aG} (h : ∀ n, SimR true (k n) (k' n)) : SimR true (mA M o k) (mA M o k') := by
 unfold mA
 cases Nat.blt (Nat.add (gG o M.pl) 1) M.n with
 | false => exact SimR.none _
 | true =>
  simp only [cond_true]
  cases M.t.get (gG o M.pl) with
  | negSucc a => exact SimR.none _
  | ofNat hd =>
   dsimp only
   cases Nat.blt hd 1000000000000 with
   | false => exact SimR.none _
   | true => exact h hd
theorem tF {M : MemV} {o i : Int} {b b' : Nat → aG} {k k' : Nat → Nat → aG} (hb : ∀ n, SimR true (b n) (b' n)) (h : ∀ n m, SimR true (k n m) (k' n m)) : SimR true (kJ M o i b k) (kJ M o i b' k') := by
 unfold kJ
 cases Nat.beq (gG o M.pl) 0 with
 | true => exact hb 1
 | false =>
  simp only [cond_false]
  cases i with
  | negSucc i => exact hb 5
  | ofNat i =>
   dsimp only
   refine lM fun hd => ?_
   cases Nat.ble (Nat.div hd 4) i with
   | true => exact hb 5
   | false =>
    simp only [cond_false]
    cases Nat.blt (Nat.add (Nat.add (gG o M.pl) 3) i) M.n with
    | false => exact SimR.none _
    | true => exact h _ _
theorem jO {h h' : Hp} (S : Sim true h h') (o : Ob) (b n : Pos) : Sim true ⟨n, Tr.set o b h.bl⟩ ⟨n, Tr.set o b h'.bl⟩ := S.set (lE o) b n
theorem nN {M : MemV} {a : Nat} {w : Int} : SimP true (qQ M a w) (qQ M a w) := fun h h' S v g e => by
 simp only [qQ, aV, bI] at e ⊢
 obtain ⟨rfl, rfl⟩ := e
 exact ⟨_, ⟨rfl, rfl⟩, by rw [S.next]; exact jO S _ _ _⟩
theorem bQq (g : FuncId) (F : List DV → Hp → aG) (hg : aJm g = some F) (args : List DV) : SimP true (F args) (F args) := by
 have hmay : SimP true (bMx args) (bMx args) := fE (k := fun h M r => match r with
  | [.i .i64 w] => some (.b (aGb w M.pl), h)
  | _ => none) fun M r h h' S => by dsimp only; split <;> first | exact SimR.some S _ | exact SimR.none _
 have his : SimP true (isF args) (isF args) := fE (k := fun h M r => match r with
  | [.i .i64 w] => some (.b (!(Nat.beq (gG w M.pl) 0)), h)
  | _ => none) fun M r h h' S => by dsimp only; split <;> first | exact SimR.some S _ | exact SimR.none _
 have hsize : SimP true (aCa args) (aCa args) := fE (k := fun h M r => match r with
  | [] => some (.i .i64 (.ofNat M.n), h)
  | _ => none) fun M r h h' S => by dsimp only; split <;> first | exact SimR.some S _ | exact SimR.none _
 have hroom : SimP true (bCn args) (bCn args) := fE (k := fun h M r => match r with
  | [] => some (.i .i64 (.ofNat (Nat.sub M.n M.fin)), h)
  | _ => none) fun M r h h' S => by dsimp only; split <;> first | exact SimR.some S _ | exact SimR.none _
 have hclass : SimP true (rN args) (rN args) := fE (k := fun h M r => match r with
  | [.i .i64 o] => mA M o fun _ => some (.i .i64 (M.t.get (Nat.add (gG o M.pl) 1)), h)
  | _ => none) fun M r h h' S => by dsimp only; split <;> first | exact lM (fun _ => SimR.some S _) | exact SimR.none _
 have hformat : SimP true (uE args) (uE args) := fE (k := fun h M r => match r with
  | [.i .i64 o] => mA M o fun hd => some (.i .i64 (.ofNat (Nat.mod hd 4)), h)
  | _ => none) fun M r h h' S => by dsimp only; split <;> first | exact lM (fun _ => SimR.some S _) | exact SimR.none _
 have hfields : SimP true (nG args) (nG args) := fE (k := fun h M r => match r with
  | [.i .i64 o] => mA M o fun hd => some (.i .i64 (.ofNat (Nat.div hd 4)), h)
  | _ => none) fun M r h h' S => by dsimp only; split <;> first | exact lM (fun _ => SimR.some S _) | exact SimR.none _
 have hget : SimP true (cCn args) (cCn args) := fE (k := fun h M r => match r with
  | [.i .i64 o, .i .i64 i] => kJ M o i (fun e => err e h) fun _ a => some (.t [.i .i64 (M.t.get a), .i .i64 (.ofNat 0)], h)
  | _ => none) fun M r h h' S => by dsimp only; split <;> first | exact tF (fun _ => SimR.some S _) (fun _ _ => SimR.some S _) | exact SimR.none _
 have hput : SimP true (aOj args) (aOj args) := fE (k := fun h M r => match r with
  | [.i .i64 o, .i .i64 i, .i .i64 w] => kJ M o i (fun e => some (.i .i64 (.ofNat e), h)) fun hd a =>
   match Nat.mod hd 4 with
   | 0 => bif aGb w M.pl then qQ M a w h else some (.i .i64 (.ofNat 6), h)
   | 2 => (match w with
    | .ofNat c => bif Nat.ble c 255 then qQ M a w h else some (.i .i64 (.ofNat 6), h)
    | .negSucc _ => some (.i .i64 (.ofNat 6), h))
   | _ => qQ M a w h
  | _ => none) fun M r h h' S => by
   dsimp only
   split
   ·rename_i o i w
    refine tF (fun _ => SimR.some S _) fun hd a => ?_
    split
    ·cases aGb w M.pl with
     | true => exact nN h h' S
     | false => exact SimR.some S _
    ·cases w with
     | negSucc c => exact SimR.some S _
     | ofNat c =>
      dsimp only
      cases Nat.ble c 255 with
      | true => exact nN h h' S
      | false => exact SimR.some S _
    ·exact nN h h' S
   ·exact SimR.none _
 have hsetc : SimP true (kO args) (kO args) := fE (k := fun h M r => match r with
  | [.i .i64 o, .i .i64 c] => bif Nat.beq (gG o M.pl) 0 || !(aBi c M.pl) then some (.i .i64 (.ofNat 1), h) else
   (bif Nat.blt (Nat.add (gG o M.pl) 1) M.n then qQ M (Nat.add (gG o M.pl) 1) c h else none)
  | _ => none) fun M r h h' S => by
   dsimp only
   split
   ·rename_i o c
    cases Nat.beq (gG o M.pl) 0 || !(aBi c M.pl) with
    | true => exact SimR.some S _
    | false =>
     simp only [cond_false]
     cases Nat.blt (Nat.add (gG o M.pl) 1) M.n with
     | true => exact nN h h' S
     | false => exact SimR.none _
   ·exact SimR.none _
 have hmake : SimP true (tI args) (tI args) := fun h h' S => by
  unfold tI
  split
  ·rename_i m cls fmt cnt
   intro v g e
   split at e
   ·cases e
   ·rename_i M hM
    rw [aBq S hM]
    dsimp only
    revert e
    have herr : ∀ n, SimR true (err n h) (err n h') := fun n => SimR.some S _
    suffices hs : SimR true _ _ from fun e => hs v g e
    cases !(aBi cls M.pl) with
    | true => exact herr 1
    | false =>
     simp only [cond_false]
     cases fmt with
     | negSucc f => exact herr 1
     | ofNat f =>
      cases cnt with
      | negSucc c => exact herr 1
      | ofNat c =>
       dsimp only
       cases Nat.ble f 2 && Nat.ble c 256 with
       | false => exact herr 1
       | true =>
        simp only [cond_true]
        cases Nat.blt (Nat.sub M.n M.fin) (Nat.add c 3) with
        | true => exact herr 4
        | false =>
         simp only [cond_false]
         cases Nat.ble 3 M.fin && Nat.ble M.fin 131072 with
         | false => exact SimR.none _
         | true =>
          simp only [cond_true]
          intro v g e
          simp only [aV, bI] at e ⊢
          obtain ⟨rfl, rfl⟩ := e
          refine ⟨_, ⟨rfl, rfl⟩, ?_⟩
          rw [S.next]
          exact jO (jO (jO S _ _ h.next) _ _ h.next) _ _ h.next
  ·exact SimR.none _
 have hnew : SimP true (aPo args) (aPo args) := fun h h' S => by
  unfold aPo
  split
  ·rename_i n
   cases Nat.blt n 16 || Nat.blt 131072 n with
   | true => exact SimR.some S _
   | false =>
    simp only [cond_false]
    intro v g e
    simp only [aV, bI] at e ⊢
    obtain ⟨rfl, rfl⟩ := e
    rw [S.next]
    exact ⟨_, ⟨rfl, rfl⟩, jO (jO (jO S _ _ h.next) _ _ h.next) _ _ _⟩
  ·exact SimR.some S _
  ·exact SimR.none _
 have hpure : ∀ F : Hp → aG, (∀ h h', Sim true h h' → SimR true (F h) (F h')) → SimP true F F := fun F hF => hF
 have hsm : SimP true (jR args) (jR args) := fun h h' S => by unfold jR; split <;> first | exact SimR.some S _ | exact SimR.none _
 have hva : SimP true (oN args) (oN args) := fun h h' S => by
  unfold oN
  split
  ·rename_i w
   cases iK w <;> exact SimR.some S _
  ·exact SimR.none _
 have hsl : SimP true (oS args) (oS args) := fun h h' S => by
  unfold oS
  split
  ·rename_i n; cases Nat.blt n 1073741824 <;> exact SimR.some S _
  ·rename_i n; cases Nat.blt n 1073741824 <;> exact SimR.some S _
  ·exact SimR.none _
 unfold aJm at hg
 cases h1 : Nat.beq g 132 with
 | true => rw [h1] at hg; cases hg; exact hmay
 | false =>
 cases h2 : Nat.beq g 196 with
 | true => rw [h1, h2] at hg; cases hg; exact his
 | false =>
 cases h3 : Nat.beq g 108 with
 | true => rw [h1, h2, h3] at hg; cases hg; exact hsize
 | false =>
 cases h4 : Nat.beq g 126 with
 | true => rw [h1, h2, h3, h4] at hg; cases hg; exact hroom
 | false =>
 cases h5 : Nat.beq g 77 with
 | true => rw [h1, h2, h3, h4, h5] at hg; cases hg; exact hmake
 | false =>
 cases h6 : Nat.beq g 76 with
 | true => rw [h1, h2, h3, h4, h5, h6] at hg; cases hg; exact hnew
 | false =>
 cases h7 : Nat.beq g 80 with
 | true => rw [h1, h2, h3, h4, h5, h6, h7] at hg; cases hg; exact hsetc
 | false =>
 cases h8 : Nat.beq g 84 with
 | true => rw [h1, h2, h3, h4, h5, h6, h7, h8] at hg; cases hg; exact hput
 | false =>
 cases h9 : Nat.beq g 243 with
 | true => rw [h1, h2, h3, h4, h5, h6, h7, h8, h9] at hg; cases hg; exact hclass
 | false =>
 cases h10 : Nat.beq g 136 with
 | true => rw [h1, h2, h3, h4, h5, h6, h7, h8, h9, h10] at hg; cases hg; exact hformat
 | false =>
 cases h11 : Nat.beq g 201 with
 | true => rw [h1, h2, h3, h4, h5, h6, h7, h8, h9, h10, h11] at hg; cases hg; exact hfields
 | false =>
 cases h12 : Nat.beq g 200 with
 | true => rw [h1, h2, h3, h4, h5, h6, h7, h8, h9, h10, h11, h12] at hg; cases hg; exact hsm
 | false =>
 cases h13 : Nat.beq g 134 with
 | true => rw [h1, h2, h3, h4, h5, h6, h7, h8, h9, h10, h11, h12, h13] at hg; cases hg; exact hsl
 | false =>
 cases h14 : Nat.beq g 216 with
 | true => rw [h1, h2, h3, h4, h5, h6, h7, h8, h9, h10, h11, h12, h13, h14] at hg; cases hg; exact hva
 | false =>
 cases h15 : Nat.beq g 245 with
 | true => rw [h1, h2, h3, h4, h5, h6, h7, h8, h9, h10, h11, h12, h13, h14, h15] at hg; cases hg; exact hget
 | false => rw [h1, h2, h3, h4, h5, h6, h7, h8, h9, h10, h11, h12, h13, h14, h15] at hg; cases hg
theorem aMa (g : FuncId) (F : List DV → Hp → aG) (hg : CF.I g = some F) (args : List DV) : SimP true (F args) (F args) := by
 rcases zU hg with h1 | ⟨_, h2⟩
 ·exact aIa h1 args
 ·exact bQq g F h2 args
theorem bFr (n : Nat) (f : FuncId) (args : List DV) : SimP true (kS n f args) (kS n f args) := by
 rw [wL]
 exact aFg (I := itm) (q := rgB) (gg := true) (P := Tryz.prog) (I2 := CF.I) (I1 := CF.I) 0 (fun g h => h) (fun g F hg n args => by
  have : cA ⟨Tryz.prog, CF.I⟩ (fI ⟨Tryz.prog, CF.I⟩ (n + 0)) g args = F args := by
   funext h
   unfold cA
   rw [show (⟨Tryz.prog, CF.I⟩ : Cfg).I g = some F from hg]
  rw [this]
  exact aMa g F hg args) n f args
theorem bHw (n : Nat) (g : FuncId) (args : List DV) : SimP true (cA CF (kS n) g args) (cA CF (kS n) g args) := by
 unfold cA
 cases hg : CF.I g with
 | none => exact bFr n g args
 | some F => exact aMa g F hg args
end Go.Dd

namespace Go.Dd
open Go.Proofs
abbrev K4T := DV → DV → DV → DV → Hp → aG
noncomputable abbrev R9 : RT := kS 899
noncomputable def XL : Nat → K := xs x0 7 (fun env h => fD R9 899 (env 5) h)
noncomputable def krN : K := aO CF Tryz.f55
noncomputable def bTk : Code := cL (cL (cR (cL (cR (cR (cR (cR (cR (cR (cf Tryz.f55))))))))))
noncomputable def kb (kk : K4T) : K := fun env h => kk (env 5) (env 155) (env 156) (env 157) h
noncomputable def aLt (a b c d : DV) : aZ := fun t => bif Nat.beq t 5 then a else bif Nat.beq t 155 then b else bif Nat.beq t 156 then c else bif Nat.beq t 157 then d else .u
theorem aHy (kk : K4T) (a b c d : DV) (h : Hp) : kM R9 899 kk a b c d h = aM CF R9 179 899 bTk XL krN (kb kk) (aLt a b c d) h :=
 (congrFun (congrFun (aXi R9 899 kk) (aLt a b c d)) h).symm
theorem aTk (e : aZ) (h : Hp) : krN e h = some (.t [e 2, e 3], h) := by kernel_rfl
def eBn (r : aG) : Prop := ∃ a b c d h, r = some (.t [a, b, c, d], h)
theorem bXy (a b c d : DV) (h : Hp) : (∃ a' b' c' d' h', ∀ kk : K4T, kM R9 899 kk a b c d h = kk a' b' c' d' h') ∨ (∃ r, ¬ eBn r ∧ ∀ kk : K4T, kM R9 899 kk a b c d h = r) := by
 obtain ⟨O, hO⟩ := aNn (C := CF) (rec := R9) (nt := 179) 899 bTk
 have key : ∀ kk : K4T, kM R9 899 kk a b c d h = eDy (O (aLt a b c d) h) XL krN (kb kk) := fun kk => (aHy kk a b c d h).trans (hO _ _ _ _ _)
 cases ho : O (aLt a b c d) h with
 | none => exact .inr ⟨none, (by rintro ⟨_, _, _, _, _, e⟩; cases e), fun kk => by rw [key kk, ho]; rfl⟩
 | some o =>
  cases o with
  | n e h' => exact .inl ⟨e 5, e 155, e 156, e 157, h', fun kk => by rw [key kk, ho]; rfl⟩
  | r e h' => exact .inr ⟨some (.t [e 2, e 3], h'), (by rintro ⟨_, _, _, _, _, q⟩; cases q), fun kk => by rw [key kk, ho]; exact aTk e h'⟩
  | x i e h' =>
   refine .inr ⟨XL i e h', ?_, fun kk => by rw [key kk, ho]; rfl⟩
   rintro ⟨_, _, _, _, _, q⟩
   unfold XL xs at q
   cases hi : Nat.beq i 7 with
   | true => rw [hi] at q; cases q
   | false => rw [hi] at q; cases q
theorem yC (n : Nat) (kk : K4T) : itN (n + 1) kk = kM R9 899 (itN n kk) := rfl
theorem bLj : ∀ (n : Nat) (a b c d : DV) (h : Hp) (a' b' c' d' : DV) (h' : Hp), itN n bQg a b c d h = some (.t [a', b', c', d'], h') → ∀ kk : K4T, itN n kk a b c d h = kk a' b' c' d' h'
 | 0, a, b, c, d, h, a', b', c', d', h', e, kk => by
  have e' : (some (.t [a, b, c, d], h) : aG) = some (.t [a', b', c', d'], h') := e
  simp only [aV, bI, DV.t.injEq, List.cons.injEq, and_true] at e'
  obtain ⟨⟨rfl, rfl, rfl, rfl⟩, rfl⟩ := e'
  rfl
 | n + 1, a, b, c, d, h, a', b', c', d', h', e, kk => by
  rw [yC] at e ⊢
  rcases bXy a b c d h with ⟨a1, b1, c1, d1, h1, hs⟩ | ⟨r, hr, hs⟩
  ·rw [hs] at e ⊢
   exact bLj n a1 b1 c1 d1 h1 a' b' c' d' h' e kk
  ·rw [hs] at e
   exact absurd ⟨_, _, _, _, _, e⟩ hr
theorem bQz (kk : K4T) (hk : ∀ a b c d, SimP true (kk a b c d) (kk a b c d)) : ∀ (n : Nat) (a b c d : DV), SimP true (itN n kk a b c d) (itN n kk a b c d)
 | 0, a, b, c, d => hk a b c d
 | n + 1, a, b, c, d => by
  have ih := bQz kk hk n
  rw [yC]
  have hX : ∀ j, SimK true (XL j) (XL j) := by
   intro j env h h' S
   unfold XL xs
   cases Nat.beq j 7 with
   | true => exact SimR.some S _
   | false => exact SimR.none _
  have hR : SimK true krN krN := fun env h h' S => by rw [aTk, aTk]; exact SimR.some S _
  have hK : SimK true (kb (itN n kk)) (kb (itN n kk)) := fun env => ih _ _ _ _
  have hc := gA (gg := true) (P := Tryz.prog) (I2 := CF.I) (I1 := CF.I) (rec2 := R9) (rec1 := R9) (fun g args => bHw 899 g args) 179 899 0 bTk XL XL krN krN (kb (itN n kk)) (kb (itN n kk)) hX hR hK (aLt a b c d)
  intro h h' S
  rw [aHy, aHy]
  exact hc h h' S
theorem yH (m : Nat) : ∀ n, kF R9 899 (m + n) = itN n (kF R9 899 m)
 | 0 => rfl
 | n + 1 => by
  rw [yC, ← yH m n]
  rfl
theorem jJ {k n nx nx' : Nat} {L L' : List (Pos × Ob)} (hc : lR (nQ k n (iS nx L)) (lF (k + n)) nx' L' = true) (m : Nat) {h : Hp} (S : Sim true (iS nx L) h) :
  ∃ h', Sim true (iS nx' L') h' ∧ kF R9 899 (m + n) (.p (cO 7) 0) (.l (cO 431) 0 75 75) (.i .i64 (.ofNat 75)) (.i .i64 (.ofNat k)) h =
   kF R9 899 m (.p (cO 7) 0) (.l (cO 431) 0 75 75) (.i .i64 (.ofNat 75)) (.i .i64 (.ofNat (k + n))) h' := by
 obtain ⟨g, e1, e2⟩ := bBl hc
 obtain ⟨g', f1, f2⟩ := bQz bQg (fun a b c d h h' S => SimR.some S _) n _ _ _ _ (iS nx L) h S _ _ e1
 refine ⟨g', e2.trans f2, ?_⟩
 rw [yH]
 exact bLj n _ _ _ _ _ _ _ _ _ _ f1 _
theorem bIp (k : K) : aM CF R9 179 899 (cf Tryz.f55) x0 krN k = aM CF R9 179 899 cPx x0 krN (aM CF R9 179 899 cAk x0 krN (aM CF R9 179 899 dQe x0 krN k)) := by kernel_rfl
theorem dKt : aM CF R9 179 899 dQe x0 krN krN = fun env h => fD R9 899 (env 5) h := bLo R9 899
theorem cFw : aM CF R9 179 899 cAk x0 krN (fun env h => fD R9 899 (env 5) h) = fun env h => aXp R9 899 (env 5) (env 155) (env 156) (env 157) h :=
 (by kernel_rfl : aM CF R9 179 899 cAk x0 krN (fun env h => fD R9 899 (env 5) h) = D55 R9 899 (cL (cR (cL (cR (cR (cR (cR (cR (cR (cf Tryz.f55)))))))))) (xs x0 7 (fun (env : aZ) (h : Hp) => fD R9 899 (env 5) h)) (fun (env : aZ) (h : Hp) => fD R9 899 (env 5) h)).trans (bJr R9 899)
theorem dLz (x : DV) (h : Hp) : aF CF R9 899 55 [x] h = aM CF R9 179 899 (cf Tryz.f55) x0 krN krN (aH [x]) h := by kernel_rfl
theorem cNc : ∃ e h', Sim true (iS 432 (nJ 30000 553 84 18 [1076, 1096, 6, 24, 42, 60, 78, 96, 114, 132, 150, 168, 186, 204, 222, 240, 258, 276] [(10, 0), (19, 0), (46, 0), (55, 0), (64, 0), (91, 0), (100, 0), (109, 0), (118, 0), (127, 0), (145, 0)] 0)) h' ∧ e 5 = .p (cO 7) 0 ∧ e 155 = .l (cO 431) 0 75 75 ∧ e 156 = .i .i64 (.ofNat 75) ∧ e 157 = .i .i64 (.ofNat 0) ∧
  ∀ X kr k, aM CF R9 179 899 cPx X kr k (aH [.i .i64 (.ofNat 30000)]) hS = k e h' := by
 obtain ⟨O, hO⟩ := aNn (C := CF) (rec := R9) (nt := 179) 899 cPx
 obtain ⟨g, e1, e2⟩ := bBl he0
 have e1' : eDy (O (aH [.i .i64 (.ofNat 30000)]) hS) (fun _ _ _ => none) (fun _ _ => none) dMp = some (.t (lF 0), g) := (hO _ _ _ _ _).symm.trans e1
 cases ho : O (aH [.i .i64 (.ofNat 30000)]) hS with
 | none => rw [ho] at e1'; cases e1'
 | some o =>
  rw [ho] at e1'
  cases o with
  | x i e h' => cases e1'
  | r e h' => cases e1'
  | n e h' =>
   have q : (some (.t [e 5, e 155, e 156, e 157], h') : aG) = some (.t (lF 0), g) := e1'
   simp only [lF, aV, bI, DV.t.injEq, List.cons.injEq, and_true] at q
   obtain ⟨⟨q1, q2, q3, q4⟩, q5⟩ := q
   exact ⟨e, h', by rw [q5]; exact e2, q1, q2, q3, q4, fun X kr k => by rw [hO, ho]; rfl⟩
theorem dGr : ∃ g, kS 900 55 [.i .i64 (.ofNat 30000)] hS = some (.t [.p (cO 7) 0, .i .i64 (.ofNat 0)], g) ∧ Sim true (iS 26855 (nJ 30000 4321 583 80 [8370, 1096, 6, 24, 42, 60, 78, 96, 114, 132, 150, 168, 186, 204, 222, 240, 258, 276] [] 75)) g := by
 obtain ⟨e, h0, S0, p1, p2, p3, p4, hpre⟩ := cNc
 obtain ⟨h1, S1, c1⟩ := jJ hc0 894 S0
 obtain ⟨h2, S2, c2⟩ := jJ hc5 889 S1
 obtain ⟨h3, S3, c3⟩ := jJ dXj 884 S2
 obtain ⟨h4, S4, c4⟩ := jJ dZf 879 S3
 obtain ⟨h5, S5, c5⟩ := jJ eCg 874 S4
 obtain ⟨h6, S6, c6⟩ := jJ dXp 869 S5
 obtain ⟨h7, S7, c7⟩ := jJ eAy 864 S6
 obtain ⟨h8, S8, c8⟩ := jJ dZa 859 S7
 obtain ⟨h9, S9, c9⟩ := jJ eBi 854 S8
 obtain ⟨h10, S10, c10⟩ := jJ eBd 849 S9
 obtain ⟨h11, S11, c11⟩ := jJ dYe 844 S10
 obtain ⟨h12, S12, c12⟩ := jJ eBj 839 S11
 obtain ⟨h13, S13, c13⟩ := jJ dWy 834 S12
 obtain ⟨h14, S14, c14⟩ := jJ eBx 829 S13
 obtain ⟨h15, S15, c15⟩ := jJ dZb 824 S14
 refine ⟨h15, ?_, S15⟩
 have e0 : kS 900 55 [.i .i64 (.ofNat 30000)] hS = aF CF R9 899 55 [.i .i64 (.ofNat 30000)] hS := mZ 55 rfl 899 _ _
 rw [e0, dLz, bIp, dKt, cFw, hpre]
 show aXp R9 899 (e 5) (e 155) (e 156) (e 157) h0 = _
 rw [p1, p2, p3, p4]
 show kF R9 899 899 _ _ _ _ h0 = _
 refine c1.trans ?_
 refine c2.trans ?_
 refine c3.trans ?_
 refine c4.trans ?_
 refine c5.trans ?_
 refine c6.trans ?_
 refine c7.trans ?_
 refine c8.trans ?_
 refine c9.trans ?_
 refine c10.trans ?_
 refine c11.trans ?_
 refine c12.trans ?_
 refine c13.trans ?_
 refine c14.trans ?_
 refine c15.trans ?_
 rw [show (824 : Nat) = 823 + 1 from rfl]
 show kM R9 899 (kF R9 899 823) _ _ _ _ h15 = _
 unfold kM
 have hl : decide (Int.ofNat 75 < Int.ofNat 75) = false := rfl
 simp only [dV, aU, hl, dK]
 rfl
end Go.Dd

namespace Go.Dd
open Go.Proofs
noncomputable def HLN : List (Pos × Ob) := nJ 30000 4321 583 80 [8370, 1096, 6, 24, 42, 60, 78, 96, 114, 132, 150, 168, 186, 204, 222, 240, 258, 276] [] 75
noncomputable def hN : Hp := iS 26855 HLN
noncomputable def gU (l : List (Pos × Ob)) (t : Tr Ob) : Tr Ob := List.rec (motive := fun _ => Tr Ob) t (fun x _ ih => Tr.set x.2 x.1 ih) l
noncomputable def aRa (p : List DV → Bool) (v0 : DV) (nx0 : Nat) (HL : List (Pos × Ob)) (args : List DV) (h : Hp) : aG :=
 bif p args && mI h.next (cO 1) then some (v0, ⟨cO nx0, gU HL h.bl⟩) else none
noncomputable def bBf (args : List DV) : Bool := match args with
 | [.i .i64 (.ofNat m)] => Nat.beq m 30000
 | _ => false
noncomputable def dAa : List DV → Hp → aG := aRa bBf (.t [.p (cO 7) 0, .i .i64 (.ofNat 0)]) 26855 HLN
noncomputable def aNp (n : Nat) : RT := fun g args h => bif Nat.beq g 55 then dAa args h else kS n g args h
noncomputable def okB (r : aG) : Bool := match r with
 | some (.b x, _) => x
 | _ => false
noncomputable def aIn : RT := fun g args h => bif Nat.beq g 36 then s36 (aNp 900) 900 (args.getD 0 aR) h else aNp 900 g args h
noncomputable def aOi : RT := fun g args h => bif Nat.beq g 22 then s22 aIn 900 (args.getD 0 aR) (args.getD 1 aR) h else aIn g args h
theorem dKg : okB (s11 aOi 900 ⟨dHg 24 998, .e⟩) = true := by kernel_rfl
end Go.Dd

namespace Go.Dd
open Go.Proofs
section
end
end Go.Dd

namespace Go.Dd
open Go.Proofs
section
end
end Go.Dd

namespace Go.Dd
open Go.Proofs
section
end
end Go.Dd

namespace Go.Dd
open Go.Proofs
section
end
end Go.Dd

namespace Go.Dd
open Go.Proofs
end Go.Dd

namespace Go.Dd
open Go.Proofs
theorem rg0 (rec : FuncId → List DV → Hp → aG) (k : K) (env : aZ) (h : Hp) : gM CF0 rec 49 (fJ (cL (cf Tryz.f351))) (fJ (cL (cf Tryz.f351))).toList k env h = (
 bnd (cH (env 1) h) fun v1 h1 =>
 k (bM (bM env (some 3) v1) (some 4) (.i .i64 (Int.ofNat 0))) h1) := by kernel_rfl
theorem rg1 (rec : FuncId → List DV → Hp → aG) (k : K) (env : aZ) (h : Hp) : gM CF0 rec 49 (fJ (cL (cR (cf Tryz.f351)))) (fJ (cL (cR (cf Tryz.f351)))).toList k env h = (
 bnd (aY (env 0) h) fun v1 h1 =>
 bnd (aB 0 v1 h1) fun v2 h2 =>
 bnd (aB 4 v2 h2) fun v3 h3 =>
 bnd (aA v3 h3) fun v4 h4 =>
 bnd (rec 425 [v4, (.f 426 [] [(env 3)])] h4) fun v5 h5 =>
 k (bM (bM (bM (bM (bM (bM (bM (bM env (some 6) (env 0)) (some 7) v1) (some 8) v2) (some 9) v3) (some 10) v4) (some 11) (.f 426 [] [(env 3)])) (some 12) v5) (some 5) v5) h5) := by kernel_rfl
theorem rg2 (rec : FuncId → List DV → Hp → aG) (k : K) (env : aZ) (h : Hp) : gM CF0 rec 49 (fJ (cL (cL (cR (cR (cf Tryz.f351)))))) (fJ (cL (cL (cR (cR (cf Tryz.f351)))))).toList k env h = (
 bnd (aD .lss (env 5) (.i .i64 (Int.ofNat 0)) h) fun v1 h1 =>
 k (bM (bM env (some 13) (env 5)) (some 14) v1) h1) := by kernel_rfl
theorem rg3 (rec : FuncId → List DV → Hp → aG) (k : K) (env : aZ) (h : Hp) : gM CF0 rec 49 (fJ (cL (cL (cR (cL (cR (cR (cf Tryz.f351)))))))) (fJ (cL (cL (cR (cL (cR (cR (cf Tryz.f351)))))))).toList k env h = (
 bnd (aY (env 0) h) fun v1 h1 =>
 bnd (aB 0 v1 h1) fun v2 h2 =>
 bnd (aB 4 v2 h2) fun v3 h3 =>
 bnd (aA v3 h3) fun v4 h4 =>
 bnd (bV v4 h4) fun v5 h5 =>
 k (bM (bM (bM (bM (bM (bM (bM env (some 15) (env 0)) (some 16) v1) (some 17) v2) (some 18) v3) (some 19) v4) (some 20) v5) (some 5) v5) h5) := by kernel_rfl
theorem rg5 (rec : FuncId → List DV → Hp → aG) (k : K) (env : aZ) (h : Hp) : gM CF0 rec 49 (fJ (cL (cL (cR (cR (cL (cR (cL (cR (cR (cf Tryz.f351))))))))))) (fJ (cL (cL (cR (cR (cL (cR (cL (cR (cR (cf Tryz.f351))))))))))).toList k env h = (
 bnd (aY (env 0) h) fun v1 h1 =>
 bnd (aB 0 v1 h1) fun v2 h2 =>
 bnd (aB 4 v2 h2) fun v3 h3 =>
 bnd (aA v3 h3) fun v4 h4 =>
 bnd (bV v4 h4) fun v5 h5 =>
 bnd (aP [(.i .i64 (Int.ofNat 0)), (.s []), (.i .i64 (Int.ofNat 0)), .l0] 1 [(0, 4, (.a [(.i .i64 (Int.ofNat 0)), (.s []), (.i .i64 (Int.ofNat 0)), .l0]))] h5) fun v6 h6 =>
 bnd (bF 4 56 v4 v6 h6) fun v7 h7 =>
 bnd (aY (env 0) h7) fun v8 h8 =>
 bnd (aB 0 v8 h8) fun v9 h9 =>
 bnd (aB 4 v9 h9) fun v10 h10 =>
 bnd (aI 1 v10 v7 h10) fun _ h11 =>
 k (bM (bM (bM (bM (bM (bM (bM (bM (bM (bM (bM env (some 23) (env 0)) (some 24) v1) (some 25) v2) (some 26) v3) (some 27) v4) (some 28) v5) (some 29) v6) (some 30) v7) (some 31) v8) (some 32) v9) (some 33) v10) h11) := by kernel_rfl
theorem rg6 (rec : FuncId → List DV → Hp → aG) (k : K) (env : aZ) (h : Hp) : gM CF0 rec 49 (fJ (cR (cL (cR (cR (cL (cR (cL (cR (cR (cf Tryz.f351))))))))))) (fJ (cR (cL (cR (cR (cL (cR (cL (cR (cR (cf Tryz.f351))))))))))).toList k env h = (
 bnd (aK 4 (env 3) h) fun v1 h1 =>
 bnd (aE 4 (env 30) (env 28) h1) fun v2 h2 =>
 bnd (aI 4 v2 v1 h2) fun _ h3 =>
 k (bM (bM env (some 34) v1) (some 35) v2) h3) := by kernel_rfl
theorem rg7 (rec : FuncId → List DV → Hp → aG) (k : K) (env : aZ) (h : Hp) : iB CF0 rec 49 (fJ (cR (cR (cR (cL (cR (cL (cR (cR (cf Tryz.f351)))))))))) k env h = (
 bnd (aY (env 0) (resv 1 h)) fun v1 h1 =>
 bnd (aB 0 v1 h1) fun v2 h2 =>
 bnd (aB 4 v2 h2) fun v3 h3 =>
 bnd (aA v3 h3) fun v4 h4 =>
 bnd (aK 4 (env 3) h4) fun v5 h5 =>
 bnd (bP (cB 0 h.next) [(.i .i64 (Int.ofNat 0)), (.s []), (.i .i64 (Int.ofNat 0)), .l0] 1 [(0, 4, v5)] h5) fun v6 h6 =>
 bnd (bF 4 56 v4 v6 h6) fun v7 h7 =>
 bnd (aY (env 0) h7) fun v8 h8 =>
 bnd (aB 0 v8 h8) fun v9 h9 =>
 bnd (aB 4 v9 h9) fun v10 h10 =>
 bnd (aI 1 v10 v7 h10) fun v11 h11 =>
 k (bM (bM (bM (bM (bM (bM (bM (bM (bM (bM (bM (bM env (some 36) (env 0)) (some 37) (env 0)) (some 38) v1) (some 39) v2) (some 40) v3) (some 41) v4) (some 42) v5) (some 43) v6) (some 44) v7) (some 45) v8) (some 46) v9) (some 47) v10) h11) := by kernel_rfl
theorem rg8 (rec : FuncId → List DV → Hp → aG) (k : K) (env : aZ) (h : Hp) : gM CF0 rec 49 (fJ (cL (cR (cR (cR (cf Tryz.f351)))))) (fJ (cL (cR (cR (cR (cf Tryz.f351)))))).toList k env h = (
 k (bM (bM env (some 48) (env 5)) (some 4) (env 5)) h) := by kernel_rfl
end Go.Dd

namespace Go.Dd
open Go.Proofs
theorem HR.sub {G : Gd} {ρ : Ren} {h h' : Hp} {w : World} (S : Sim true h h') (H : HR G ρ h' w) : HR G ρ h w := by
 have hg : ∀ b o, h.bl.get b = some o → h'.bl.get b = some o := fun b o hb => by
  obtain ⟨o', h1, h2⟩ := S.get b o hb
  rw [h1, kD h2]
 have hc : ∀ b a, Claims ρ h b a → Claims ρ h' b a := fun b a ⟨k, l, L, h1, h2, h3⟩ => ⟨k, l, L, hg _ _ h1, h2, h3⟩
 have hro : ∀ b a, Claims ρ h b a → ¬ isRo h b → ¬ isRo h' b := fun b a ⟨k, l, L, h1, h2, h3⟩ hn ⟨l', hl⟩ => by
  rw [hg _ _ h1] at hl
  simp only [aV, Ob.row.injEq] at hl
  exact hn ⟨l, by rw [h1, hl.1]⟩
 exact ⟨H.gl, H.sz, by rw [← S.next]; exact H.nx, fun b a h1 ⟨l, h2⟩ => H.ro b a (hc b a h1) ⟨l, hg _ _ h2⟩, fun b o hb => H.dom b o (hg b o hb), fun b L hb => by rw [← S.next]; exact H.lt b L hb,
  fun b k l L i v h1 => H.cell b k l L i v (hg _ _ h1), fun b l L es j h1 => H.spare b l L es j (hg _ _ h1), fun b a h1 h2 => H.free b a (hc b a h1) (hro b a h1 h2),
  fun b b' a h1 h2 h3 => H.inj b b' a (hc b a h1) (hc b' a h2) (hro b a h1 h3),
  fun b l L h1 => H.ex b l L (h1.elim (fun q => .inl (hg _ _ q)) (fun q => .inr (hg _ _ q))), fun b es l i v h1 => H.grone b es l i v (hg _ _ h1),
  fun b o L h1 h2 => H.itr b o L h1 (hg _ _ h2), fun b o b' o' L L' h1 h2 h3 h4 => H.itj b o b' o' L L' h1 h2 (hg _ _ h3) (hg _ _ h4)⟩
theorem sC : ∀ p : Pos, mI p p = true
 | .h => rfl
 | .o p => sC p
 | .i p => sC p
theorem bEl {p q : Pos} (h : mI p q = false) : p ≠ q := fun e => by subst e; rw [sC] at h; cases h
open Classical in
noncomputable def kk (N : aZ → Hp → Prop) : K := fun env h => if N env h then some (aR, h) else none
theorem tC {N : aZ → Hp → Prop} {env : aZ} {h : Hp} (hn : N env h) : ∃ r, kk N env h = some r := ⟨_, if_pos hn⟩
theorem cWq {N : aZ → Hp → Prop} {env : aZ} {h : Hp} {r} (hn : kk N env h = some r) : N env h := by
 unfold kk at hn
 split at hn
 ·assumption
 ·cases hn
section
variable {C : Cfg} {rec : FuncId → List DV → Hp → aG} {nt : Nat} {X : Nat → aZ → Hp → Prop} {R N : aZ → Hp → Prop} {env : aZ} {h : Hp}
theorem wpS {a b : Code} (H : sA C rec nt a X R (sA C rec nt b X R N) env h) : sA C rec nt (.seq a b) X R N env h := H
theorem aSp {id : Nat} {ops : Array Oper} (H : ∃ r, gM C rec nt ops ops.toList (kk fun e h => oG h → N e h) env h = some r) : sA C rec nt (.region id ops false) X R N env h := by
 obtain ⟨r, hr⟩ := H
 obtain ⟨env', h', h1, h2⟩ := nC _ _ _ _ _ hr
 simp only [sA, Bool.false_eq_true, if_false]
 exact ⟨env', h', h1, cWq h2⟩
theorem dXx {id : Nat} {ops : Array Oper} (hd : eO C.P ops = true) (H : ∃ r, iB C rec nt ops (kk fun e h => oG h → N e h) env h = some r) : sA C rec nt (.region id ops true) X R N env h := by
 obtain ⟨r, hr⟩ := H
 simp only [sA, if_true]
 exact .inr ⟨hd, _, r, hr, fun env' h' h1 h2 => cWq h1 h2⟩
theorem eAp {id : Nat} {ops : Array Oper} (H : aLr C rec nt ops (fun e h => oG h → N e h) ops.size (Array.replicate ops.size false) env h) : sA C rec nt (.region id ops true) X R N env h := by
 simp only [sA, if_true]
 exact .inl H
theorem wpC {c : Operand} {a b : Code} {t : Bool} (hc : opr env c = .b t) (H : (t = true → sA C rec nt a X R N env h) ∧ (t = false → sA C rec nt b X R N env h)) : sA C rec nt (.cond c a b) X R N env h := by
 cases t with
 | true => exact .inl ⟨hc, H.1 rfl⟩
 | false => exact .inr ⟨hc, H.2 rfl⟩
end
noncomputable def eBt : Code := cL (cR (cL (cR (cL (cR (cR (cf Tryz.f351)))))))
noncomputable def R4 : Array Oper := fJ eBt
theorem dSf : cf Tryz.f351 = .seq (.region 0 (fJ (cL (cf Tryz.f351))) false) (.seq (.region 1 (fJ (cL (cR (cf Tryz.f351)))) false) (.seq (.seq (.region 2 (fJ (cL (cL (cR (cR (cf Tryz.f351)))))) false)
 (.cond (.tmp 14) (.seq (.region 3 (fJ (cL (cL (cR (cL (cR (cR (cf Tryz.f351)))))))) false) (.seq (.region 4 R4 true) (.cond (.tmp 22)
  (.seq (.region 5 (fJ (cL (cL (cR (cR (cL (cR (cL (cR (cR (cf Tryz.f351))))))))))) false) (.region 6 (fJ (cR (cL (cR (cR (cL (cR (cL (cR (cR (cf Tryz.f351))))))))))) false))
  (.region 7 (fJ (cR (cR (cR (cL (cR (cL (cR (cR (cf Tryz.f351)))))))))) true)))) .skip)) (.seq (.region 8 (fJ (cL (cR (cR (cR (cf Tryz.f351)))))) false) .ret))) := by kernel_rfl
noncomputable def o4 (i : Nat) : Oper := (R4.toList[i]?).getD (Oper.mk none (.move (.tmp 0)) 0 "" #[] none)
theorem dXm : R4[0]? = some (o4 0) := by kernel_rfl
theorem dTz : R4[1]? = some (o4 1) := by kernel_rfl
theorem dMd : R4[2]? = some (o4 2) := by kernel_rfl
theorem eAb : R4[3]? = some (o4 3) := by kernel_rfl
theorem eBb (rec : FuncId → List DV → Hp → aG) (env : aZ) (h : Hp) : bJ CF0 rec R4 (o4 0) env h = bQ [.b false] h := by kernel_rfl
theorem dMs (rec : FuncId → List DV → Hp → aG) (env : aZ) (h : Hp) : bJ CF0 rec R4 (o4 1) env h = aI 1 (env 21) (.b true) h := by kernel_rfl
theorem dPt (rec : FuncId → List DV → Hp → aG) (env : aZ) (h : Hp) : bJ CF0 rec R4 (o4 2) env h = aI 1 (env 21) (.b false) h := by kernel_rfl
theorem dXt (rec : FuncId → List DV → Hp → aG) (env : aZ) (h : Hp) : bJ CF0 rec R4 (o4 3) env h = aA (env 21) h := by kernel_rfl
theorem dPf : (o4 0).dst = some 21 := by kernel_rfl
theorem cKf : (o4 1).dst = none := by kernel_rfl
theorem cUx : (o4 2).dst = none := by kernel_rfl
theorem dWa : (o4 3).dst = some 22 := by kernel_rfl
theorem z4 : Array.replicate R4.size false = #[false, false, false, false] := by kernel_rfl
theorem y4 : R4.size = 4 := by kernel_rfl
theorem dWm : Region.ready .any R4 #[false, false, false, false] = [0] := by kernel_rfl
theorem dOv : Region.ready .any R4 #[true, false, false, false] = [1, 2] := by kernel_rfl
theorem dYm : Region.ready .any R4 #[true, true, false, false] = [2] := by kernel_rfl
theorem dWk : Region.ready .any R4 #[true, false, true, false] = [1] := by kernel_rfl
theorem eAx : Region.ready .any R4 #[true, true, true, false] = [3] := by kernel_rfl
theorem eBm : Region.ready .any R4 #[true, true, true, true] = [] := by kernel_rfl
theorem eCh : (#[false, false, false, false] : Array Bool).setIfInBounds 0 true = #[true, false, false, false] := by kernel_rfl
theorem dZj : (#[true, false, false, false] : Array Bool).setIfInBounds 1 true = #[true, true, false, false] := by kernel_rfl
theorem dZp : (#[true, false, false, false] : Array Bool).setIfInBounds 2 true = #[true, false, true, false] := by kernel_rfl
theorem dYl : (#[true, true, false, false] : Array Bool).setIfInBounds 2 true = #[true, true, true, false] := by kernel_rfl
theorem dWq : (#[true, false, true, false] : Array Bool).setIfInBounds 1 true = #[true, true, true, false] := by kernel_rfl
theorem dWt : (#[true, true, true, false] : Array Bool).setIfInBounds 3 true = #[true, true, true, true] := by kernel_rfl
theorem cRq {C : Cfg} {rec : FuncId → List DV → Hp → aG} {nt f i : Nat} {ops : Array Oper} {jX : aZ → Hp → Prop} {listed l' : Array Bool} {env : aZ} {h h' : Hp} {o : Oper} {v : DV} (hr : Region.ready .any ops listed = [i])
  (ho : ops[i]? = some o) (hf : dA nt o.dst = true) (hs : bJ C rec ops o env h = some (v, h')) (hl : listed.setIfInBounds i true = l') (hn : aLr C rec nt ops jX f l' (bM env o.dst v) h') : aLr C rec nt ops jX (f + 1) listed env h := by
 refine ⟨fun e => ?_, fun j hj => ?_⟩
 ·rw [hr] at e; cases e
 ·rw [hr] at hj
  simp only [List.mem_singleton] at hj
  subst hj
  exact ⟨o, v, h', ho, hf, hs, by rw [hl]; exact hn⟩
structure After (h h' : Hp) : Prop where
 next : h'.next = h.next.succ
 get : ∀ b, b ≠ h.next → h'.bl.get b = h.bl.get b
theorem eBy {rec : FuncId → List DV → Hp → aG} {jX : aZ → Hp → Prop} {env : aZ} {h : Hp} (H : ∀ x h', After h h' → jX (bM (bM env (some 21) (.p h.next 0)) (some 22) (.b x)) h') :
  aLr CF0 rec 49 R4 jX R4.size (Array.replicate R4.size false) env h := by
 rw [z4, y4]
 have st : ∀ (n : Pos) (bl : Tr Ob) (x y : Bool), bl.get h.next = some (.row .ex [.b y]) → aI 1 (.p h.next 0) (.b x) ⟨n, bl⟩ = some (aR, ⟨n, Tr.set (.row .ex [.b x]) h.next bl⟩) := fun n bl x y e => by
  simp only [aI, eA, cV, e, Kind.writable, List.length_singleton, if_true, fT, jY, DV.one, Bool.and_self, Option.map_some]
 have ld : ∀ (n : Pos) (bl : Tr Ob) (x : Bool), bl.get h.next = some (.row .ex [.b x]) → aA (.p h.next 0) ⟨n, bl⟩ = some (.b x, ⟨n, bl⟩) := fun n bl x e => by
  simp only [aA, cellD, rowOf, e, List.getElem?_cons_zero, DV.one, if_true]
 have g0 : ∀ (t : Tr Ob) (x : Bool), (Tr.set (.row .ex [.b x]) h.next t).get h.next = some (.row .ex [.b x]) := fun t x => eCm _ _ _
 have go : ∀ (t : Tr Ob) (x : Bool) (b : Pos), b ≠ h.next → (Tr.set (.row .ex [.b x]) h.next t).get b = t.get b := fun t x b e => eCl _ _ _ _ e
 have fin : ∀ (t : Tr Ob) (x : Bool), (∀ b, b ≠ h.next → t.get b = h.bl.get b) → t.get h.next = some (.row .ex [.b x]) →
   aLr CF0 rec 49 R4 jX 1 #[true, true, true, false] (bM env (some 21) (.p h.next 0)) ⟨h.next.succ, t⟩ := fun t x e1 e2 => by
  refine cRq eAx eAb (by rw [dWa]; rfl) ((dXt _ _ _).trans (ld _ _ x e2)) dWt ?_
  rw [dWa]
  exact ⟨eBm, H x _ ⟨rfl, e1⟩⟩
 refine cRq dWm dXm (by rw [dPf]; rfl) (eBb _ _ _) eCh ?_
 rw [dPf]
 refine ⟨fun e => (by rw [dOv] at e; cases e), fun j hj => ?_⟩
 rw [dOv] at hj
 simp only [List.mem_cons, List.not_mem_nil, or_false] at hj
 rcases hj with rfl | rfl
 ·refine ⟨_, _, _, dTz, by rw [cKf]; rfl, (dMs _ _ _).trans (st _ _ true false (g0 _ _)), ?_⟩
  rw [dZj, cKf]
  refine cRq dYm dMd (by rw [cUx]; rfl) ((dPt _ _ _).trans (st _ _ false true (g0 _ _))) dYl ?_
  rw [cUx]
  exact fin _ false (fun b e => by rw [go _ _ _ e, go _ _ _ e, go _ _ _ e]) (g0 _ _)
 ·refine ⟨_, _, _, dMd, by rw [cUx]; rfl, (dPt _ _ _).trans (st _ _ false false (g0 _ _)), ?_⟩
  rw [dZp, cUx]
  refine cRq dWk dTz (by rw [cKf]; rfl) ((dMs _ _ _).trans (st _ _ true false (g0 _ _))) dWq ?_
  rw [cKf]
  exact fin _ true (fun b e => by rw [go _ _ _ e, go _ _ _ e, go _ _ _ e]) (g0 _ _)
end Go.Dd

namespace Go.Dd
open Go.Proofs
theorem bNy {h h' g : Hp} {x v : DV} (hg : ∀ b o, h.bl.get b = some o → h'.bl.get b = some o) (e : aA x h = some (v, g)) : aA x h' = some (v, h') := by
 have S : Sim true ⟨h'.next, h.bl⟩ h' := ⟨rfl, fun b o hb => ⟨o, hg b o hb, lE o⟩⟩
 have e' : aA x ⟨h'.next, h.bl⟩ = some (v, ⟨h'.next, h.bl⟩) := by
  unfold aA at e ⊢
  split at e <;> (try (cases e; done))
  rename_i b o
  change (match cellD b o ⟨h'.next, h.bl⟩ with
   | some v => some (v, (⟨h'.next, h.bl⟩ : Hp))
   | none => none) = _
  change (match cellD b o ⟨h'.next, h.bl⟩ with
   | some v => some (v, h)
   | none => none) = _ at e
  split at e <;> (try (cases e; done))
  rename_i u hu
  simp only [aV, bI] at e
  rw [e.1]
 obtain ⟨k, e1, e2⟩ := lC x _ _ S v _ e'
 obtain ⟨rfl, _⟩ := (show k = h' ∧ True by
  unfold aA at e1
  split at e1 <;> (try (cases e1; done))
  split at e1 <;> (try (cases e1; done))
  simp only [aV, bI] at e1
  exact ⟨e1.2.symm, trivial⟩)
 exact e1
theorem bQs {h h' g : Hp} {n : Nat} {x v : DV} (hg : ∀ b o, h.bl.get b = some o → h'.bl.get b = some o) (e : aK n x h = some (v, g)) : aK n x h' = some (v, h') := by
 have S : Sim true ⟨h'.next, h.bl⟩ h' := ⟨rfl, fun b o hb => ⟨o, hg b o hb, lE o⟩⟩
 have e' : aK n x ⟨h'.next, h.bl⟩ = some (v, ⟨h'.next, h.bl⟩) := by
  unfold aK at e ⊢
  split at e <;> (try (cases e; done))
  rename_i b o
  change (match cellsAt b o n ⟨h'.next, h.bl⟩ with
   | some v => some (DV.a v, (⟨h'.next, h.bl⟩ : Hp))
   | none => none) = _
  change (match cellsAt b o n ⟨h'.next, h.bl⟩ with
   | some v => some (DV.a v, h)
   | none => none) = _ at e
  split at e <;> (try (cases e; done))
  rename_i u hu
  simp only [aV, bI] at e
  rw [← e.1]
 obtain ⟨k, e1, e2⟩ := kW n x _ _ S v _ e'
 obtain ⟨rfl, _⟩ := (show k = h' ∧ True by
  unfold aK at e1
  split at e1 <;> (try (cases e1; done))
  split at e1 <;> (try (cases e1; done))
  simp only [aV, bI] at e1
  exact ⟨e1.2.symm, trivial⟩)
 exact e1
theorem cAw {q : Pos} {l1 v : DV} {cs : List DV} {h k : Hp} (e : jQ q l1 cs h = some (v, k)) : ∃ (n : Nat) (old : List DV) (t : Tr Ob), v = .l h.next 0 (n + 1) (n + 1) ∧ (∀ g, bV l1 g = some (.i .i64 (n : Int), g)) ∧
  old.length = n * 4 ∧ (∀ v ∈ old, v.one = true) ∧ k = ⟨h.next.succ, Tr.set (.row (.gr 4) (old ++ cs)) h.next t⟩ ∧ t.get q = h.bl.get q ∧ (∀ b, t.get b ≠ none → h.bl.get b ≠ none) ∧
  ∀ zs, jQ q l1 zs h = some (v, ⟨h.next.succ, Tr.set (.row (.gr 4) (old ++ zs)) h.next t⟩) := by
 unfold jQ at e
 split at e <;> (try (cases e; done))
 ·simp only [aV, bI] at e
  obtain ⟨rfl, rfl⟩ := e
  exact ⟨0, [], h.bl, rfl, fun g => rfl, rfl, by simp, rfl, rfl, fun b hb => hb, fun zs => rfl⟩
 ·rename_i b o len cap
  cases hc : (Nat.ble cap len && !(mI b q)) with
  | false => rw [hc] at e; cases e
  | true =>
   rw [hc] at e
   simp only [cnd] at e
   split at e <;> (try (cases e; done))
   rename_i es l old hb hold
   split at e <;> (try (cases e; done))
   rename_i hr
   simp only [aV, bI] at e
   obtain ⟨rfl, rfl⟩ := e
   have hq : q ≠ b := by
    simp only [Bool.and_eq_true, Bool.not_eq_true'] at hc
    exact Ne.symm (bEl hc.2)
   have hl : old.length = len * 4 ∧ ∀ v ∈ old, v.one = true := by
    unfold cellsAt at hold
    split at hold <;> (try (cases hold; done))
    obtain ⟨h1, _, _, h4⟩ := lN _ _ _ hold
    exact ⟨h1, h4⟩
   refine ⟨len, old, Tr.set (.row .sp (bR o l)) b h.bl, rfl, fun g => rfl, hl.1, hl.2, rfl, eCl _ _ _ _ hq, fun x hx => ?_, fun zs => ?_⟩
   ·by_cases e : x = b
    ·rw [e, hb]; simp
    ·rwa [eCl _ _ _ _ e] at hx
   ·unfold jQ
    dsimp only
    rw [hc]
    simp only [cnd, hb, hold, if_pos hr]
theorem bDu {q : Pos} {l1 x v : DV} {cs : List DV} {h h' k : Hp} (S : Sim true h h') (hx : mC 4 x h' = some (1, cs)) (e : jQ q l1 cs h = some (v, k)) : ∃ k', bF 4 56 l1 x h' = some (v, k') ∧ Sim true k k' := by
 unfold jQ at e
 split at e <;> (try (cases e; done))
 ·simp only [aV, bI] at e
  obtain ⟨rfl, rfl⟩ := e
  refine ⟨⟨h'.next.succ, Tr.set (.row (.gr 4) cs) h'.next h'.bl⟩, ?_, ?_⟩
  ·unfold bF
   rw [hx]
   dsimp only
   rw [if_neg (by simp), if_pos (by decide), S.next]
  ·rw [S.next]; exact S.setR _ _ _ _
 ·rename_i b o len cap
  cases hc : (Nat.ble cap len && !(mI b q)) with
  | false => rw [hc] at e; cases e
  | true =>
   rw [hc] at e
   simp only [cnd] at e
   split at e <;> (try (cases e; done))
   rename_i es l old hb hold
   split at e <;> (try (cases e; done))
   rename_i hr
   simp only [aV, bI] at e
   obtain ⟨rfl, rfl⟩ := e
   have hle : cap ≤ len := by
    simp only [Bool.and_eq_true] at hc
    exact Nat.le_of_ble_eq_true hc.1
   refine ⟨⟨h'.next.succ, Tr.set (.row (.gr 4) (old ++ cs)) h'.next (Tr.set (.row .sp (bR o l)) b h'.bl)⟩, ?_, ?_⟩
   ·unfold bF
    rw [hx]
    dsimp only
    rw [if_neg (by omega), S.row hb, S.cellsAt hold]
    dsimp only
    rw [if_pos hr.2.2, if_pos ⟨hr.1, hr.2.1⟩, S.next]
   ·rw [S.next]
    exact (S.setR .sp (bR o l) b h.next).setR _ _ _ _
theorem bCy : ∀ (old zs cs : List DV), zs.length = cs.length → (∀ v ∈ zs, v.one = true) → (∀ v ∈ cs, v.one = true) → fT old.length (old ++ zs) cs = some (old ++ cs)
 | [], zs, cs, hl, hz, hc => by
  show jY zs cs = some cs
  induction cs generalizing zs with
  | nil => cases zs with
   | nil => rfl
   | cons z zs => simp at hl
  | cons c cs ih => cases zs with
   | nil => simp at hl
   | cons z zs =>
    simp only [jY, hz z (by simp), hc c (by simp), Bool.and_self, if_true]
    rw [ih zs (by simpa using hl) (fun v hv => hz v (by simp [hv])) (fun v hv => hc v (by simp [hv]))]
    rfl
 | x :: old, zs, cs, hl, hz, hc => by
  show (fT old.length (old ++ zs) cs).map (x :: ·) = _
  rw [bCy old zs cs hl hz hc]
  rfl
end Go.Dd

namespace Go.Dd
open Go.Proofs
theorem bHz : (Tryz.prog.funcs.toList.all fun fn => !(fn.name == "runtime.NumGoroutine")) = true := by kernel_rfl
theorem Try_ok : POk Tryz.prog where
 mixed := by kernel_rfl
 names := by
  intro f fn hf
  have h := List.all_eq_true.1 bHz fn (by
   obtain ⟨hlt, rfl⟩ := Array.getElem?_eq_some_iff.1 hf
   simp)
  simpa using h
theorem KC0 : OkC CF0 (lL CF0 60) := ⟨fun G g F h => (by cases h), fun G g => aCr (C := CF0) Try_ok (fun G g F h => (by cases h)) 60 G g⟩
theorem cYh (e : aZ) (h : Hp) : aO CF0 Tryz.f351 e h = some (e 4, h) := by kernel_rfl
theorem dVu : Tryz.f351.ntmps = 49 := by kernel_rfl
theorem dRo : Tryz.prog.funcs[351]? = some Tryz.f351 := by kernel_rfl
theorem cSq : Tryz.f351.body = some (cf Tryz.f351) := by kernel_rfl
theorem dPh : eO CF0.P (fJ (cR (cR (cR (cL (cR (cL (cR (cR (cf Tryz.f351)))))))))) = true := by kernel_rfl
theorem bAg {X : Nat → aZ → Hp → Prop} {N : aZ → Hp → Prop} {env : aZ} {v : DV} {h h1 : Hp} (he : env 5 = v) (S : Sim true h1 h) :
  sA CF0 (lL CF0 60) 49 (.seq (.region 8 (fJ (cL (cR (cR (cR (cf Tryz.f351)))))) false) .ret) X (fun env h' => ∃ h2, aO CF0 Tryz.f351 env h' = some (v, h2) ∧ Le h2 h1) N env h := by
 refine wpS (aSp ?_)
 rw [rg8]
 refine tC fun _ => ?_
 exact ⟨h, (cYh _ _).trans (by rw [show (bM (bM env (some 48) (env 5)) (some 4) (env 5)) 4 = env 5 from rfl, he]), fun G ρ w H => H.sub S⟩
theorem aAo {F : Hp → aG} (hF : PureP F) {h g : Hp} {v : DV} (e : F h = some (v, g)) : g = h ∧ ∀ h', F h' = some (v, h') := hF h v g e
theorem sL {h g : Hp} {c : Pos} {o : Nat} {v : DV} (e : aA (.p c o) h = some (v, g)) : g = h ∧ ∃ u, h.bl.get c = some u := by
 change (match cellD c o h with
  | some v => some (v, h)
  | none => none) = _ at e
 split at e <;> (try (cases e; done))
 rename_i u hu
 simp only [aV, bI] at e
 refine ⟨e.2.symm, ?_⟩
 unfold cellD rowOf at hu
 cases hc : h.bl.get c with
 | none => rw [hc] at hu; cases hu
 | some u => exact ⟨u, rfl⟩
theorem rD {h g : Hp} {c : Pos} {o n : Nat} {v : DV} (e : aK n (.p c o) h = some (v, g)) : g = h ∧ (∃ u, h.bl.get c = some u) ∧ ∃ cs, v = .a cs ∧ cs.length = n ∧ ∀ x ∈ cs, x.one = true := by
 change (match cellsAt c o n h with
  | some cs => some (DV.a cs, h)
  | none => none) = _ at e
 split at e <;> (try (cases e; done))
 rename_i u hu
 simp only [aV, bI] at e
 refine ⟨e.2.symm, ?_⟩
 unfold cellsAt rowOf at hu
 cases hc : h.bl.get c with
 | none => rw [hc] at hu; cases hu
 | some ob =>
  refine ⟨⟨ob, rfl⟩, u, e.1.symm, ?_⟩
  rw [hc] at hu
  split at hu <;> (try (cases hu; done))
  obtain ⟨h1, _, _, h4⟩ := lN _ _ _ hu
  exact ⟨h1, h4⟩
theorem Sim.of_get {h h' : Hp} (e : h'.next = h.next) (g : ∀ b o, h.bl.get b = some o → h'.bl.get b = some o) : Sim true h h' := ⟨e, fun b o hb => ⟨o, g b o hb, lE o⟩⟩
theorem bSj (c : Pos) (h : Hp) : aY (.p c 0) h = some (.p c 0, h) := rfl
theorem dEg (c : Pos) (h : Hp) : aB 0 (.p c 0) h = some (.p c 0, h) := rfl
theorem dIi (c : Pos) (h : Hp) : aB 4 (.p c 0) h = some (.p c 4, h) := rfl
theorem aNb (env : aZ) (i : Nat) (v : DV) (j : Nat) (h : Nat.beq j i = false) : bM env (some i) v j = env j := by
 show (bif Nat.beq j i then v else env j) = _
 rw [h]; rfl
theorem bMy (env : aZ) (i : Nat) (v : DV) : bM env (some i) v i = v := by
 show (bif Nat.beq i i then v else env i) = _
 rw [Nat.beq_refl]; rfl
theorem mW : ∀ cs : List DV, (∀ v ∈ cs, v.one = true) → qW cs.length cs = some cs
 | [], _ => rfl
 | c :: cs, h => by
  show (if c.one then (qW cs.length cs).map (c :: ·) else none) = _
  rw [if_pos (h c (by simp)), mW cs fun v hv => h v (by simp [hv])]
  rfl
theorem bDy {cs : List DV} (h4 : cs.length = 4) (ho : ∀ v ∈ cs, v.one = true) (p n : Pos) (t : Tr Ob) : mC 4 (.l p 0 1 1) ⟨n, Tr.set (.row .ex cs) p t⟩ = some (1, cs) := by
 have e : cellsAt p 0 (1 * 4) ⟨n, Tr.set (.row .ex cs) p t⟩ = some cs := by
  unfold cellsAt rowOf
  simp only [eCm, List.drop_zero]
  rw [show 1 * 4 = cs.length by rw [h4]]
  exact mW cs ho
 simp only [mC, e]
theorem bKw {h h' : Hp} {n o : Nat} {q : Pos} {v : DV} (hg : h'.bl.get q = h.bl.get q) (e : aK n (.p q o) h = some (v, h)) : aK n (.p q o) h' = some (v, h') := by
 have e1 : cellsAt q o n h' = cellsAt q o n h := by
  unfold cellsAt rowOf
  rw [hg]
 change (match cellsAt q o n h with
  | some cs => some (DV.a cs, h)
  | none => none) = _ at e
 show (match cellsAt q o n h' with
  | some cs => some (DV.a cs, h')
  | none => none) = _
 rw [e1]
 split at e <;> (try (cases e; done))
 simp only [aV, bI] at e
 rw [e.1]
structure Way (g3 h5 : Hp) (c q : Pos) (l1 l2 n u : DV) (cs : List DV) (k3 k4 : Hp) (env : aZ) : Prop where
 fr : oG g3
 af : After g3 h5
 hl : aA (.p c 4) g3 = some (l1, g3)
 hx : aK 4 (.p q 0) g3 = some (.a cs, g3)
 ne : c ≠ q
 hn : bV l1 g3 = some (n, g3)
 ap : jQ q l1 cs ⟨g3.next.succ.succ, g3.bl⟩ = some (l2, k3)
 st : aI 1 (.p c 4) l2 k3 = some (u, k4)
 e0 : env 0 = .p c 0
 e3 : env 3 = .p q 0
 e5 : env 5 = n
section
theorem Way.up {g3 h5 : Hp} {c q : Pos} {l1 l2 n u : DV} {cs : List DV} {k3 k4 : Hp} {env : aZ} (W : Way g3 h5 c q l1 l2 n u cs k3 k4 env) : ∀ b o, g3.bl.get b = some o → h5.bl.get b = some o := fun b o hb => by
 rw [W.af.get b (fun e => ?_)]
 ·exact hb
 ·subst e; exact Nat.lt_irrefl _ (W.fr _ _ hb)
theorem Way.c5 {g3 h5 : Hp} {c q : Pos} {l1 l2 n u : DV} {cs : List DV} {k3 k4 : Hp} {env : aZ} (W : Way g3 h5 c q l1 l2 n u cs k3 k4 env) (n' : Pos) : aA (.p c 4) ⟨n', h5.bl⟩ = some (l1, ⟨n', h5.bl⟩) := bNy W.up W.hl
theorem Way.q5 {g3 h5 : Hp} {c q : Pos} {l1 l2 n u : DV} {cs : List DV} {k3 k4 : Hp} {env : aZ} (W : Way g3 h5 c q l1 l2 n u cs k3 k4 env) (n' : Pos) : aK 4 (.p q 0) ⟨n', h5.bl⟩ = some (.a cs, ⟨n', h5.bl⟩) := bQs W.up W.hx
theorem Way.len {g3 h5 : Hp} {c q : Pos} {l1 l2 n u : DV} {cs : List DV} {k3 k4 : Hp} {env : aZ} (W : Way g3 h5 c q l1 l2 n u cs k3 k4 env) (h : Hp) : bV l1 h = some (n, h) := (aAo (mE l1) W.hn).2 h
theorem Way.base {g3 h5 : Hp} {c q : Pos} {l1 l2 n u : DV} {cs : List DV} {k3 k4 : Hp} {env : aZ} (W : Way g3 h5 c q l1 l2 n u cs k3 k4 env) (o : Ob) : Sim true ⟨g3.next.succ.succ, g3.bl⟩ ⟨h5.next.succ, Tr.set o h5.next h5.bl⟩ := Sim.of_get (by rw [W.af.next]) fun b ob hb => by
 show (Tr.set o h5.next h5.bl).get b = _
 rw [eCl, W.up b ob hb]
 intro e
 have h1 := W.fr b ob hb
 have s1 := eCp g3.next
 rw [e, W.af.next] at h1
 omega
theorem Way.app {g3 h5 : Hp} {c q : Pos} {l1 l2 n u : DV} {cs : List DV} {k3 k4 : Hp} {env : aZ} (W : Way g3 h5 c q l1 l2 n u cs k3 k4 env) {hh : Hp} (S : Sim true ⟨g3.next.succ.succ, g3.bl⟩ hh) {y : DV} (hy : mC 4 y hh = some (1, cs)) : ∃ k', bF 4 56 l1 y hh = some (l2, k') ∧ ∃ k'', aI 1 (.p c 4) l2 k' = some (u, k'') ∧ Sim true k4 k'' := by
 obtain ⟨k', h1, h2⟩ := bDu S hy W.ap
 obtain ⟨k'', h3, h4⟩ := lG 1 _ _ _ _ h2 _ _ W.st
 exact ⟨k', h1, k'', h3, h4⟩
theorem Way.one {g3 h5 : Hp} {c q : Pos} {l1 l2 n u : DV} {cs : List DV} {k3 k4 : Hp} {env : aZ} (W : Way g3 h5 c q l1 l2 n u cs k3 k4 env) : cs.length = 4 ∧ ∀ v ∈ cs, v.one = true := by
 obtain ⟨_, _, cs', e, h1, h2⟩ := rD W.hx
 cases e
 exact ⟨h1, h2⟩
theorem Way.B {g3 h5 : Hp} {c q : Pos} {l1 l2 n u : DV} {cs : List DV} {k3 k4 : Hp} {env : aZ} (W : Way g3 h5 c q l1 l2 n u cs k3 k4 env) {X : Nat → aZ → Hp → Prop} {R N : aZ → Hp → Prop} (hN : ∀ env' h', env' 5 = n → Sim true k4 h' → N env' h') : sA CF0 (lL CF0 60) 49 (.region 7 (fJ (cR (cR (cR (cL (cR (cL (cR (cR (cf Tryz.f351)))))))))) true) X R N env h5 := by
 obtain ⟨k', h1, k'', h2, h3⟩ := W.app (W.base (.row .ex cs)) (bDy W.one.1 W.one.2 h5.next h5.next.succ h5.bl)
 have fl : bP (cB 0 h5.next) [(.i .i64 (Int.ofNat 0)), (.s []), (.i .i64 (Int.ofNat 0)), .l0] 1 [(0, 4, .a cs)] ⟨h5.next.succ, h5.bl⟩ = some (.l h5.next 0 1 1, ⟨h5.next.succ, Tr.set (.row .ex cs) h5.next h5.bl⟩) := by
  simp only [bP, mM, eA, W.one.1]
  simp [cB]
 refine dXx dPh ?_
 rw [rg7]
 simp only [W.e0, W.e3, bSj, aU, dEg, dIi, show resv 1 h5 = ⟨h5.next.succ, h5.bl⟩ from rfl, W.c5, W.q5, fl, h1, h2]
 refine tC fun _ => hN _ _ ?_ h3
 simp only [aNb, Nat.beq]
 exact W.e5
theorem Way.A {g3 h5 : Hp} {c q : Pos} {l1 l2 n u : DV} {cs : List DV} {k3 k4 : Hp} {env : aZ} (W : Way g3 h5 c q l1 l2 n u cs k3 k4 env) {X : Nat → aZ → Hp → Prop} {R N : aZ → Hp → Prop} (hN : ∀ env' h', env' 5 = n → Sim true k4 h' → N env' h') : sA CF0 (lL CF0 60) 49 (.seq (.region 5 (fJ (cL (cL (cR (cR (cL (cR (cL (cR (cR (cf Tryz.f351))))))))))) false)
  (.region 6 (fJ (cR (cL (cR (cR (cL (cR (cL (cR (cR (cf Tryz.f351))))))))))) false)) X R N env h5 := by
 obtain ⟨m, old, t, hl2, hm, hol, hoo, hk3, htq, htd, hz⟩ := cAw W.ap
 have hzz := hz [.i .i64 (Int.ofNat 0), .s [], .i .i64 (Int.ofNat 0), .l0]
 have hn : n = .i .i64 (m : Int) := by
  have e1 := W.len g3
  rw [hm] at e1
  simp only [aV, bI, and_true] at e1
  exact e1.symm
 dsimp only at hl2 hk3 htq htd hzz
 obtain ⟨_, uc, huc⟩ := sL W.hl
 have hcs : c ≠ g3.next.succ.succ := fun e => by
  have h1 := W.fr _ _ huc
  have s1 := eCp g3.next
  have s2 := eCp g3.next.succ
  rw [e] at h1
  omega
 obtain ⟨_, ⟨uq, huq⟩, _⟩ := rD W.hx
 have hqs : q ≠ g3.next.succ.succ := fun e => by
  have h1 := W.fr _ _ huq
  have s1 := eCp g3.next
  have s2 := eCp g3.next.succ
  rw [e] at h1
  omega
 have hst := W.st
 rw [hk3] at hst
 have hst2 : ∃ kd l l', t.get c = some (.row kd l) ∧ k4 = ⟨g3.next.succ.succ.succ, Tr.set (.row kd l') c (Tr.set (.row (.gr 4) (old ++ cs)) g3.next.succ.succ t)⟩ ∧
   ∀ zs, aI 1 (.p c 4) l2 ⟨g3.next.succ.succ.succ, Tr.set (.row (.gr 4) zs) g3.next.succ.succ t⟩ = some (u, ⟨g3.next.succ.succ.succ, Tr.set (.row kd l') c (Tr.set (.row (.gr 4) zs) g3.next.succ.succ t)⟩) := by
  rw [hl2] at hst ⊢
  simp only [aI, eA, List.length_singleton, if_true, cV, eCl _ _ _ _ hcs] at hst ⊢
  cases htc : t.get c with
  | none => rw [htc] at hst; cases hst
  | some o =>
   rw [htc] at hst
   cases o with
   | row kd l =>
    dsimp only at hst ⊢
    cases hw : kd.writable with
    | false => rw [hw] at hst; cases hst
    | true =>
     rw [hw, if_pos rfl] at hst
     cases hp : fT 4 l [.l g3.next.succ.succ 0 (m + 1) (m + 1)] with
     | none => rw [hp] at hst; cases hst
     | some l' =>
      rw [hp] at hst
      simp only [aV, bI] at hst
      exact ⟨kd, l, l', rfl, hst.2.symm, fun zs => by simp only [hw, if_true, hp, hst.1]⟩
   | it s p => cases hst
   | mp es => cases hst
   | big n t => cases hst
   | mi t => cases hst
 obtain ⟨kd, l, l', htc, hk4, hstz⟩ := hst2
 obtain ⟨k6, h6, S6⟩ := bDu (W.base (.row .ex [.i .i64 (Int.ofNat 0), .s [], .i .i64 (Int.ofNat 0), .l0])) (bDy rfl (by simp [DV.one]) h5.next h5.next.succ h5.bl) hzz
 obtain ⟨k7, h7, S7⟩ := lG 1 _ _ _ _ S6 _ _ (hstz _)
 have hqz := bKw (h' := ⟨g3.next.succ.succ.succ, Tr.set (.row kd l') c (Tr.set (.row (.gr 4) (old ++ [.i .i64 (Int.ofNat 0), .s [], .i .i64 (Int.ofNat 0), .l0])) g3.next.succ.succ t)⟩) (by
  show (Tr.set _ c (Tr.set _ _ t)).get q = _
  rw [eCl _ _ _ _ (Ne.symm W.ne), eCl _ _ _ _ hqs, htq]) W.hx
 obtain ⟨k8, h8, S8⟩ := kW 4 _ _ _ S7 _ _ hqz
 have hfin : aI 4 (.p g3.next.succ.succ (0 + m * 4)) (.a cs) ⟨g3.next.succ.succ.succ, Tr.set (.row kd l') c (Tr.set (.row (.gr 4) (old ++ [.i .i64 (Int.ofNat 0), .s [], .i .i64 (Int.ofNat 0), .l0])) g3.next.succ.succ t)⟩ =
   some (aR, ⟨g3.next.succ.succ.succ, Tr.set (.row (.gr 4) (old ++ cs)) g3.next.succ.succ (Tr.set (.row kd l') c (Tr.set (.row (.gr 4) (old ++ [.i .i64 (Int.ofNat 0), .s [], .i .i64 (Int.ofNat 0), .l0])) g3.next.succ.succ t))⟩) := by
  have hp := bCy old [.i .i64 (Int.ofNat 0), .s [], .i .i64 (Int.ofNat 0), .l0] cs (by rw [W.one.1]; rfl) (by simp [DV.one]) W.one.2
  simp only [aI, eA, W.one.1, if_true, cV, eCl _ _ _ _ (Ne.symm hcs), eCm, Kind.writable, Nat.zero_add, ← hol, hp]
 obtain ⟨k9, h9, S9⟩ := lG 4 _ _ _ _ S8 _ _ hfin
 have S10 : Sim true k4 k9 := by
  refine Sim.trans ?_ S9
  rw [hk4]
  refine Sim.of_get rfl fun b o hb => ?_
  change (Tr.set (.row kd l') c (Tr.set _ g3.next.succ.succ t)).get b = some o at hb
  show (Tr.set _ g3.next.succ.succ (Tr.set (.row kd l') c (Tr.set _ g3.next.succ.succ t))).get b = some o
  by_cases e1 : b = g3.next.succ.succ
  ·rw [e1] at hb ⊢
   rw [eCl _ _ _ _ (Ne.symm hcs), eCm] at hb
   rw [eCm, hb]
  ·rw [eCl _ _ _ _ e1]
   by_cases e2 : b = c
   ·rw [e2] at hb ⊢
    rw [eCm] at hb ⊢
    exact hb
   ·rw [eCl _ _ _ _ e2, eCl _ _ _ _ e1] at hb ⊢
    exact hb
 have fl : aP [(.i .i64 (Int.ofNat 0)), (.s []), (.i .i64 (Int.ofNat 0)), .l0] 1 [(0, 4, (.a [(.i .i64 (Int.ofNat 0)), (.s []), (.i .i64 (Int.ofNat 0)), .l0]))] h5 = some (.l h5.next 0 1 1, ⟨h5.next.succ, Tr.set (.row .ex [.i .i64 (Int.ofNat 0), .s [], .i .i64 (Int.ofNat 0), .l0]) h5.next h5.bl⟩) := by
  simp [aP, mM, eA]
 refine wpS (aSp ?_)
 rw [rg5]
 have c5 : aA (.p c 4) h5 = some (l1, h5) := W.c5 h5.next
 have ix : aE 4 l2 n k8 = some (.p g3.next.succ.succ (0 + m * 4), k8) := by
  rw [hl2, hn]
  show (if (0 : Int) ≤ (m : Int) ∧ (m : Int) < ((m + 1 : Nat) : Int) then some (DV.p g3.next.succ.succ (0 + (m : Int).toNat * 4), k8) else none) = _
  rw [if_pos (by omega)]
  simp
 simp only [W.e0, W.e3, bSj, aU, dEg, dIi, c5, W.len, fl, h6, h7]
 refine tC fun _ => aSp ?_
 rw [rg6]
 simp only [aNb, bMy, Nat.beq, W.e3, h8, aU, ix, h9]
 refine tC fun _ => hN _ _ ?_ S10
 simp only [aNb, Nat.beq]
 exact W.e5
end
theorem cFy {h h1 : Hp} {c q : Pos} {v : DV} (hr : sP c q h = some (v, h1)) (hf : oG h) {env : aZ} (e0 : env 0 = .p c 0) (e3 : env 3 = .p q 0)
  {X : Nat → aZ → Hp → Prop} {R N : aZ → Hp → Prop} (hN : ∀ env' h', env' 5 = v → Sim true h1 h' → N env' h') :
  sA CF0 (lL CF0 60) 49 (.seq (.region 3 (fJ (cL (cL (cR (cL (cR (cR (cf Tryz.f351)))))))) false) (.seq (.region 4 R4 true) (.cond (.tmp 22)
   (.seq (.region 5 (fJ (cL (cL (cR (cR (cL (cR (cL (cR (cR (cf Tryz.f351))))))))))) false) (.region 6 (fJ (cR (cL (cR (cR (cL (cR (cL (cR (cR (cf Tryz.f351))))))))))) false))
   (.region 7 (fJ (cR (cR (cR (cL (cR (cL (cR (cR (cf Tryz.f351)))))))))) true)))) X R N env h := by
 unfold sP at hr
 obtain ⟨l1, g1, hl1, hr⟩ := cQ hr
 obtain ⟨n, g2, hn, hr⟩ := cQ hr
 obtain ⟨x, g3, hx, hr⟩ := cQ hr
 obtain ⟨rfl, uc, huc⟩ := sL hl1
 have hn0 := hn
 obtain ⟨rfl, hn⟩ := aAo (mE l1) hn
 obtain ⟨rfl, ⟨uq, huq⟩, cs, rfl, hcl, hco⟩ := rD hx
 dsimp only at hr
 cases hcq : mI c q with
 | true => rw [hcq] at hr; cases hr
 | false =>
 rw [hcq] at hr
 have hcq' : c ≠ q := bEl hcq
 simp only [cnd, Bool.not_false] at hr
 obtain ⟨l2, k3, ha, hr⟩ := cQ hr
 obtain ⟨u, k4, hs, hr⟩ := cQ hr
 simp only [aV, bI] at hr
 obtain ⟨rfl, rfl⟩ := hr
 refine wpS (aSp ?_)
 rw [rg3]
 rw [show aY (env 0) g3 = some (.p c 0, g3) from by rw [e0]; rfl]
 show ∃ r, bnd (aA (.p c 4) g3) _ = some r
 rw [hl1]
 show ∃ r, bnd (bV l1 g3) _ = some r
 rw [hn0, aU]
 refine tC fun _ => ?_
 refine wpS (eAp (eBy fun x h5 A F5 => ?_))
 have W : Way g3 h5 c q l1 l2 n u cs k3 k4 (bM (bM (bM (bM (bM (bM (bM (bM (bM env (some 15) (env 0)) (some 16) (DV.p c 0)) (some 17) (DV.p c (0 + 0))) (some 18) (DV.p c (0 + 0 + 4))) (some 19) l1) (some 20) n) (some 5) n) (some 21) (DV.p g3.next 0)) (some 22) (DV.b x)) :=
  ⟨hf, A, hl1, hx, hcq', hn0, ha, hs, e0, e3, rfl⟩
 refine wpC (t := x) rfl ⟨fun _ => ?_, fun _ => ?_⟩
 ·exact W.A hN
 ·exact W.B hN
theorem bIs (c : Pos) (lit : List DV) (h : Hp) : cH (aH [.p c 0, .a lit] 1) h = some (.p h.next 0, ⟨h.next.succ, Tr.set (.row .ex lit) h.next h.bl⟩) := rfl
theorem dCp (G : Gd) : fV Tryz.prog G 351 aLz := by
 refine dFk (C := CF0) (rec := lL CF0 60) KC0 Try_ok dRo cSq fun args h v h1 hr hf => ?_
 unfold aLz at hr
 split at hr <;> (try (cases hr; done))
 rename_i c lit
 obtain ⟨vb, hb, h0, hr⟩ := cQ hr
 simp only [bQ, aV, bI] at h0
 obtain ⟨rfl, rfl⟩ := h0
 obtain ⟨ls, h2, hl, hr⟩ := cQ hr
 obtain ⟨rfl, _⟩ := sL hl
 obtain ⟨i, h3, hi, hr⟩ := cQ hr
 obtain ⟨tt, h4, ht, hif⟩ := cQ hr
 clear hr
 obtain ⟨rfl, hlt⟩ := aAo (xQ _ _ _) ht
 rw [dSf, dVu]
 refine wpS (aSp ?_)
 rw [rg0, bIs, aU]
 refine tC fun _ => ?_
 refine wpS (aSp ?_)
 rw [rg1]
 simp only [aNb, bMy, Nat.beq, show aH [.p c 0, .a lit] 0 = .p c 0 from rfl, bSj, aU, dEg, dIi, hl, hi]
 refine tC fun F4 => ?_
 refine wpS (wpS (aSp ?_))
 rw [rg2]
 simp only [aNb, bMy, Nat.beq, ht, aU]
 refine tC fun _ => ?_
 unfold aT at hif
 split at hif <;> (try (cases hif; done))
 ·refine wpC (t := true) rfl ⟨fun _ => ?_, fun e => (by cases e)⟩
  refine cFy hif F4 ?_ ?_ ?_
  ·rfl
  ·rfl
  ·intro env' h' e5 S
   exact bAg e5 S
 ·simp only [aV, bI] at hif
  obtain ⟨rfl, rfl⟩ := hif
  refine wpC (t := false) rfl ⟨fun e => (by cases e), fun _ => ?_⟩
  exact bAg rfl (Sim.refl _)
end Go.Dd

namespace Go.Dd
open Go.Proofs
theorem cOi : (itm.ops.toList.all fR) = true := by kernel_rfl
theorem cCp : Tryz.f414.body = some itm.code := by kernel_rfl
theorem dAm : ItOk Tryz.prog itm where
 pre := by kernel_rfl
 test := by kernel_rfl
 after := by kernel_rfl
 post := by kernel_rfl
 step := by kernel_rfl
 ops := List.all_eq_true.1 cOi
 dst := by kernel_rfl
 guard := by kernel_rfl
 op := ⟨#[3], by kernel_rfl⟩
 fn := ⟨Tryz.f414, Tryz.func414, cCp, by kernel_rfl, by kernel_rfl, by kernel_rfl⟩
theorem dYs : gC (cf Tryz.f495) = true := by kernel_rfl
theorem dRa : gC (cf Tryz.f283) = true := by kernel_rfl
theorem bBs {fn : Func} {c : Code} (h : fn.body = some c) : cf fn = c := by unfold cf; rw [h]
theorem dFr (f : FuncId) (hf : rgB f = true) (fn : Func) (c : Code) (h1 : Tryz.prog.funcs[f]? = some fn) (h2 : fn.body = some c) : gC c = true := by
 unfold rgB at hf
 simp only [Bool.or_eq_true] at hf
 rcases hf with hf | hf <;> (have e := Nat.eq_of_beq_eq_true hf; subst e)
 ·rw [Tryz.func495] at h1
  cases h1
  rw [← bBs h2]
  exact dYs
 ·rw [Tryz.func283] at h1
  cases h1
  rw [← bBs h2]
  exact dRa
end Go.Dd

namespace Go.Dd
open Go.RowKit (Below)
theorem HR.later {G : Gd} {ρ : Ren} {h : Hp} {w w' : World} (H : HR G ρ h w) (e : Below w.heap.size w w') : HR G ρ h w' where
 gl := fun k hk => (e.block k (Nat.lt_of_lt_of_le hk H.sz.1)).trans (H.gl k hk)
 sz := ⟨Nat.le_trans H.sz.1 e.size, fun k hk => Nat.lt_of_lt_of_le (H.sz.2 k hk) e.size⟩
 nx := H.nx
 ro := H.ro
 dom := H.dom
 lt := H.lt
 cell := fun b k l L i v h1 h2 h3 h4 => by
  obtain ⟨v', h5, h6⟩ := H.cell b k l L i v h1 h2 h3 h4
  exact ⟨v', by rw [e.cell (dW h5)]; exact h5, h6⟩
 spare := fun b l L es j h1 h2 h3 => by
  obtain ⟨v', h5⟩ := H.spare b l L es j h1 h2 h3
  exact ⟨v', by rw [e.cell (dW h5)]; exact h5⟩
 free := fun b a h1 h2 => by
  obtain ⟨v, hv⟩ := H.lt_cell h1
  rw [e.frozen (dW hv)]
  exact H.free b a h1 h2
 inj := H.inj
 ex := H.ex
 grone := H.grone
 itr := fun b o L h1 h2 h3 => by
  obtain ⟨a, b, x, c, d⟩ := H.itr b o L h1 h2 h3
  refine ⟨a, b, x, ?_, d⟩
  rw [e.block _ (Array.getElem?_eq_some_iff.1 c).1]
  exact c
 itj := H.itj
theorem Kp.later {G : Gd} {ρ : Ren} {h : Hp} {w w' : World} (H : HR G ρ h w) (e : Below w.heap.size w w') : Kp G w w' :=
 ⟨e.mono H.sz.1, fun k hk => e.block k (H.sz.2 k hk)⟩
def kY (ρ ρ2 : Ren) : Ren := fun b => match ρ b with
 | some L => some L
 | none => ρ2 b
section
variable {G G2 : Gd} {ρ ρ2 : Ren} {h g : Hp} {w w' : World} {J : Tr Ob}
theorem HR.join (H : HR G ρ h w) (hb : Below w.heap.size w w') (H2 : HR G2 ρ2 g w') (hG2 : G2.B = w.heap.size) (low : ∀ b L, ρ2 b = some L → h.next.toNat ≤ b.toNat)
  (hk : ∀ b o, g.bl.get b = some o → o.sg = true ∨ ∃ l, o = .row .ex l) (hn : h.next.toNat ≤ g.next.toNat)
  (hJ : ∀ b, J.get b = match h.bl.get b with
   | some o => some o
   | none => g.bl.get b) : HR G (kY ρ ρ2) ⟨g.next, J⟩ w' ∧ Ex G ρ (kY ρ ρ2) ∧ Ext ρ2 (kY ρ ρ2) := by
 have H' := H.later hb
 have e1 : Ext ρ (kY ρ ρ2) := fun b L hL => by unfold kY; rw [hL]
 have no : ∀ b, h.next.toNat ≤ b.toNat → ρ b = none := fun b hb => by
  cases e : ρ b with
  | none => rfl
  | some L => have := H.lt b L e; omega
 have e2 : Ext ρ2 (kY ρ ρ2) := fun b L hL => by unfold kY; rw [no b (low b L hL)]; exact hL
 have two : ∀ b o, J.get b = some o → (h.bl.get b = some o ∧ ∃ L, ρ b = some L ∧ kY ρ ρ2 b = some L) ∨ (g.bl.get b = some o ∧ ∃ L, ρ2 b = some L ∧ kY ρ ρ2 b = some L) := fun b o ho => by
  rw [hJ] at ho
  cases hh : h.bl.get b with
  | some o' =>
   rw [hh] at ho
   cases ho
   obtain ⟨L, hL⟩ := H.dom b _ hh
   exact .inl ⟨rfl, L, hL, e1 _ _ hL⟩
  | none =>
   rw [hh] at ho
   obtain ⟨L, hL⟩ := H2.dom b o ho
   exact .inr ⟨ho, L, hL, e2 _ _ hL⟩
 have cl : ∀ {b a}, Claims (kY ρ ρ2) ⟨g.next, J⟩ b a → (Claims ρ h b a ∧ ∀ l, J.get b = some (.row .ro l) → h.bl.get b = some (.row .ro l)) ∨ (Claims ρ2 g b a ∧ ¬ isRo g b ∧ ∀ l, J.get b ≠ some (.row .ro l)) := by
  rintro b a ⟨k, l, L, q1, q2, q3⟩
  change J.get b = some (.row k l) at q1
  rcases two b _ q1 with ⟨c1, L', c2, c3⟩ | ⟨c1, L', c2, c3⟩
  ·have c3' := c3.symm.trans q2
   cases c3'
   exact .inl ⟨⟨k, l, L, c1, c2, q3⟩, fun l' hl' => by rw [q1] at hl'; rw [c1]; exact hl'⟩
  ·have c3' := c3.symm.trans q2
   cases c3'
   refine .inr ⟨⟨k, l, L, c1, c2, q3⟩, ?_, ?_⟩
   ·rintro ⟨l', hl'⟩
    rw [c1] at hl'
    cases hl'
    rcases hk b _ c1 with hs | ⟨_, hs⟩ <;> cases hs
   ·intro l' hl'
    rw [q1] at hl'
    cases hl'
    rcases hk b _ c1 with hs | ⟨_, hs⟩ <;> cases hs
 have old : ∀ {b a}, Claims ρ h b a → a.block < w.heap.size := fun hc => by
  obtain ⟨v, hv⟩ := H.lt_cell hc
  exact dW hv
 have own2 : ∀ {k}, Own G2 k → Own G k ∧ w.heap.size ≤ k := fun {k} ho => by
  have h1 := ho.1
  rw [hG2] at h1
  exact ⟨⟨Nat.le_trans H.sz.1 h1, fun hX => by have := H.sz.2 k hX; omega⟩, h1⟩
 refine ⟨⟨H'.gl, H'.sz, Nat.le_trans H.nx hn, ?_, ?_, ?_, ?_, ?_, ?_, ?_, ?_, ?_, ?_, ?_⟩, ⟨e1, fun b L hL => ?_⟩, e2⟩
 ·rintro b a hc ⟨l, hl⟩
  rcases cl hc with ⟨c, hr⟩ | ⟨_, _, hr⟩
  ·exact H'.ro b a c ⟨l, hr l hl⟩
  ·exact absurd hl (hr l)
 ·intro b o ho
  rcases two b o ho with ⟨_, L, _, c⟩ | ⟨_, L, _, c⟩
  ·exact ⟨L, c⟩
  ·exact ⟨L, c⟩
 ·intro b L hL
  unfold kY at hL
  cases e : ρ b with
  | some L' => have := H.lt b L' e; show b.toNat < g.next.toNat; omega
  | none => rw [e] at hL; exact H2.lt b L hL
 ·intro b k l L i v ho hL hi hv
  rcases two b _ ho with ⟨c1, L', c2, c3⟩ | ⟨c1, L', c2, c3⟩
  ·have c3' := c3.symm.trans hL
   cases c3'
   obtain ⟨v', q1, q2⟩ := H'.cell b k l L i v c1 c2 hi hv
   exact ⟨v', q1, q2.mono e1⟩
  ·have c3' := c3.symm.trans hL
   cases c3'
   obtain ⟨v', q1, q2⟩ := H2.cell b k l L i v c1 c2 hi hv
   exact ⟨v', q1, q2.mono e2⟩
 ·intro b l L es j ho hL hj
  rcases two b _ ho with ⟨c1, L', c2, c3⟩ | ⟨c1, L', c2, c3⟩
  ·have c3' := c3.symm.trans hL
   cases c3'
   exact H'.spare b l L es j c1 c2 hj
  ·have c3' := c3.symm.trans hL
   cases c3'
   exact H2.spare b l L es j c1 c2 hj
 ·intro b a hc hr
  rcases cl hc with ⟨c, hro⟩ | ⟨c, hnr, _⟩
  ·refine H'.free b a c fun ⟨l, hl⟩ => hr ⟨l, ?_⟩
   show J.get b = _
   rw [hJ, hl]
  ·obtain ⟨q1, q2⟩ := H2.free b a c hnr
   exact ⟨q1, (own2 q2).1⟩
 ·intro b b' a hc hc' hr
  rcases cl hc with ⟨c, _⟩ | ⟨c, hnr, _⟩
  ·rcases cl hc' with ⟨c', _⟩ | ⟨c', hnr', _⟩
   ·refine H'.inj b b' a c c' fun ⟨l, hl⟩ => hr ⟨l, ?_⟩
    show J.get b = _
    rw [hJ, hl]
   ·have h1 := old c
    have h2 := (own2 (H2.free b' a c' hnr').2).2
    omega
  ·rcases cl hc' with ⟨c', _⟩ | ⟨c', hnr', _⟩
   ·have h1 := old c'
    have h2 := (own2 (H2.free b a c hnr).2).2
    omega
   ·exact H2.inj b b' a c c' hnr
 ·intro b l L ho hL
  have key : ∀ o, J.get b = some o → (o = .row .ro l ∨ o = .row .ex l) → L.sp = 0 := fun o ho' hor => by
   rcases two b o ho' with ⟨c1, L', c2, c3⟩ | ⟨c1, L', c2, c3⟩
   ·have c3' := c3.symm.trans hL
    cases c3'
    rcases hor with rfl | rfl
    ·exact H'.ex b l L (.inl c1) c2
    ·exact H'.ex b l L (.inr c1) c2
   ·have c3' := c3.symm.trans hL
    cases c3'
    rcases hor with rfl | rfl
    ·exact H2.ex b l L (.inl c1) c2
    ·exact H2.ex b l L (.inr c1) c2
  rcases ho with ho | ho
  ·exact key _ ho (.inl rfl)
  ·exact key _ ho (.inr rfl)
 ·intro b es l i v ho hi
  rcases two b _ ho with ⟨c1, _⟩ | ⟨c1, _⟩
  ·exact H'.grone b es l i v c1 hi
  ·exact H2.grone b es l i v c1 hi
 ·intro b o L h0 ho hL
  rcases two b o ho with ⟨c1, L', c2, c3⟩ | ⟨c1, L', c2, c3⟩
  ·have c3' := c3.symm.trans hL
   cases c3'
   obtain ⟨q1, q2, x, q3, q4⟩ := H'.itr b o L h0 c1 c2
   exact ⟨q1, q2, x, q3, q4.mono e1⟩
  ·have c3' := c3.symm.trans hL
   cases c3'
   obtain ⟨q1, q2, x, q3, q4⟩ := H2.itr b o L h0 c1 c2
   exact ⟨(own2 q1).1, q2, x, q3, q4.mono e2⟩
 ·intro b o b' o' L L' h0 h0' ho ho' hL hL' he
  have lo : ∀ {b o L}, o.sg = true → h.bl.get b = some o → ρ b = some L → L.bl < w.heap.size := fun {b o L} s1 s2 s3 => by
   obtain ⟨_, _, x, q, _⟩ := H.itr b o L s1 s2 s3
   exact (Array.getElem?_eq_some_iff.1 q).1
  rcases two b o ho with ⟨c1, K, c2, c3⟩ | ⟨c1, K, c2, c3⟩ <;> (have c3' := c3.symm.trans hL; cases c3') <;>
   rcases two b' o' ho' with ⟨d1, K', d2, d3⟩ | ⟨d1, K', d2, d3⟩ <;> (have d3' := d3.symm.trans hL'; cases d3')
  ·exact H'.itj b o b' o' L L' h0 h0' c1 d1 c2 d2 he
  ·have q1 := lo h0 c1 c2
   have q2 := (own2 (H2.itr b' o' L' h0' d1 d2).1).2
   omega
  ·have q1 := lo h0' d1 d2
   have q2 := (own2 (H2.itr b o L h0 c1 c2).1).2
   omega
  ·exact H2.itj b o b' o' L L' h0 h0' c1 d1 c2 d2 he
 ·unfold kY at hL
  cases e : ρ b with
  | some L' => rw [e] at hL; exact .inl hL
  | none =>
   rw [e] at hL
   exact .inr (Nat.le_trans H.nx (low b L hL))
end
end Go.Dd

namespace Go.Proofs
open Go.Shelf
def Tryz.lays156_ren : Go.Shelf.Ren := ⟨fun | 156 => 23 | 165 => 38 | 166 => 39 | 169 => 40 | 240 => 63 | 241 => 64 | 276 => 110 | 277 => 111 | n => n, fun | 31 => 40 | 9 => 9 | 3 => 3 | 4 => 4 | 0 => 0 | 20 => 20 | 72 => 68 | 76 => 72 | 70 => 66 | 37 => 29 | 75 => 71 | 127 => 90 | 164 => 166 | 5 => 5 | 80 => 74 | n => n, fun | n => n⟩
theorem Tryz.lays156 : Go.Proofs.Lays.n156 Tryz.prog Tryz.lays156_ren := {
 mixed := by kernel_rfl
 f156 := Tryz.func23.trans (congrArg some (by kernel_rfl))
 f165 := Tryz.func38.trans (congrArg some (by kernel_rfl))
 f166 := Tryz.func39.trans (congrArg some (by kernel_rfl))
 f169 := Tryz.func40.trans (congrArg some (by kernel_rfl))
 f240 := Tryz.func63.trans (congrArg some (by kernel_rfl))
 f241 := Tryz.func64.trans (congrArg some (by kernel_rfl))
 f276 := Tryz.func110.trans (congrArg some (by kernel_rfl))
 f277 := Tryz.func111.trans (congrArg some (by kernel_rfl))
 t0 := Tryz.underlying0
 a0 := Tryz.isAgg0
 z0 := Tryz.sizeOf0
 v0 := Tryz.zeroValue0
 t3 := Tryz.underlying3
 a3 := Tryz.isAgg3
 z3 := Tryz.sizeOf3
 v3 := Tryz.zeroValue3
 t4 := Tryz.underlying4
 a4 := Tryz.isAgg4
 z4 := Tryz.sizeOf4
 v4 := Tryz.zeroValue4
 t9 := Tryz.underlying9
 a9 := Tryz.isAgg9
 z9 := Tryz.sizeOf9
 v9 := Tryz.zeroValue9
 t20 := Tryz.underlying20
 a20 := Tryz.isAgg20
 z20 := Tryz.sizeOf20
 v20 := Tryz.zeroValue20
 t31 := Tryz.underlying40
 a31 := Tryz.isAgg40
 z31 := Tryz.sizeOf40
 v31 := Tryz.zeroValue40
 t37 := Tryz.underlying29
 a37 := Tryz.isAgg29
 z37 := Tryz.sizeOf29
 v37 := Tryz.zeroValue29
 t70 := Tryz.underlying66
 a70 := Tryz.isAgg66
 z70 := Tryz.sizeOf66
 v70 := Tryz.zeroValue66
 t72 := Tryz.underlying68
 a72 := Tryz.isAgg68
 z72 := Tryz.sizeOf68
 v72 := Tryz.zeroValue68
 t75 := Tryz.underlying71
 a75 := Tryz.isAgg71
 z75 := Tryz.sizeOf71
 v75 := Tryz.zeroValue71
 t76 := Tryz.underlying72
 a76 := Tryz.isAgg72
 z76 := Tryz.sizeOf72
 v76 := Tryz.zeroValue72
 t127 := Tryz.underlying90
 a127 := Tryz.isAgg90
 z127 := Tryz.sizeOf90
 v127 := Tryz.zeroValue90
 t164 := Tryz.underlying166
 a164 := Tryz.isAgg166
 z164 := Tryz.sizeOf166
 v164 := Tryz.zeroValue166 }
theorem Tryz.Builder_Extra_156 : Builder.Extra Tryz.prog Tryz.lays156_ren := {
 sizeBuilder := by kernel_rfl
 liesBuilder := by kernel_rfl
 t5 := Tryz.underlying5
 a5 := Tryz.isAgg5
 z5 := Tryz.sizeOf5
 v5 := Tryz.zeroValue5
 infoByte := by kernel_rfl
 cellsByte := by kernel_rfl
 sizeByte := by kernel_rfl
 neB5 := by decide }
open Go.RowKit in
theorem Tryz.strings_Join_none (a : Option Addr) (c : Nat) (sep : ByteArray) (w : World) :
  Calls Tryz.prog 23 #[.slice a 0 c, .string sep] w fun e w' => e = .returned (.string ⟨#[]⟩) ∧ w' = w := Any.strings_Join_none Tryz.lays156 Tryz.Builder_Extra_156 a c sep w
open Go.RowKit in
theorem Tryz.strings_Join (bk o c : Nat) (xs : List ByteArray) (sep : ByteArray) (w : World) (hcells : ∀ (j : Nat) x, xs[j]? = some x → w.cell? ⟨bk, o + j, none⟩ = some (.string x)) (hbk : bk < w.heap.size) (hN : xs.length ≤ 140737488355328) (hcap : xs.length ≤ c) (hlen : (Lib.join (xs.map (·.data.toList)) sep.data.toList).length ≤ 140737488355328) :
  Calls Tryz.prog 23 #[.slice (some ⟨bk, o, none⟩) xs.length c, .string sep] w fun e w' => e = .returned (.string ⟨(Lib.join (xs.map (·.data.toList)) sep.data.toList).toArray⟩) ∧ Below w.heap.size w w' := Any.strings_Join Tryz.lays156 Tryz.Builder_Extra_156 bk o c xs sep w hcells hbk hN hcap hlen
def Tryz.laysM171_ren : Go.Shelf.Ren := ⟨fun | 171 => 24 | 243 => 41 | 246 => 65 | 283 => 112 | 284 => 113 | 285 => 114 | 286 => 115 | 129 => 182 | 317 => 181 | 318 => 183 | 319 => 184 | 320 => 185 | 337 => 261 | 338 => 262 | n => n, fun | 3 => 3 | 9 => 9 | 2 => 2 | 4 => 4 | 171 => 169 | 0 => 0 | 53 => 170 | 37 => 29 | 5 => 5 | 173 => 173 | 212 => 242 | 51 => 95 | 20 => 20 | 213 => 243 | 46 => 177 | 232 => 392 | 233 => 393 | n => n, fun | 17 => 1 | 18 => 4 | 19 => 5 | n => n⟩
theorem Tryz.laysM171 : Go.Proofs.LaysM.n171 Tryz.prog Tryz.laysM171_ren := {
 mixed := by kernel_rfl
 f129 := Tryz.func182.trans (congrArg some (by kernel_rfl))
 f171 := Tryz.func24.trans (congrArg some (by kernel_rfl))
 f243 := Tryz.func41.trans (congrArg some (by kernel_rfl))
 f246 := Tryz.func65.trans (congrArg some (by kernel_rfl))
 f283 := Tryz.func112.trans (congrArg some (by kernel_rfl))
 f284 := Tryz.func113.trans (congrArg some (by kernel_rfl))
 f285 := Tryz.func114.trans (congrArg some (by kernel_rfl))
 f286 := Tryz.func115.trans (congrArg some (by kernel_rfl))
 f317 := Tryz.func181.trans (congrArg some (by kernel_rfl))
 f318 := Tryz.func183.trans (congrArg some (by kernel_rfl))
 f319 := Tryz.func184.trans (congrArg some (by kernel_rfl))
 f320 := Tryz.func185.trans (congrArg some (by kernel_rfl))
 f337 := Tryz.func261.trans (congrArg some (by kernel_rfl))
 f338 := Tryz.func262.trans (congrArg some (by kernel_rfl))
 t0 := Tryz.underlying0
 a0 := Tryz.isAgg0
 z0 := Tryz.sizeOf0
 v0 := Tryz.zeroValue0
 t2 := Tryz.underlying2
 a2 := Tryz.isAgg2
 z2 := Tryz.sizeOf2
 v2 := Tryz.zeroValue2
 t3 := Tryz.underlying3
 a3 := Tryz.isAgg3
 z3 := Tryz.sizeOf3
 v3 := Tryz.zeroValue3
 t4 := Tryz.underlying4
 a4 := Tryz.isAgg4
 z4 := Tryz.sizeOf4
 v4 := Tryz.zeroValue4
 t5 := Tryz.underlying5
 a5 := Tryz.isAgg5
 z5 := Tryz.sizeOf5
 v5 := Tryz.zeroValue5
 t9 := Tryz.underlying9
 a9 := Tryz.isAgg9
 z9 := Tryz.sizeOf9
 v9 := Tryz.zeroValue9
 t20 := Tryz.underlying20
 a20 := Tryz.isAgg20
 z20 := Tryz.sizeOf20
 v20 := Tryz.zeroValue20
 t37 := Tryz.underlying29
 a37 := Tryz.isAgg29
 z37 := Tryz.sizeOf29
 v37 := Tryz.zeroValue29
 t46 := Tryz.underlying177
 a46 := Tryz.isAgg177
 z46 := Tryz.sizeOf177
 v46 := Tryz.zeroValue177
 t51 := Tryz.underlying95
 a51 := Tryz.isAgg95
 z51 := Tryz.sizeOf95
 v51 := Tryz.zeroValue95
 t53 := Tryz.underlying170
 a53 := Tryz.isAgg170
 z53 := Tryz.sizeOf170
 v53 := Tryz.zeroValue170
 t171 := Tryz.underlying169
 a171 := Tryz.isAgg169
 z171 := Tryz.sizeOf169
 v171 := Tryz.zeroValue169
 t173 := Tryz.underlying173
 a173 := Tryz.isAgg173
 z173 := Tryz.sizeOf173
 v173 := Tryz.zeroValue173
 t212 := Tryz.underlying242
 a212 := Tryz.isAgg242
 z212 := Tryz.sizeOf242
 v212 := Tryz.zeroValue242
 t213 := Tryz.underlying243
 a213 := Tryz.isAgg243
 z213 := Tryz.sizeOf243
 t232 := Tryz.underlying392
 a232 := Tryz.isAgg392
 z232 := Tryz.sizeOf392
 v232 := Tryz.zeroValue392
 t233 := Tryz.underlying393
 a233 := Tryz.isAgg393
 z233 := Tryz.sizeOf393
 v233 := Tryz.zeroValue393
 g17 := by kernel_rfl
 g18 := by kernel_rfl
 g19 := by kernel_rfl
 i0 := by kernel_rfl
 i2 := by kernel_rfl
 i3 := by kernel_rfl
 i4 := by kernel_rfl
 i5 := by kernel_rfl
 i9 := by kernel_rfl
 i20 := by kernel_rfl
 i37 := by kernel_rfl
 i46 := by kernel_rfl
 i51 := by kernel_rfl
 i53 := by kernel_rfl
 i171 := by kernel_rfl
 i173 := by kernel_rfl
 i212 := by kernel_rfl
 i232 := by kernel_rfl
 i233 := by kernel_rfl
 m17 := by kernel_rfl
 m18 := by kernel_rfl
 m19 := by kernel_rfl }
open Go.RowKit Go.Sort Go.Lib in
theorem Tryz.strconv_Itoa (n : Int) (h0 : -9223372036854775808 ≤ n) (h1 : n ≤ 9223372036854775807) (w : World) (htab : Lib.TabIs Tryz.prog w "internal/strconv.uint64pow10" .u64 Lib.pow10Tab) :
  Calls Tryz.prog 24 #[.int .i64 n] w fun e w' => e = .returned (.string ⟨(Lib.itoa n).toArray⟩) ∧ ∃ k os, w' = grow (w.drewN k) os := Any.strconv_Itoa Tryz.laysM171 n h0 h1 w htab
def Tryz.laysC172_ren : Go.Shelf.Ren := ⟨fun | 172 => 124 | 244 => 194 | 245 => 195 | 247 => 269 | 279 => 270 | 280 => 271 | 281 => 272 | 282 => 273 | 287 => 330 | 316 => 331 | 171 => 24 | 205 => 332 | 321 => 402 | 322 => 403 | 243 => 41 | 246 => 65 | 283 => 112 | 284 => 113 | 285 => 114 | 286 => 115 | 129 => 182 | 317 => 181 | 318 => 183 | 319 => 184 | 320 => 185 | 337 => 261 | 338 => 262 | n => n, fun | 9 => 9 | 3 => 3 | 75 => 71 | 76 => 72 | 4 => 4 | 5 => 5 | 167 => 340 | 37 => 29 | 0 => 0 | 85 => 341 | 2 => 2 | 168 => 343 | 53 => 170 | 175 => 403 | 46 => 177 | 210 => 406 | 127 => 90 | 145 => 451 | 143 => 449 | 21 => 21 | 171 => 169 | 173 => 173 | 212 => 242 | 51 => 95 | 20 => 20 | 213 => 243 | 232 => 392 | 233 => 393 | 80 => 74 | n => n, fun | 15 => 6 | 16 => 7 | 17 => 1 | 18 => 4 | 19 => 5 | n => n⟩
theorem Tryz.laysC172 : Go.Proofs.LaysC.n172 Tryz.prog Tryz.laysC172_ren := {
 mixed := by kernel_rfl
 f129 := Tryz.func182.trans (congrArg some (by kernel_rfl))
 f171 := Tryz.func24.trans (congrArg some (by kernel_rfl))
 f172 := Tryz.func124.trans (congrArg some (by kernel_rfl))
 f205 := Tryz.func332.trans (congrArg some (by kernel_rfl))
 f243 := Tryz.func41.trans (congrArg some (by kernel_rfl))
 f244 := Tryz.func194.trans (congrArg some (by kernel_rfl))
 f245 := Tryz.func195.trans (congrArg some (by kernel_rfl))
 f246 := Tryz.func65.trans (congrArg some (by kernel_rfl))
 f247 := Tryz.func269.trans (congrArg some (by kernel_rfl))
 f279 := Tryz.func270.trans (congrArg some (by kernel_rfl))
 f280 := Tryz.func271.trans (congrArg some (by kernel_rfl))
 f281 := Tryz.func272.trans (congrArg some (by kernel_rfl))
 f282 := Tryz.func273.trans (congrArg some (by kernel_rfl))
 f283 := Tryz.func112.trans (congrArg some (by kernel_rfl))
 f284 := Tryz.func113.trans (congrArg some (by kernel_rfl))
 f285 := Tryz.func114.trans (congrArg some (by kernel_rfl))
 f286 := Tryz.func115.trans (congrArg some (by kernel_rfl))
 f287 := Tryz.func330.trans (congrArg some (by kernel_rfl))
 f316 := Tryz.func331.trans (congrArg some (by kernel_rfl))
 f317 := Tryz.func181.trans (congrArg some (by kernel_rfl))
 f318 := Tryz.func183.trans (congrArg some (by kernel_rfl))
 f319 := Tryz.func184.trans (congrArg some (by kernel_rfl))
 f320 := Tryz.func185.trans (congrArg some (by kernel_rfl))
 f321 := Tryz.func402.trans (congrArg some (by kernel_rfl))
 f322 := Tryz.func403.trans (congrArg some (by kernel_rfl))
 f337 := Tryz.func261.trans (congrArg some (by kernel_rfl))
 f338 := Tryz.func262.trans (congrArg some (by kernel_rfl))
 t0 := Tryz.underlying0
 a0 := Tryz.isAgg0
 z0 := Tryz.sizeOf0
 v0 := Tryz.zeroValue0
 t2 := Tryz.underlying2
 a2 := Tryz.isAgg2
 z2 := Tryz.sizeOf2
 v2 := Tryz.zeroValue2
 t3 := Tryz.underlying3
 a3 := Tryz.isAgg3
 z3 := Tryz.sizeOf3
 v3 := Tryz.zeroValue3
 t4 := Tryz.underlying4
 a4 := Tryz.isAgg4
 z4 := Tryz.sizeOf4
 v4 := Tryz.zeroValue4
 t5 := Tryz.underlying5
 a5 := Tryz.isAgg5
 z5 := Tryz.sizeOf5
 v5 := Tryz.zeroValue5
 t9 := Tryz.underlying9
 a9 := Tryz.isAgg9
 z9 := Tryz.sizeOf9
 v9 := Tryz.zeroValue9
 t20 := Tryz.underlying20
 a20 := Tryz.isAgg20
 z20 := Tryz.sizeOf20
 v20 := Tryz.zeroValue20
 t21 := Tryz.underlying21
 a21 := Tryz.isAgg21
 z21 := Tryz.sizeOf21
 v21 := Tryz.zeroValue21
 t37 := Tryz.underlying29
 a37 := Tryz.isAgg29
 z37 := Tryz.sizeOf29
 v37 := Tryz.zeroValue29
 t46 := Tryz.underlying177
 a46 := Tryz.isAgg177
 z46 := Tryz.sizeOf177
 v46 := Tryz.zeroValue177
 t51 := Tryz.underlying95
 a51 := Tryz.isAgg95
 z51 := Tryz.sizeOf95
 v51 := Tryz.zeroValue95
 t53 := Tryz.underlying170
 a53 := Tryz.isAgg170
 z53 := Tryz.sizeOf170
 v53 := Tryz.zeroValue170
 t75 := Tryz.underlying71
 a75 := Tryz.isAgg71
 z75 := Tryz.sizeOf71
 v75 := Tryz.zeroValue71
 t76 := Tryz.underlying72
 a76 := Tryz.isAgg72
 z76 := Tryz.sizeOf72
 v76 := Tryz.zeroValue72
 t85 := Tryz.underlying341
 a85 := Tryz.isAgg341
 z85 := Tryz.sizeOf341
 v85 := Tryz.zeroValue341
 t127 := Tryz.underlying90
 a127 := Tryz.isAgg90
 z127 := Tryz.sizeOf90
 v127 := Tryz.zeroValue90
 t143 := Tryz.underlying449
 a143 := Tryz.isAgg449
 z143 := Tryz.sizeOf449
 v143 := Tryz.zeroValue449
 t145 := Tryz.underlying451
 a145 := Tryz.isAgg451
 z145 := Tryz.sizeOf451
 v145 := Tryz.zeroValue451
 t167 := Tryz.underlying340
 a167 := Tryz.isAgg340
 z167 := Tryz.sizeOf340
 v167 := Tryz.zeroValue340
 t168 := Tryz.underlying343
 a168 := Tryz.isAgg343
 z168 := Tryz.sizeOf343
 v168 := Tryz.zeroValue343
 t171 := Tryz.underlying169
 a171 := Tryz.isAgg169
 z171 := Tryz.sizeOf169
 v171 := Tryz.zeroValue169
 t173 := Tryz.underlying173
 a173 := Tryz.isAgg173
 z173 := Tryz.sizeOf173
 v173 := Tryz.zeroValue173
 t175 := Tryz.underlying403
 a175 := Tryz.isAgg403
 z175 := Tryz.sizeOf403
 v175 := Tryz.zeroValue403
 t210 := Tryz.underlying406
 a210 := Tryz.isAgg406
 z210 := Tryz.sizeOf406
 v210 := Tryz.zeroValue406
 t212 := Tryz.underlying242
 a212 := Tryz.isAgg242
 z212 := Tryz.sizeOf242
 v212 := Tryz.zeroValue242
 t213 := Tryz.underlying243
 a213 := Tryz.isAgg243
 z213 := Tryz.sizeOf243
 t232 := Tryz.underlying392
 a232 := Tryz.isAgg392
 z232 := Tryz.sizeOf392
 v232 := Tryz.zeroValue392
 t233 := Tryz.underlying393
 a233 := Tryz.isAgg393
 z233 := Tryz.sizeOf393
 v233 := Tryz.zeroValue393
 g15 := by kernel_rfl
 g16 := by kernel_rfl
 g17 := by kernel_rfl
 g18 := by kernel_rfl
 g19 := by kernel_rfl
 t80 := Tryz.underlying74
 a80 := Tryz.isAgg74
 z80 := Tryz.sizeOf74
 v80 := Tryz.zeroValue74
 i0 := by kernel_rfl
 i2 := by kernel_rfl
 i3 := by kernel_rfl
 i4 := by kernel_rfl
 i5 := by kernel_rfl
 i9 := by kernel_rfl
 i20 := by kernel_rfl
 i21 := by kernel_rfl
 i37 := by kernel_rfl
 i46 := by kernel_rfl
 i51 := by kernel_rfl
 i53 := by kernel_rfl
 i75 := by kernel_rfl
 i76 := by kernel_rfl
 i80 := by kernel_rfl
 i85 := by kernel_rfl
 i127 := by kernel_rfl
 i143 := by kernel_rfl
 i145 := by kernel_rfl
 i167 := by kernel_rfl
 i168 := by kernel_rfl
 i171 := by kernel_rfl
 i173 := by kernel_rfl
 i175 := by kernel_rfl
 i210 := by kernel_rfl
 i212 := by kernel_rfl
 i232 := by kernel_rfl
 i233 := by kernel_rfl
 m15 := by kernel_rfl
 m16 := by kernel_rfl
 m17 := by kernel_rfl
 m18 := by kernel_rfl
 m19 := by kernel_rfl
 c0 := by kernel_rfl
 c2 := by kernel_rfl
 c3 := by kernel_rfl
 c4 := by kernel_rfl
 c5 := by kernel_rfl
 c9 := by kernel_rfl
 c20 := by kernel_rfl
 c21 := by kernel_rfl
 c37 := by kernel_rfl
 c46 := by kernel_rfl
 c51 := by kernel_rfl
 c53 := by kernel_rfl
 c75 := by kernel_rfl
 c76 := by kernel_rfl
 c80 := by kernel_rfl
 c85 := by kernel_rfl
 c127 := by kernel_rfl
 c143 := by kernel_rfl
 c145 := by kernel_rfl
 c167 := by kernel_rfl
 c168 := by kernel_rfl
 c171 := by kernel_rfl
 c173 := by kernel_rfl
 c175 := by kernel_rfl
 c210 := by kernel_rfl
 c212 := by kernel_rfl
 c213 := by kernel_rfl
 c232 := by kernel_rfl
 c233 := by kernel_rfl }
open Go.RowKit in
theorem Tryz.strconv_Atoi_ok (s : ByteArray) (hmax : s.size ≤ 9223372036854775806) (v : Int) (h : Lib.atoiAll s.data.toList = .ok v) (w : World) :
  Calls Tryz.prog 124 #[.string s] w fun e w' => e = .returned (.tuple #[.int .i64 v, .nilIface]) ∧ (w' = w ∨ ∃ t, w' = Lib.bytesWorld w 5 t) := Any.strconv_Atoi_ok Tryz.laysC172 s hmax v h w
open Go.RowKit in
theorem Tryz.strconv_Atoi_syntax (s : ByteArray) (hlim : s.size ≤ 281474976710656) (h : Lib.atoiAll s.data.toList = Lib.NumEnd.syntax) (ev : Value) (w : World) (hv : w.cell? ⟨6, 0, none⟩ = some ev) (hev : ev = .nilIface ∨ ∃ te pe, ev = .iface te pe) :
  Calls Tryz.prog 124 #[.string s] w fun e w' => ∃ N, e = .returned (.tuple #[.int .i64 (0), .iface 343 (.pointer (some ⟨N, 0, none⟩))]) ∧ w.heap.size ≤ N ∧ w'.heap[N]? = some (.cells #[.string ⟨#[65, 116, 111, 105]⟩, .string s, ev] 406 (0, 0)) ∧ Below w.heap.size w w' := Any.strconv_Atoi_syntax Tryz.laysC172 s hlim h ev w hv hev
open Go.RowKit in
theorem Tryz.strconv_Atoi_range (s : ByteArray) (hlim : s.size ≤ 281474976710656) (h : Lib.atoiAll s.data.toList = .range) (ev : Value) (w : World) (hv : w.cell? ⟨7, 0, none⟩ = some ev) (hev : ev = .nilIface ∨ ∃ te pe, ev = .iface te pe) :
  Calls Tryz.prog 124 #[.string s] w fun e w' => ∃ N, e = .returned (.tuple #[.int .i64 (Lib.atoiSat s.data.toList), .iface 343 (.pointer (some ⟨N, 0, none⟩))]) ∧ w.heap.size ≤ N ∧ w'.heap[N]? = some (.cells #[.string ⟨#[65, 116, 111, 105]⟩, .string s, ev] 406 (0, 0)) ∧ Below w.heap.size w w' := Any.strconv_Atoi_range Tryz.laysC172 s hlim h ev w hv hev
def Tryz.lays145_ren : Go.Shelf.Ren := ⟨fun | 145 => 33 | 220 => 49 | 219 => 72 | 217 => 45 | 225 => 120 | 224 => 121 | 267 => 122 | 266 => 68 | 314 => 192 | n => n, fun | 9 => 9 | 4 => 4 | 59 => 56 | 3 => 3 | 5 => 5 | 46 => 177 | 146 => 262 | 51 => 95 | n => n, fun | 1 => 0 | n => n⟩
theorem Tryz.lays145 : Go.Proofs.Lays.n145 Tryz.prog Tryz.lays145_ren := {
 mixed := by kernel_rfl
 f145 := Tryz.func33.trans (congrArg some (by kernel_rfl))
 f217 := Tryz.func45.trans (congrArg some (by kernel_rfl))
 f219 := Tryz.func72.trans (congrArg some (by kernel_rfl))
 f220 := Tryz.func49.trans (congrArg some (by kernel_rfl))
 f224 := Tryz.func121.trans (congrArg some (by kernel_rfl))
 f225 := Tryz.func120.trans (congrArg some (by kernel_rfl))
 f266 := Tryz.func68.trans (congrArg some (by kernel_rfl))
 f267 := Tryz.func122.trans (congrArg some (by kernel_rfl))
 f314 := Tryz.func192.trans (congrArg some (by kernel_rfl))
 t3 := Tryz.underlying3
 a3 := Tryz.isAgg3
 z3 := Tryz.sizeOf3
 v3 := Tryz.zeroValue3
 t4 := Tryz.underlying4
 a4 := Tryz.isAgg4
 z4 := Tryz.sizeOf4
 v4 := Tryz.zeroValue4
 t5 := Tryz.underlying5
 a5 := Tryz.isAgg5
 z5 := Tryz.sizeOf5
 v5 := Tryz.zeroValue5
 t9 := Tryz.underlying9
 a9 := Tryz.isAgg9
 z9 := Tryz.sizeOf9
 v9 := Tryz.zeroValue9
 t46 := Tryz.underlying177
 a46 := Tryz.isAgg177
 z46 := Tryz.sizeOf177
 v46 := Tryz.zeroValue177
 t51 := Tryz.underlying95
 a51 := Tryz.isAgg95
 z51 := Tryz.sizeOf95
 v51 := Tryz.zeroValue95
 t59 := Tryz.underlying56
 a59 := Tryz.isAgg56
 z59 := Tryz.sizeOf56
 v59 := Tryz.zeroValue56
 t146 := Tryz.underlying262
 a146 := Tryz.isAgg262
 z146 := Tryz.sizeOf262
 v146 := Tryz.zeroValue262
 g1 := by kernel_rfl }
open Go.RowKit Go.Lib in
theorem Tryz.strings_Cut (s sep : ByteArray) (m : Int) (w : World) (hs : s.size < 4294967281) (hm : w.cell? ⟨0, 0, none⟩ = some (.int .i64 m)) :
  Calls Tryz.prog 33 #[.string s, .string sep] w fun e w' => e = .returned (.tuple #[.string ⟨(Lib.cut s.data.toList sep.data.toList).1.toArray⟩, .string ⟨(Lib.cut s.data.toList sep.data.toList).2.1.toArray⟩, .bool (Lib.cut s.data.toList sep.data.toList).2.2]) ∧ ∃ n, w' = w.drewN n := Any.strings_Cut Tryz.lays145 s sep m w hs hm
def Tryz.lays138_ren : Go.Shelf.Ren := ⟨fun | 138 => 47 | 195 => 69 | 218 => 71 | 143 => 48 | 219 => 72 | 217 => 45 | 225 => 120 | 224 => 121 | 267 => 122 | 266 => 68 | 314 => 192 | n => n, fun | 9 => 9 | 3 => 3 | 4 => 4 | 5 => 5 | 0 => 0 | 46 => 177 | 146 => 262 | 51 => 95 | n => n, fun | 1 => 0 | n => n⟩
theorem Tryz.lays138 : Go.Proofs.Lays.n138 Tryz.prog Tryz.lays138_ren := {
 mixed := by kernel_rfl
 f138 := Tryz.func47.trans (congrArg some (by kernel_rfl))
 f143 := Tryz.func48.trans (congrArg some (by kernel_rfl))
 f195 := Tryz.func69.trans (congrArg some (by kernel_rfl))
 f217 := Tryz.func45.trans (congrArg some (by kernel_rfl))
 f218 := Tryz.func71.trans (congrArg some (by kernel_rfl))
 f219 := Tryz.func72.trans (congrArg some (by kernel_rfl))
 f224 := Tryz.func121.trans (congrArg some (by kernel_rfl))
 f225 := Tryz.func120.trans (congrArg some (by kernel_rfl))
 f266 := Tryz.func68.trans (congrArg some (by kernel_rfl))
 f267 := Tryz.func122.trans (congrArg some (by kernel_rfl))
 f314 := Tryz.func192.trans (congrArg some (by kernel_rfl))
 t0 := Tryz.underlying0
 a0 := Tryz.isAgg0
 z0 := Tryz.sizeOf0
 v0 := Tryz.zeroValue0
 t3 := Tryz.underlying3
 a3 := Tryz.isAgg3
 z3 := Tryz.sizeOf3
 v3 := Tryz.zeroValue3
 t4 := Tryz.underlying4
 a4 := Tryz.isAgg4
 z4 := Tryz.sizeOf4
 v4 := Tryz.zeroValue4
 t5 := Tryz.underlying5
 a5 := Tryz.isAgg5
 z5 := Tryz.sizeOf5
 v5 := Tryz.zeroValue5
 t9 := Tryz.underlying9
 a9 := Tryz.isAgg9
 z9 := Tryz.sizeOf9
 v9 := Tryz.zeroValue9
 t46 := Tryz.underlying177
 a46 := Tryz.isAgg177
 z46 := Tryz.sizeOf177
 v46 := Tryz.zeroValue177
 t51 := Tryz.underlying95
 a51 := Tryz.isAgg95
 z51 := Tryz.sizeOf95
 v51 := Tryz.zeroValue95
 t146 := Tryz.underlying262
 a146 := Tryz.isAgg262
 z146 := Tryz.sizeOf262
 v146 := Tryz.zeroValue262
 g1 := by kernel_rfl }
open Go.RowKit Go.Lib in
theorem Tryz.strings_Count_one (s : ByteArray) (c : UInt8) (w : World) :
  Calls Tryz.prog 47 #[.string s, .string ⟨#[c]⟩] w fun e w' => e = .returned (.int .i64 (Lib.countByte s.data.toList c)) ∧ w' = w := Any.strings_Count_one Tryz.lays138 s c w
def Tryz.laysM143_ren : Go.Shelf.Ren := ⟨fun | 143 => 48 | 219 => 72 | 217 => 45 | 225 => 120 | 224 => 121 | 267 => 122 | 266 => 68 | 314 => 192 | n => n, fun | 9 => 9 | 3 => 3 | 4 => 4 | 5 => 5 | 46 => 177 | 146 => 262 | 51 => 95 | n => n, fun | 1 => 0 | n => n⟩
theorem Tryz.laysM143 : Go.Proofs.LaysM.n143 Tryz.prog Tryz.laysM143_ren := {
 mixed := by kernel_rfl
 f143 := Tryz.func48.trans (congrArg some (by kernel_rfl))
 f217 := Tryz.func45.trans (congrArg some (by kernel_rfl))
 f219 := Tryz.func72.trans (congrArg some (by kernel_rfl))
 f224 := Tryz.func121.trans (congrArg some (by kernel_rfl))
 f225 := Tryz.func120.trans (congrArg some (by kernel_rfl))
 f266 := Tryz.func68.trans (congrArg some (by kernel_rfl))
 f267 := Tryz.func122.trans (congrArg some (by kernel_rfl))
 f314 := Tryz.func192.trans (congrArg some (by kernel_rfl))
 t3 := Tryz.underlying3
 a3 := Tryz.isAgg3
 z3 := Tryz.sizeOf3
 v3 := Tryz.zeroValue3
 t4 := Tryz.underlying4
 a4 := Tryz.isAgg4
 z4 := Tryz.sizeOf4
 v4 := Tryz.zeroValue4
 t5 := Tryz.underlying5
 a5 := Tryz.isAgg5
 z5 := Tryz.sizeOf5
 v5 := Tryz.zeroValue5
 t9 := Tryz.underlying9
 a9 := Tryz.isAgg9
 z9 := Tryz.sizeOf9
 v9 := Tryz.zeroValue9
 t46 := Tryz.underlying177
 a46 := Tryz.isAgg177
 z46 := Tryz.sizeOf177
 v46 := Tryz.zeroValue177
 t51 := Tryz.underlying95
 a51 := Tryz.isAgg95
 z51 := Tryz.sizeOf95
 v51 := Tryz.zeroValue95
 t146 := Tryz.underlying262
 a146 := Tryz.isAgg262
 z146 := Tryz.sizeOf262
 v146 := Tryz.zeroValue262
 g1 := by kernel_rfl
 i3 := by kernel_rfl
 i4 := by kernel_rfl
 i5 := by kernel_rfl
 i9 := by kernel_rfl
 i46 := by kernel_rfl
 i51 := by kernel_rfl
 i146 := by kernel_rfl
 m1 := by kernel_rfl
 s1_3 := fun w h => Go.Proofs.cell_of_shapedOpen_int (zero := #[.int .i64 0]) (t := 3) h (of_decide_eq_true (by kernel_rfl)) (by kernel_rfl) rfl (by kernel_rfl) (by kernel_rfl) Tryz.underlying3 }
def Tryz.lays221_ren : Go.Shelf.Ren := ⟨fun | 221 => 32 | 268 => 46 | 138 => 47 | 143 => 48 | 195 => 69 | 197 => 70 | 218 => 71 | 219 => 72 | 260 => 119 | 217 => 45 | 225 => 120 | 224 => 121 | 267 => 122 | 266 => 68 | 314 => 192 | n => n, fun | 9 => 9 | 3 => 3 | 31 => 40 | 4 => 4 | 0 => 0 | 105 => 109 | 21 => 21 | 5 => 5 | 46 => 177 | 119 => 252 | 139 => 261 | 138 => 260 | 146 => 262 | 51 => 95 | n => n, fun | 1 => 0 | 3 => 2 | 4 => 3 | n => n⟩
theorem Tryz.lays221 : Go.Proofs.Lays.n221 Tryz.prog Tryz.lays221_ren := {
 mixed := by kernel_rfl
 f138 := Tryz.func47.trans (congrArg some (by kernel_rfl))
 f143 := Tryz.func48.trans (congrArg some (by kernel_rfl))
 f195 := Tryz.func69.trans (congrArg some (by kernel_rfl))
 f197 := Tryz.func70.trans (congrArg some (by kernel_rfl))
 f217 := Tryz.func45.trans (congrArg some (by kernel_rfl))
 f218 := Tryz.func71.trans (congrArg some (by kernel_rfl))
 f219 := Tryz.func72.trans (congrArg some (by kernel_rfl))
 f221 := Tryz.func32.trans (congrArg some (by kernel_rfl))
 f224 := Tryz.func121.trans (congrArg some (by kernel_rfl))
 f225 := Tryz.func120.trans (congrArg some (by kernel_rfl))
 f260 := Tryz.func119.trans (congrArg some (by kernel_rfl))
 f266 := Tryz.func68.trans (congrArg some (by kernel_rfl))
 f267 := Tryz.func122.trans (congrArg some (by kernel_rfl))
 f268 := Tryz.func46.trans (congrArg some (by kernel_rfl))
 f314 := Tryz.func192.trans (congrArg some (by kernel_rfl))
 t0 := Tryz.underlying0
 a0 := Tryz.isAgg0
 z0 := Tryz.sizeOf0
 v0 := Tryz.zeroValue0
 t3 := Tryz.underlying3
 a3 := Tryz.isAgg3
 z3 := Tryz.sizeOf3
 v3 := Tryz.zeroValue3
 t4 := Tryz.underlying4
 a4 := Tryz.isAgg4
 z4 := Tryz.sizeOf4
 v4 := Tryz.zeroValue4
 t5 := Tryz.underlying5
 a5 := Tryz.isAgg5
 z5 := Tryz.sizeOf5
 v5 := Tryz.zeroValue5
 t9 := Tryz.underlying9
 a9 := Tryz.isAgg9
 z9 := Tryz.sizeOf9
 v9 := Tryz.zeroValue9
 t21 := Tryz.underlying21
 a21 := Tryz.isAgg21
 z21 := Tryz.sizeOf21
 v21 := Tryz.zeroValue21
 t31 := Tryz.underlying40
 a31 := Tryz.isAgg40
 z31 := Tryz.sizeOf40
 v31 := Tryz.zeroValue40
 t46 := Tryz.underlying177
 a46 := Tryz.isAgg177
 z46 := Tryz.sizeOf177
 v46 := Tryz.zeroValue177
 t51 := Tryz.underlying95
 a51 := Tryz.isAgg95
 z51 := Tryz.sizeOf95
 v51 := Tryz.zeroValue95
 t105 := Tryz.underlying109
 a105 := Tryz.isAgg109
 z105 := Tryz.sizeOf109
 v105 := Tryz.zeroValue109
 t119 := Tryz.underlying252
 a119 := Tryz.isAgg252
 z119 := Tryz.sizeOf252
 t138 := Tryz.underlying260
 a138 := Tryz.isAgg260
 z138 := Tryz.sizeOf260
 v138 := Tryz.zeroValue260
 t139 := Tryz.underlying261
 a139 := Tryz.isAgg261
 z139 := Tryz.sizeOf261
 v139 := Tryz.zeroValue261
 t146 := Tryz.underlying262
 a146 := Tryz.isAgg262
 z146 := Tryz.sizeOf262
 v146 := Tryz.zeroValue262
 g1 := by kernel_rfl
 g3 := by kernel_rfl
 g4 := by kernel_rfl }
open Go.RowKit Go.Lib in
theorem Tryz.strings_genSplit (s sep : ByteArray) (sv : Nat) (n : Int) (N : Nat) (m : Int) (w : World) (hs : s.size < 4294967281) (hm : w.cell? ⟨0, 0, none⟩ = some (.int .i64 m)) (h1 : 1 ≤ sep.size) (hsv : sv ≤ sep.size) (hn0 : n ≠ 0) (hn63 : n ≤ 9223372036854775807) (hN : (N : Int) = min (if n < 0 then (Lib.countB s sep : Int) + 1 else n) ((s.size : Int) + 1)) :
  Calls Tryz.prog 32 #[.string s, .string sep, .int .i64 sv, .int .i64 n] w fun e w' =>
   e = .returned (.slice (some ⟨w.heap.size, 0, none⟩) (Lib.splitB sep sv (N - 1) s).length N) ∧ w' = w.alloc (.cells (Lib.cellsOf (Lib.splitB sep sv (N - 1) s) N) 9) := Any.strings_genSplit Tryz.lays221 (by kernel_rfl) s sep sv n N m w hs hm h1 hsv hn0 hn63 hN
def Tryz.lays155_ren : Go.Shelf.Ren := ⟨fun | 155 => 235 | 154 => 315 | 138 => 47 | 165 => 38 | 143 => 48 | 166 => 39 | 197 => 70 | 169 => 40 | 195 => 69 | 218 => 71 | 240 => 63 | 241 => 64 | 219 => 72 | 260 => 119 | 276 => 110 | 277 => 111 | 217 => 45 | 225 => 120 | 224 => 121 | 267 => 122 | 266 => 68 | 314 => 192 | n => n, fun | 9 => 9 | 3 => 3 | 4 => 4 | 72 => 68 | 0 => 0 | 76 => 72 | 105 => 109 | 21 => 21 | 5 => 5 | 70 => 66 | 20 => 20 | 37 => 29 | 75 => 71 | 127 => 90 | 164 => 166 | 46 => 177 | 119 => 252 | 139 => 261 | 138 => 260 | 146 => 262 | 51 => 95 | 80 => 74 | n => n, fun | 1 => 0 | 3 => 2 | 4 => 3 | n => n⟩
theorem Tryz.lays155 : Go.Proofs.Lays.n155 Tryz.prog Tryz.lays155_ren := {
 mixed := by kernel_rfl
 f138 := Tryz.func47.trans (congrArg some (by kernel_rfl))
 f143 := Tryz.func48.trans (congrArg some (by kernel_rfl))
 f154 := Tryz.func315.trans (congrArg some (by kernel_rfl))
 f155 := Tryz.func235.trans (congrArg some (by kernel_rfl))
 f165 := Tryz.func38.trans (congrArg some (by kernel_rfl))
 f166 := Tryz.func39.trans (congrArg some (by kernel_rfl))
 f169 := Tryz.func40.trans (congrArg some (by kernel_rfl))
 f195 := Tryz.func69.trans (congrArg some (by kernel_rfl))
 f197 := Tryz.func70.trans (congrArg some (by kernel_rfl))
 f217 := Tryz.func45.trans (congrArg some (by kernel_rfl))
 f218 := Tryz.func71.trans (congrArg some (by kernel_rfl))
 f219 := Tryz.func72.trans (congrArg some (by kernel_rfl))
 f224 := Tryz.func121.trans (congrArg some (by kernel_rfl))
 f225 := Tryz.func120.trans (congrArg some (by kernel_rfl))
 f240 := Tryz.func63.trans (congrArg some (by kernel_rfl))
 f241 := Tryz.func64.trans (congrArg some (by kernel_rfl))
 f260 := Tryz.func119.trans (congrArg some (by kernel_rfl))
 f266 := Tryz.func68.trans (congrArg some (by kernel_rfl))
 f267 := Tryz.func122.trans (congrArg some (by kernel_rfl))
 f276 := Tryz.func110.trans (congrArg some (by kernel_rfl))
 f277 := Tryz.func111.trans (congrArg some (by kernel_rfl))
 f314 := Tryz.func192.trans (congrArg some (by kernel_rfl))
 t0 := Tryz.underlying0
 a0 := Tryz.isAgg0
 z0 := Tryz.sizeOf0
 v0 := Tryz.zeroValue0
 t3 := Tryz.underlying3
 a3 := Tryz.isAgg3
 z3 := Tryz.sizeOf3
 v3 := Tryz.zeroValue3
 t4 := Tryz.underlying4
 a4 := Tryz.isAgg4
 z4 := Tryz.sizeOf4
 v4 := Tryz.zeroValue4
 t5 := Tryz.underlying5
 a5 := Tryz.isAgg5
 z5 := Tryz.sizeOf5
 v5 := Tryz.zeroValue5
 t9 := Tryz.underlying9
 a9 := Tryz.isAgg9
 z9 := Tryz.sizeOf9
 v9 := Tryz.zeroValue9
 t20 := Tryz.underlying20
 a20 := Tryz.isAgg20
 z20 := Tryz.sizeOf20
 v20 := Tryz.zeroValue20
 t21 := Tryz.underlying21
 a21 := Tryz.isAgg21
 z21 := Tryz.sizeOf21
 v21 := Tryz.zeroValue21
 t37 := Tryz.underlying29
 a37 := Tryz.isAgg29
 z37 := Tryz.sizeOf29
 v37 := Tryz.zeroValue29
 t46 := Tryz.underlying177
 a46 := Tryz.isAgg177
 z46 := Tryz.sizeOf177
 v46 := Tryz.zeroValue177
 t51 := Tryz.underlying95
 a51 := Tryz.isAgg95
 z51 := Tryz.sizeOf95
 v51 := Tryz.zeroValue95
 t70 := Tryz.underlying66
 a70 := Tryz.isAgg66
 z70 := Tryz.sizeOf66
 v70 := Tryz.zeroValue66
 t72 := Tryz.underlying68
 a72 := Tryz.isAgg68
 z72 := Tryz.sizeOf68
 v72 := Tryz.zeroValue68
 t75 := Tryz.underlying71
 a75 := Tryz.isAgg71
 z75 := Tryz.sizeOf71
 v75 := Tryz.zeroValue71
 t76 := Tryz.underlying72
 a76 := Tryz.isAgg72
 z76 := Tryz.sizeOf72
 v76 := Tryz.zeroValue72
 t105 := Tryz.underlying109
 a105 := Tryz.isAgg109
 z105 := Tryz.sizeOf109
 v105 := Tryz.zeroValue109
 t119 := Tryz.underlying252
 a119 := Tryz.isAgg252
 z119 := Tryz.sizeOf252
 t127 := Tryz.underlying90
 a127 := Tryz.isAgg90
 z127 := Tryz.sizeOf90
 v127 := Tryz.zeroValue90
 t138 := Tryz.underlying260
 a138 := Tryz.isAgg260
 z138 := Tryz.sizeOf260
 v138 := Tryz.zeroValue260
 t139 := Tryz.underlying261
 a139 := Tryz.isAgg261
 z139 := Tryz.sizeOf261
 v139 := Tryz.zeroValue261
 t146 := Tryz.underlying262
 a146 := Tryz.isAgg262
 z146 := Tryz.sizeOf262
 v146 := Tryz.zeroValue262
 t164 := Tryz.underlying166
 a164 := Tryz.isAgg166
 z164 := Tryz.sizeOf166
 v164 := Tryz.zeroValue166
 g1 := by kernel_rfl
 g3 := by kernel_rfl
 g4 := by kernel_rfl }
theorem Tryz.Builder_Extra_155 : Builder.Extra Tryz.prog Tryz.lays155_ren := {
 sizeBuilder := by kernel_rfl
 liesBuilder := by kernel_rfl
 t5 := Tryz.underlying5
 a5 := Tryz.isAgg5
 z5 := Tryz.sizeOf5
 v5 := Tryz.zeroValue5
 infoByte := by kernel_rfl
 cellsByte := by kernel_rfl
 sizeByte := by kernel_rfl
 neB5 := by decide }
open Go.RowKit Go.Lib in
theorem Tryz.strings_ReplaceAll (s old new : ByteArray) (m : Int) (w : World) (hs : s.size < 4294967281) (hm : w.cell? ⟨0, 0, none⟩ = some (.int .i64 m)) (h1 : 1 ≤ old.size) (hlen : s.size + Lib.countB s old * new.size ≤ 140737488355328) :
  Calls Tryz.prog 235 #[.string s, .string old, .string new] w fun e w' =>
   e = .returned (.string ⟨(Lib.replaceAll s.data.toList old.data.toList new.data.toList).toArray⟩) ∧ Below w.heap.size w w' := Any.strings_ReplaceAll Tryz.lays155 Tryz.Builder_Extra_155 s old new m w hs hm h1 hlen
end Go.Proofs

namespace Go.Dd
open Go.Proofs
def gB (c : Nat) : List Nat → Nat
 | [] => 0
 | x :: l => bif Nat.beq x c then gB c l + 1 else gB c l
def rY (args : List DV) (h : Hp) : aG :=
 match args with
 | [.s s, .s [c]] => bif Nat.blt c 256 then (bif Nat.ble s.length 4000000000 then some (.i .i64 (Int.ofNat (gB c s)), h) else none) else none
 | _ => none
def isI (k : IntKind) (n : Int) (v : DV) : Bool := match v with
 | .i k' n' => decide (k = k') && decide (n = n')
 | _ => false
noncomputable def aBz (args : List DV) (h : Hp) : aG :=
 match args with
 | [.p r 0, .f 67 [x] []] =>
  bnd (aA (.p r 0) h) fun d _ =>
  bnd (aA (.p r 1) h) fun m _ =>
  cnd (isI .u32 0 d && isI .i32 0 m) (
  bnd (aI 1 (.p r 1) (.i .i32 1) h) fun _ h2 =>
  bnd (lL CF0 60 67 [x] h2) fun v h3 =>
  bnd (aA (.p r 1) h3) fun m3 _ =>
  cnd (isI .i32 1 m3) (match v with
   | .t [] =>
    bnd (aI 1 (.p r 0) (.i .u32 1) h3) fun _ h4 =>
    bnd (aI 1 (.p r 1) (.i .i32 0) h4) fun _ h5 => some (.t [], h5)
   | _ => none))
 | _ => none
noncomputable def CFq : Cfg := ⟨Tryz.prog, fun g => bif Nat.beq g 47 then some rY else bif Nat.beq g 66 then some aBz else none⟩
noncomputable def s25 (rec : RT) (n : Nat) (x0 : DV) (h0 : Hp) : aG :=
 bnd (aP [(.s []), (.s []), (.s []), (.s []), (.s []), (.s [])] 6 [(0, 1, (.s [10])), (1, 1, (.s [92, 110])), (2, 1, (.s [34])), (3, 1, (.s [92, 34])), (4, 1, (.s [92])), (5, 1, (.s [92, 92]))] h0) fun v1 h1 =>
 bnd (rec 42 [v1] h1) fun v2 h2 =>
 bnd (rec 43 [v2, x0] h2) fun v3 h3 =>
 bnd (bW .add (.s [34]) v3 h3) fun v4 h4 =>
 bnd (bW .add v4 (.s [34]) h4) fun v5 h5 =>
 some (v5, h5)
noncomputable abbrev c25 : Code := cf Tryz.f25
noncomputable def D25 (rec : RT) (n : Nat) (c : Code) (X : Nat → K) (k : K) : K := aM CFq rec 9 n c X (aO CFq Tryz.f25) k
theorem dYu (rec : RT) (n : Nat) : D25 rec n c25 x0 (aO CFq Tryz.f25) = (K1 (s25 rec n) 0) :=
 (by kernel_rfl)
theorem dPn (rec : RT) (n : Nat) (args : List DV) (h : Hp) : aF CFq rec n 25 args h = s25 rec n (args.getD 0 aR) h :=
 (by kernel_rfl : aF CFq rec n 25 args h = D25 rec n c25 x0 (aO CFq Tryz.f25) (aH args) h).trans ((congrFun (congrFun (dYu rec n) (aH args)) h).trans (by kernel_rfl))
noncomputable def bAz (rec : RT) (n : Nat) (x0 : DV) (h0 : Hp) : aG :=
 bnd (bF 1 16 .l0 x0 h0) fun v1 h1 =>
 bnd (bL [(.i .u32 (Int.ofNat 0)), (.i .i32 (Int.ofNat 0)), (.i .u32 (Int.ofNat 0)), .n0, .l0] [(4, 1, v1)] h1) fun v2 h2 =>
 bnd (cH v2 h2) fun v3 h3 =>
 some (v3, h3)
noncomputable def bRx (rec : RT) (n : Nat) (x0 : DV) (h0 : Hp) : aG :=
 bnd (bV x0 h0) fun v7 h7 =>
 bnd (aD .rem v7 (.i .i64 (Int.ofNat 2)) h7) fun v8 h8 =>
 bnd (aD .eql v8 (.i .i64 (Int.ofNat 1)) h8) fun v9 h9 =>
 aT v9 (
  bnd (none) fun _ h10 =>
  bAz rec n x0 h10) (
  bAz rec n x0 h9)
noncomputable def s42 (rec : RT) (n : Nat) (x0 : DV) (h0 : Hp) : aG :=
 bRx rec n x0 h0
noncomputable abbrev c42 : Code := cf Tryz.f42
noncomputable abbrev bAo : Code := cR c42
noncomputable abbrev dMu : Code := cR bAo
noncomputable abbrev cVm : Code := cL bAo
noncomputable abbrev cXt : Code := cL c42
noncomputable def D42 (rec : RT) (n : Nat) (c : Code) (X : Nat → K) (k : K) : K := aM CFq rec 12 n c X (aO CFq Tryz.f42) k
theorem dFy (rec : RT) (n : Nat) : D42 rec n dMu x0 (aO CFq Tryz.f42) = (K1 (bAz rec n) 0) :=
 (by kernel_rfl)
theorem cHs (rec : RT) (n : Nat) : D42 rec n bAo x0 (aO CFq Tryz.f42) = D42 rec n cVm x0 (K1 (bAz rec n) 0) :=
 congrArg (fun k => D42 rec n cVm x0 k) (dFy rec n)
theorem dHw (rec : RT) (n : Nat) : D42 rec n bAo x0 (aO CFq Tryz.f42) = (K1 (bRx rec n) 0) :=
 (cHs rec n).trans
 ((by kernel_rfl))
theorem dRl (rec : RT) (n : Nat) : D42 rec n c42 x0 (aO CFq Tryz.f42) = D42 rec n cXt x0 (K1 (bRx rec n) 0) :=
 congrArg (fun k => D42 rec n cXt x0 k) (dHw rec n)
theorem eCa (rec : RT) (n : Nat) : D42 rec n c42 x0 (aO CFq Tryz.f42) = (K1 (s42 rec n) 0) :=
 (dRl rec n).trans
 ((by kernel_rfl))
theorem dPu (rec : RT) (n : Nat) (args : List DV) (h : Hp) : aF CFq rec n 42 args h = s42 rec n (args.getD 0 aR) h :=
 (by kernel_rfl : aF CFq rec n 42 args h = D42 rec n c42 x0 (aO CFq Tryz.f42) (aH args) h).trans ((congrFun (congrFun (eCa rec n) (aH args)) h).trans (by kernel_rfl))
noncomputable def s43 (rec : RT) (n : Nat) (x0 x1 : DV) (h0 : Hp) : aG :=
 bnd (aY x0 h0) fun v1 h1 =>
 bnd (aB 0 v1 h1) fun v2 h2 =>
 bnd (aBz [v2, (.f 67 [x0] [])] h2) fun v3 h3 =>
 bnd (aY x0 h3) fun v4 h4 =>
 bnd (aB 3 v4 h4) fun v5 h5 =>
 bnd (aA v5 h5) fun v6 h6 =>
 bnd (aUk CFq rec v6 "Replace" [x1] h6) fun v7 h7 =>
 some (v7, h7)
noncomputable abbrev c43 : Code := cf Tryz.f43
noncomputable def D43 (rec : RT) (n : Nat) (c : Code) (X : Nat → K) (k : K) : K := aM CFq rec 17 n c X (aO CFq Tryz.f43) k
theorem dXo (rec : RT) (n : Nat) : D43 rec n c43 x0 (aO CFq Tryz.f43) = (K2 (s43 rec n) 0 1) :=
 (by kernel_rfl)
theorem dQd (rec : RT) (n : Nat) (args : List DV) (h : Hp) : aF CFq rec n 43 args h = s43 rec n (args.getD 0 aR) (args.getD 1 aR) h :=
 (by kernel_rfl : aF CFq rec n 43 args h = D43 rec n c43 x0 (aO CFq Tryz.f43) (aH args) h).trans ((congrFun (congrFun (dXo rec n) (aH args)) h).trans (by kernel_rfl))
noncomputable def s67 (rec : RT) (n : Nat) (x0 : DV) (h0 : Hp) : aG :=
 bnd (rec 118 [x0] h0) fun v1 h1 =>
 bnd (aY x0 h1) fun v2 h2 =>
 bnd (aB 3 v2 h2) fun v3 h3 =>
 bnd (aI 1 v3 v1 h3) fun _ h4 =>
 bnd (aY x0 h4) fun v5 h5 =>
 bnd (aB 4 v5 h5) fun v6 h6 =>
 bnd (aI 1 v6 .l0 h6) fun _ h7 =>
 some (.t [], h7)
noncomputable abbrev c67 : Code := cf Tryz.f67
noncomputable def D67 (rec : RT) (n : Nat) (c : Code) (X : Nat → K) (k : K) : K := aM CFq rec 10 n c X (aO CFq Tryz.f67) k
theorem dWs (rec : RT) (n : Nat) : D67 rec n c67 x0 (aO CFq Tryz.f67) = (K1 (s67 rec n) 0) :=
 (by kernel_rfl)
theorem eCk (rec : RT) (n : Nat) (args : List DV) (h : Hp) : aF CFq rec n 67 args h = s67 rec n (args.getD 0 aR) h :=
 (by kernel_rfl : aF CFq rec n 67 args h = D67 rec n c67 x0 (aO CFq Tryz.f67) (aH args) h).trans ((congrFun (congrFun (dWs rec n) (aH args)) h).trans (by kernel_rfl))
noncomputable def dC (rec : RT) (n : Nat) (x12 : DV) (h0 : Hp) : aG :=
 bnd (dI x12 h0) fun v1 h1 =>
 some (v1, h1)
noncomputable def nH (rec : RT) (n : Nat) (kk10 : cI) (x0 x1 x12 x13 x14 : DV) (h0 : Hp) : aG :=
 bnd (aD .add x14 (.i .i64 (Int.ofNat 1)) h0) fun v3 h3 =>
 kk10 x0 x1 x12 x13 v3 h3
noncomputable def uR (rec : RT) (n : Nat) (kk10 : cI) (x0 x1 x12 x13 x14 : DV) (h0 : Hp) : aG :=
 bnd (bY x1 x14 h0) fun v5 h5 =>
 bnd (aY x0 h5) fun v6 h6 =>
 bnd (aB 0 v6 h6) fun v7 h7 =>
 bnd (eB 256 1 v7 v5 h7) fun v8 h8 =>
 bnd (aA v8 h8) fun v9 h9 =>
 bnd (pEq (.slice 5) false v9 .l0 h9) fun v10 h10 =>
 aT v10 (
  bnd (cS 1 x12 (some x13) none h10) fun v11 h11 =>
  bnd (aY x0 h11) fun v12 h12 =>
  bnd (aB 0 v12 h12) fun v13 h13 =>
  bnd (eB 256 1 v13 v5 h13) fun v14 h14 =>
  bnd (aA v14 h14) fun v15 h15 =>
  bnd (qI 1 v11 v15 h15) fun v16 h16 =>
  bnd (aD .add x13 v16 h16) fun v17 h17 =>
  nH rec n kk10 x0 x1 x12 v17 x14 h17) (
  bnd (aE 1 x12 x13 h10) fun v18 h18 =>
  bnd (aI 1 v18 v5 h18) fun _ h19 =>
  bnd (aD .add x13 (.i .i64 (Int.ofNat 1)) h19) fun v20 h20 =>
  nH rec n kk10 x0 x1 x12 v20 x14 h20)
noncomputable def kP (rec : RT) (n : Nat) (kk10 : cI) (x0 x1 x12 x13 x14 : DV) (h0 : Hp) : aG :=
  bnd (cJ x1 h0) fun v37 h37 =>
  bnd (aD .lss x14 v37 h37) fun v38 h38 =>
  aT v38 (
   uR rec n kk10 x0 x1 x12 x13 x14 h38) (
   dC rec n x12 h38)
noncomputable def jU (rec : RT) (n : Nat) (m : Nat) : cI :=
 Nat.rec (motive := fun _ => cI) (fun _ _ _ _ _ _ => none) (fun _ ih => kP rec n ih) m
noncomputable def aZy (rec : RT) (n : Nat) : cI := jU rec n n
noncomputable def aPx (rec : RT) (n : Nat) (x0 x1 x12 x13 x14 : DV) (h0 : Hp) : aG :=
 aZy rec n x0 x1 x12 x13 x14 h0
noncomputable def aRw (rec : RT) (n : Nat) (x0 x1 x12 x13 : DV) (h0 : Hp) : aG :=
 aPx rec n x0 x1 x12 x13 (.i .i64 (Int.ofNat 0)) h0
noncomputable def zI (rec : RT) (n : Nat) (x0 x1 x12 : DV) (h0 : Hp) : aG :=
 aRw rec n x0 x1 x12 (.i .i64 (Int.ofNat 0)) h0
noncomputable def zC (rec : RT) (n : Nat) (x0 x1 x5 : DV) (h0 : Hp) : aG :=
 bnd (bN 1 1 [(.i .u8 (Int.ofNat 0))] x5 x5 h0) fun v41 h41 =>
 zI rec n x0 x1 v41 h41
noncomputable def bC (rec : RT) (n : Nat) (x0 x1 x5 x6 : DV) (h0 : Hp) : aG :=
 bnd (hZ .not x6 h0) fun v45 h45 =>
 aT v45 (
  some (x1, h45)) (
  zC rec n x0 x1 x5 h45)
noncomputable def nD (rec : RT) (n : Nat) (kk16 : xK) (x0 x1 x5 x6 x30 x31 x32 : DV) (h0 : Hp) : aG :=
 bnd (aD .add x32 (.i .i64 (Int.ofNat 1)) h0) fun v47 h47 =>
 kk16 x0 x1 x5 x6 x30 x31 v47 h47
noncomputable def nP (rec : RT) (n : Nat) (kk16 : xK) (x0 x1 x5 x6 x30 x31 x32 : DV) (h0 : Hp) : aG :=
 bnd (aE 1 x30 x32 h0) fun v49 h49 =>
 bnd (aA v49 h49) fun v50 h50 =>
 bnd (rY [x1, v50] h50) fun v51 h51 =>
 bnd (aD .neq v51 (.i .i64 (Int.ofNat 0)) h51) fun v52 h52 =>
 aT v52 (
  bnd (bY v50 (.i .i64 (Int.ofNat 0)) h52) fun v53 h53 =>
  bnd (aY x0 h53) fun v54 h54 =>
  bnd (aB 0 v54 h54) fun v55 h55 =>
  bnd (eB 256 1 v55 v53 h55) fun v56 h56 =>
  bnd (aA v56 h56) fun v57 h57 =>
  bnd (bV v57 h57) fun v58 h58 =>
  bnd (aD .sub v58 (.i .i64 (Int.ofNat 1)) h58) fun v59 h59 =>
  bnd (aD .mul v51 v59 h59) fun v60 h60 =>
  bnd (aD .add x5 v60 h60) fun v61 h61 =>
  nD rec n kk16 x0 x1 v61 (.b true) x30 x31 x32 h61) (
  nD rec n kk16 x0 x1 x5 x6 x30 x31 x32 h52)
noncomputable def qP (rec : RT) (n : Nat) (kk16 : xK) (x0 x1 x5 x6 x30 x31 x32 x33 : DV) (h0 : Hp) : aG :=
 aT x33 (
  nP rec n kk16 x0 x1 x5 x6 x30 x31 x32 h0) (
  bC rec n x0 x1 x5 x6 h0)
noncomputable def kZ (rec : RT) (n : Nat) (kk16 : xK) (x0 x1 x5 x6 x30 x31 x32 : DV) (h0 : Hp) : aG :=
  bnd (aD .lss x32 x31 h0) fun v75 h75 =>
  qP rec n kk16 x0 x1 x5 x6 x30 x31 x32 v75 h75
noncomputable def gR (rec : RT) (n : Nat) (m : Nat) : xK :=
 Nat.rec (motive := fun _ => xK) (fun _ _ _ _ _ _ _ _ => none) (fun _ ih => kZ rec n ih) m
noncomputable def aKc (rec : RT) (n : Nat) : xK := gR rec n n
noncomputable def vB (rec : RT) (n : Nat) (x0 x1 x5 x6 x30 x31 x32 : DV) (h0 : Hp) : aG :=
 aKc rec n x0 x1 x5 x6 x30 x31 x32 h0
noncomputable def aFm (rec : RT) (n : Nat) (x0 x1 x5 x6 : DV) (h0 : Hp) : aG :=
 bnd (aY x0 h0) fun v77 h77 =>
 bnd (aB 256 v77 h77) fun v78 h78 =>
 bnd (aA v78 h78) fun v79 h79 =>
 bnd (bV v79 h79) fun v80 h80 =>
 vB rec n x0 x1 x5 x6 v79 v80 (.i .i64 (Int.ofNat 0)) h80
noncomputable def nL (rec : RT) (n : Nat) (kk22 : cI) (x0 x1 x5 x6 x10 : DV) (h0 : Hp) : aG :=
 bnd (aD .add x10 (.i .i64 (Int.ofNat 1)) h0) fun v85 h85 =>
 kk22 x0 x1 x5 x6 v85 h85
noncomputable def tV (rec : RT) (n : Nat) (kk22 : cI) (x0 x1 x5 x6 x10 : DV) (h0 : Hp) : aG :=
 bnd (bY x1 x10 h0) fun v87 h87 =>
 bnd (aY x0 h87) fun v88 h88 =>
 bnd (aB 0 v88 h88) fun v89 h89 =>
 bnd (eB 256 1 v89 v87 h89) fun v90 h90 =>
 bnd (aA v90 h90) fun v91 h91 =>
 bnd (pEq (.slice 5) false v91 .l0 h91) fun v92 h92 =>
 aT v92 (
  bnd (aY x0 h92) fun v93 h93 =>
  bnd (aB 0 v93 h93) fun v94 h94 =>
  bnd (eB 256 1 v94 v87 h94) fun v95 h95 =>
  bnd (aA v95 h95) fun v96 h96 =>
  bnd (bV v96 h96) fun v97 h97 =>
  bnd (aD .sub v97 (.i .i64 (Int.ofNat 1)) h97) fun v98 h98 =>
  bnd (aD .add x5 v98 h98) fun v99 h99 =>
  nL rec n kk22 x0 x1 v99 (.b true) x10 h99) (
  nL rec n kk22 x0 x1 x5 x6 x10 h92)
noncomputable def kU (rec : RT) (n : Nat) (kk22 : cI) (x0 x1 x5 x6 x10 : DV) (h0 : Hp) : aG :=
  bnd (cJ x1 h0) fun v113 h113 =>
  bnd (aD .lss x10 v113 h113) fun v114 h114 =>
  aT v114 (
   tV rec n kk22 x0 x1 x5 x6 x10 h114) (
   bC rec n x0 x1 x5 x6 h114)
noncomputable def jN (rec : RT) (n : Nat) (m : Nat) : cI :=
 Nat.rec (motive := fun _ => cI) (fun _ _ _ _ _ _ => none) (fun _ ih => kU rec n ih) m
noncomputable def aZx (rec : RT) (n : Nat) : cI := jN rec n n
noncomputable def aHr (rec : RT) (n : Nat) (x0 x1 x5 x6 x10 : DV) (h0 : Hp) : aG :=
 aZx rec n x0 x1 x5 x6 x10 h0
noncomputable def aXh (rec : RT) (n : Nat) (x0 x1 x5 x6 : DV) (h0 : Hp) : aG :=
 aHr rec n x0 x1 x5 x6 (.i .i64 (Int.ofNat 0)) h0
noncomputable def uS (rec : RT) (n : Nat) (x0 x1 x5 x6 x26 : DV) (h0 : Hp) : aG :=
 aT x26 (
  aFm rec n x0 x1 x5 x6 h0) (
  aXh rec n x0 x1 x5 x6 h0)
noncomputable def aJt (rec : RT) (n : Nat) (x0 x1 x5 x6 : DV) (h0 : Hp) : aG :=
 bnd (aY x0 h0) fun v117 h117 =>
 bnd (aB 256 v117 h117) fun v118 h118 =>
 bnd (aA v118 h118) fun v119 h119 =>
 bnd (bV v119 h119) fun v120 h120 =>
 bnd (aD .mul v120 (.i .i64 (Int.ofNat 8)) h120) fun v121 h121 =>
 bnd (cJ x1 h121) fun v122 h122 =>
 bnd (aD .leq v121 v122 h122) fun v123 h123 =>
 uS rec n x0 x1 x5 x6 v123 h123
noncomputable def aCt (rec : RT) (n : Nat) (x0 x1 x5 : DV) (h0 : Hp) : aG :=
 aJt rec n x0 x1 x5 (.b false) h0
noncomputable def aGk (rec : RT) (n : Nat) (x0 x1 : DV) (h0 : Hp) : aG :=
 bnd (cJ x1 h0) fun v131 h131 =>
 aCt rec n x0 x1 v131 h131
noncomputable def s582 (rec : RT) (n : Nat) (x0 x1 : DV) (h0 : Hp) : aG :=
 aGk rec n x0 x1 h0
noncomputable abbrev c582 : Code := cf Tryz.f582
noncomputable abbrev aJk : Code := cR c582
noncomputable abbrev aDx : Code := cR aJk
noncomputable abbrev aFd : Code := cR aDx
noncomputable abbrev aEt : Code := cR aFd
noncomputable abbrev aKm : Code := cR aEt
noncomputable abbrev aJd : Code := cR aKm
noncomputable abbrev aJg : Code := cR aJd
noncomputable abbrev cYy : Code := cR aJg
noncomputable abbrev aAk : Code := cL aJg
noncomputable abbrev aLa : Code := cR aAk
noncomputable abbrev uH : Code := cL aLa
noncomputable abbrev iQ : Code := cL uH
noncomputable abbrev vE : Code := cR iQ
noncomputable abbrev cMe : Code := cR vE
noncomputable abbrev bDs : Code := cL vE
noncomputable abbrev bAy : Code := cL iQ
noncomputable abbrev bCp : Code := cL aAk
noncomputable abbrev aYs : Code := cL aJd
noncomputable abbrev aGt : Code := cL aKm
noncomputable abbrev bEh : Code := cL aEt
noncomputable abbrev qN : Code := cL aFd
noncomputable abbrev pW : Code := cR qN
noncomputable abbrev pU : Code := cL pW
noncomputable abbrev aDy : Code := cR pU
noncomputable abbrev uZ : Code := cL aDy
noncomputable abbrev iM : Code := cL uZ
noncomputable abbrev uG : Code := cR iM
noncomputable abbrev tR : Code := cR uG
noncomputable abbrev cTr : Code := cR tR
noncomputable abbrev bBq : Code := cL tR
noncomputable abbrev bBp : Code := cL uG
noncomputable abbrev bCm : Code := cL iM
noncomputable abbrev bEf : Code := cL pU
noncomputable abbrev pY : Code := cR pW
noncomputable abbrev aIu : Code := cR pY
noncomputable abbrev uP : Code := cL aIu
noncomputable abbrev iL : Code := cL uP
noncomputable abbrev vY : Code := cR iL
noncomputable abbrev cKc : Code := cR vY
noncomputable abbrev aYo : Code := cL vY
noncomputable abbrev bCf : Code := cL iL
noncomputable abbrev bDc : Code := cL pY
noncomputable abbrev aWg : Code := cL qN
noncomputable abbrev bDv : Code := cL aDx
noncomputable abbrev aYq : Code := cL aJk
noncomputable abbrev bBe : Code := cL c582
noncomputable def D582 (rec : RT) (n : Nat) (c : Code) (X : Nat → K) (k : K) : K := aM CFq rec 122 n c X (aO CFq Tryz.f582) k
theorem cLn (rec : RT) (n : Nat) : D582 rec n cYy x0 (aO CFq Tryz.f582) = (K1 (dC rec n) 12) :=
 (by kernel_rfl)
theorem bUh (rec : RT) (n : Nat) (kk10 : cI) : D582 rec n cMe (xs x0 4 (K1 (dC rec n) 12)) (K5 kk10 0 1 12 13 14) = (K5 (nH rec n kk10) 0 1 12 13 14) :=
 (by kernel_rfl)
theorem bGf (rec : RT) (n : Nat) (kk10 : cI) : D582 rec n vE (xs x0 4 (K1 (dC rec n) 12)) (K5 kk10 0 1 12 13 14) = D582 rec n bDs (xs x0 4 (K1 (dC rec n) 12)) (K5 (nH rec n kk10) 0 1 12 13 14) :=
 congrArg (fun k => D582 rec n bDs (xs x0 4 (K1 (dC rec n) 12)) k) (bUh rec n kk10)
theorem cBf (rec : RT) (n : Nat) (kk10 : cI) : D582 rec n vE (xs x0 4 (K1 (dC rec n) 12)) (K5 kk10 0 1 12 13 14) = (K5 (uR rec n kk10) 0 1 12 13 14) :=
 (bGf rec n kk10).trans
 ((by kernel_rfl))
theorem bHb (rec : RT) (n : Nat) (kk10 : cI) : D582 rec n iQ (xs x0 4 (K1 (dC rec n) 12)) (K5 kk10 0 1 12 13 14) = D582 rec n bAy (xs x0 4 (K1 (dC rec n) 12)) (K5 (uR rec n kk10) 0 1 12 13 14) :=
 congrArg (fun k => D582 rec n bAy (xs x0 4 (K1 (dC rec n) 12)) k) (cBf rec n kk10)
theorem bHi (rec : RT) (n : Nat) (kk10 : cI) : D582 rec n iQ (xs x0 4 (K1 (dC rec n) 12)) (K5 kk10 0 1 12 13 14) = (K5 (kP rec n kk10) 0 1 12 13 14) :=
 (bHb rec n kk10).trans
 ((by kernel_rfl))
theorem bIo (rec : RT) (n : Nat) (m : Nat) : aL (fun kk => D582 rec n iQ (xs x0 4 (K1 (dC rec n) 12)) kk) m = (K5 (jU rec n m) 0 1 12 13 14) := by
 induction m with
 | zero => exact (by kernel_rfl : aL (fun kk => D582 rec n iQ (xs x0 4 (K1 (dC rec n) 12)) kk) 0 = (K5 (jU rec n 0) 0 1 12 13 14))
 | succ m ih =>
  refine (by kernel_rfl : aL (fun kk => D582 rec n iQ (xs x0 4 (K1 (dC rec n) 12)) kk) (m + 1) = D582 rec n iQ (xs x0 4 (K1 (dC rec n) 12)) (aL (fun kk => D582 rec n iQ (xs x0 4 (K1 (dC rec n) 12)) kk) m)).trans ?_
  rw [ih]
  exact (bHi rec n (jU rec n m)).trans (by kernel_rfl)
theorem bRj (rec : RT) (n : Nat) : D582 rec n uH (xs x0 4 (K1 (dC rec n) 12)) (K1 (dC rec n) 12) = (K5 (aZy rec n) 0 1 12 13 14) :=
 (by kernel_rfl : D582 rec n uH (xs x0 4 (K1 (dC rec n) 12)) (K1 (dC rec n) 12) = aL (fun kk => D582 rec n iQ (xs x0 4 (K1 (dC rec n) 12)) kk) n).trans ((bIo rec n n).trans (by kernel_rfl))
theorem cGv (rec : RT) (n : Nat) : D582 rec n aLa x0 (K1 (dC rec n) 12) = (K5 (aPx rec n) 0 1 12 13 14) :=
 (by kernel_rfl : D582 rec n aLa x0 (K1 (dC rec n) 12) = D582 rec n uH (xs x0 4 (K1 (dC rec n) 12)) (K1 (dC rec n) 12)).trans
 ((bRj rec n).trans (by kernel_rfl))
theorem cAx (rec : RT) (n : Nat) : D582 rec n aJg x0 (aO CFq Tryz.f582) = D582 rec n aAk x0 (K1 (dC rec n) 12) :=
 congrArg (fun k => D582 rec n aAk x0 k) (cLn rec n)
theorem bMo (rec : RT) (n : Nat) : D582 rec n aAk x0 (K1 (dC rec n) 12) = D582 rec n bCp x0 (K5 (aPx rec n) 0 1 12 13 14) :=
 congrArg (fun k => D582 rec n bCp x0 k) (cGv rec n)
theorem cLv (rec : RT) (n : Nat) : D582 rec n aJg x0 (aO CFq Tryz.f582) = (K4 (aRw rec n) 0 1 12 13) :=
 (cAx rec n).trans
 ((bMo rec n).trans
 ((by kernel_rfl)))
theorem bMi (rec : RT) (n : Nat) : D582 rec n aJd x0 (aO CFq Tryz.f582) = D582 rec n aYs x0 (K4 (aRw rec n) 0 1 12 13) :=
 congrArg (fun k => D582 rec n aYs x0 k) (cLv rec n)
theorem cMb (rec : RT) (n : Nat) : D582 rec n aJd x0 (aO CFq Tryz.f582) = (K3 (zI rec n) 0 1 12) :=
 (bMi rec n).trans
 ((by kernel_rfl))
theorem bTt (rec : RT) (n : Nat) : D582 rec n aKm x0 (aO CFq Tryz.f582) = D582 rec n aGt x0 (K3 (zI rec n) 0 1 12) :=
 congrArg (fun k => D582 rec n aGt x0 k) (cMb rec n)
theorem bPa (rec : RT) (n : Nat) (q0 : fG) : D582 rec n aGt x0 (K3 q0 0 1 12) = fun (env : aZ) (h : Hp) =>
  bnd (bN 1 1 [(.i .u8 (Int.ofNat 0))] (env 5) (env 5) h) fun v43 h43 =>
  q0 (env 0) (env 1) v43 h43 := by kernel_rfl
theorem bJg (rec : RT) (n : Nat) : (fun (env : aZ) (h : Hp) =>
  bnd (bN 1 1 [(.i .u8 (Int.ofNat 0))] (env 5) (env 5) h) fun v44 h44 =>
  zI rec n (env 0) (env 1) v44 h44) = (K3 (zC rec n) 0 1 5) := by kernel_rfl
theorem cSa (rec : RT) (n : Nat) : D582 rec n aKm x0 (aO CFq Tryz.f582) = (K3 (zC rec n) 0 1 5) :=
 (bTt rec n).trans
 ((bPa rec n (zI rec n)).trans (bJg rec n))
theorem bPl (rec : RT) (n : Nat) : D582 rec n aEt x0 (aO CFq Tryz.f582) = D582 rec n bEh x0 (K3 (zC rec n) 0 1 5) :=
 congrArg (fun k => D582 rec n bEh x0 k) (cSa rec n)
theorem cIc (rec : RT) (n : Nat) : D582 rec n aEt x0 (aO CFq Tryz.f582) = (K4 (bC rec n) 0 1 5 6) :=
 (bPl rec n).trans
 ((by kernel_rfl))
theorem bKc (rec : RT) (n : Nat) (kk16 : xK) : D582 rec n cTr (xs x0 0 (K4 (bC rec n) 0 1 5 6)) (K7 kk16 0 1 5 6 30 31 32) = (K7 (nD rec n kk16) 0 1 5 6 30 31 32) :=
 (by kernel_rfl)
theorem bHq (rec : RT) (n : Nat) (kk16 : xK) : D582 rec n tR (xs x0 0 (K4 (bC rec n) 0 1 5 6)) (K7 kk16 0 1 5 6 30 31 32) = D582 rec n bBq (xs x0 0 (K4 (bC rec n) 0 1 5 6)) (K7 (nD rec n kk16) 0 1 5 6 30 31 32) :=
 congrArg (fun k => D582 rec n bBq (xs x0 0 (K4 (bC rec n) 0 1 5 6)) k) (bKc rec n kk16)
theorem bOa (rec : RT) (n : Nat) (kk16 : xK) : D582 rec n tR (xs x0 0 (K4 (bC rec n) 0 1 5 6)) (K7 kk16 0 1 5 6 30 31 32) = (K7 (nP rec n kk16) 0 1 5 6 30 31 32) :=
 (bHq rec n kk16).trans
 ((by kernel_rfl))
theorem aPt (rec : RT) (n : Nat) (kk16 : xK) : D582 rec n uG (xs x0 0 (K4 (bC rec n) 0 1 5 6)) (K7 kk16 0 1 5 6 30 31 32) = D582 rec n bBp (xs x0 0 (K4 (bC rec n) 0 1 5 6)) (K7 (nP rec n kk16) 0 1 5 6 30 31 32) :=
 congrArg (fun k => D582 rec n bBp (xs x0 0 (K4 (bC rec n) 0 1 5 6)) k) (bOa rec n kk16)
theorem bTp (rec : RT) (n : Nat) (kk16 : xK) : D582 rec n uG (xs x0 0 (K4 (bC rec n) 0 1 5 6)) (K7 kk16 0 1 5 6 30 31 32) = (K8 (qP rec n kk16) 0 1 5 6 30 31 32 33) :=
 (aPt rec n kk16).trans
 ((by kernel_rfl))
theorem aVr (rec : RT) (n : Nat) (kk16 : xK) : D582 rec n iM (xs x0 0 (K4 (bC rec n) 0 1 5 6)) (K7 kk16 0 1 5 6 30 31 32) = D582 rec n bCm (xs x0 0 (K4 (bC rec n) 0 1 5 6)) (K8 (qP rec n kk16) 0 1 5 6 30 31 32 33) :=
 congrArg (fun k => D582 rec n bCm (xs x0 0 (K4 (bC rec n) 0 1 5 6)) k) (bTp rec n kk16)
theorem bEv (rec : RT) (n : Nat) (kk16 : xK) : D582 rec n iM (xs x0 0 (K4 (bC rec n) 0 1 5 6)) (K7 kk16 0 1 5 6 30 31 32) = (K7 (kZ rec n kk16) 0 1 5 6 30 31 32) :=
 (aVr rec n kk16).trans
 ((by kernel_rfl))
theorem bFb (rec : RT) (n : Nat) (m : Nat) : aL (fun kk => D582 rec n iM (xs x0 0 (K4 (bC rec n) 0 1 5 6)) kk) m = (K7 (gR rec n m) 0 1 5 6 30 31 32) := by
 induction m with
 | zero => exact (by kernel_rfl : aL (fun kk => D582 rec n iM (xs x0 0 (K4 (bC rec n) 0 1 5 6)) kk) 0 = (K7 (gR rec n 0) 0 1 5 6 30 31 32))
 | succ m ih =>
  refine (by kernel_rfl : aL (fun kk => D582 rec n iM (xs x0 0 (K4 (bC rec n) 0 1 5 6)) kk) (m + 1) = D582 rec n iM (xs x0 0 (K4 (bC rec n) 0 1 5 6)) (aL (fun kk => D582 rec n iM (xs x0 0 (K4 (bC rec n) 0 1 5 6)) kk) m)).trans ?_
  rw [ih]
  exact (bEv rec n (gR rec n m)).trans (by kernel_rfl)
theorem bLr (rec : RT) (n : Nat) : D582 rec n uZ (xs x0 0 (K4 (bC rec n) 0 1 5 6)) (K4 (bC rec n) 0 1 5 6) = (K7 (aKc rec n) 0 1 5 6 30 31 32) :=
 (by kernel_rfl : D582 rec n uZ (xs x0 0 (K4 (bC rec n) 0 1 5 6)) (K4 (bC rec n) 0 1 5 6) = aL (fun kk => D582 rec n iM (xs x0 0 (K4 (bC rec n) 0 1 5 6)) kk) n).trans ((bFb rec n n).trans (by kernel_rfl))
theorem bXj (rec : RT) (n : Nat) : D582 rec n aDy x0 (K4 (bC rec n) 0 1 5 6) = (K7 (vB rec n) 0 1 5 6 30 31 32) :=
 (by kernel_rfl : D582 rec n aDy x0 (K4 (bC rec n) 0 1 5 6) = D582 rec n uZ (xs x0 0 (K4 (bC rec n) 0 1 5 6)) (K4 (bC rec n) 0 1 5 6)).trans
 ((bLr rec n).trans (by kernel_rfl))
theorem aVf (rec : RT) (n : Nat) : D582 rec n pU x0 (K4 (bC rec n) 0 1 5 6) = D582 rec n bEf x0 (K7 (vB rec n) 0 1 5 6 30 31 32) :=
 congrArg (fun k => D582 rec n bEf x0 k) (bXj rec n)
theorem bQd (rec : RT) (n : Nat) : D582 rec n pU x0 (K4 (bC rec n) 0 1 5 6) = (K4 (aFm rec n) 0 1 5 6) :=
 (aVf rec n).trans
 ((by kernel_rfl))
theorem bUx (rec : RT) (n : Nat) (kk22 : cI) : D582 rec n cKc (xs x0 2 (K4 (bC rec n) 0 1 5 6)) (K5 kk22 0 1 5 6 10) = (K5 (nL rec n kk22) 0 1 5 6 10) :=
 (by kernel_rfl)
theorem aWb (rec : RT) (n : Nat) (kk22 : cI) : D582 rec n vY (xs x0 2 (K4 (bC rec n) 0 1 5 6)) (K5 kk22 0 1 5 6 10) = D582 rec n aYo (xs x0 2 (K4 (bC rec n) 0 1 5 6)) (K5 (nL rec n kk22) 0 1 5 6 10) :=
 congrArg (fun k => D582 rec n aYo (xs x0 2 (K4 (bC rec n) 0 1 5 6)) k) (bUx rec n kk22)
theorem bKa (rec : RT) (n : Nat) (kk22 : cI) : D582 rec n vY (xs x0 2 (K4 (bC rec n) 0 1 5 6)) (K5 kk22 0 1 5 6 10) = (K5 (tV rec n kk22) 0 1 5 6 10) :=
 (aWb rec n kk22).trans
 ((by kernel_rfl))
theorem aQe (rec : RT) (n : Nat) (kk22 : cI) : D582 rec n iL (xs x0 2 (K4 (bC rec n) 0 1 5 6)) (K5 kk22 0 1 5 6 10) = D582 rec n bCf (xs x0 2 (K4 (bC rec n) 0 1 5 6)) (K5 (tV rec n kk22) 0 1 5 6 10) :=
 congrArg (fun k => D582 rec n bCf (xs x0 2 (K4 (bC rec n) 0 1 5 6)) k) (bKa rec n kk22)
theorem bFe (rec : RT) (n : Nat) (kk22 : cI) : D582 rec n iL (xs x0 2 (K4 (bC rec n) 0 1 5 6)) (K5 kk22 0 1 5 6 10) = (K5 (kU rec n kk22) 0 1 5 6 10) :=
 (aQe rec n kk22).trans
 ((by kernel_rfl))
theorem bIy (rec : RT) (n : Nat) (m : Nat) : aL (fun kk => D582 rec n iL (xs x0 2 (K4 (bC rec n) 0 1 5 6)) kk) m = (K5 (jN rec n m) 0 1 5 6 10) := by
 induction m with
 | zero => exact (by kernel_rfl : aL (fun kk => D582 rec n iL (xs x0 2 (K4 (bC rec n) 0 1 5 6)) kk) 0 = (K5 (jN rec n 0) 0 1 5 6 10))
 | succ m ih =>
  refine (by kernel_rfl : aL (fun kk => D582 rec n iL (xs x0 2 (K4 (bC rec n) 0 1 5 6)) kk) (m + 1) = D582 rec n iL (xs x0 2 (K4 (bC rec n) 0 1 5 6)) (aL (fun kk => D582 rec n iL (xs x0 2 (K4 (bC rec n) 0 1 5 6)) kk) m)).trans ?_
  rw [ih]
  exact (bFe rec n (jN rec n m)).trans (by kernel_rfl)
theorem bMp (rec : RT) (n : Nat) : D582 rec n uP (xs x0 2 (K4 (bC rec n) 0 1 5 6)) (K4 (bC rec n) 0 1 5 6) = (K5 (aZx rec n) 0 1 5 6 10) :=
 (by kernel_rfl : D582 rec n uP (xs x0 2 (K4 (bC rec n) 0 1 5 6)) (K4 (bC rec n) 0 1 5 6) = aL (fun kk => D582 rec n iL (xs x0 2 (K4 (bC rec n) 0 1 5 6)) kk) n).trans ((bIy rec n n).trans (by kernel_rfl))
theorem cDm (rec : RT) (n : Nat) : D582 rec n aIu x0 (K4 (bC rec n) 0 1 5 6) = (K5 (aHr rec n) 0 1 5 6 10) :=
 (by kernel_rfl : D582 rec n aIu x0 (K4 (bC rec n) 0 1 5 6) = D582 rec n uP (xs x0 2 (K4 (bC rec n) 0 1 5 6)) (K4 (bC rec n) 0 1 5 6)).trans
 ((bMp rec n).trans (by kernel_rfl))
theorem aUg (rec : RT) (n : Nat) : D582 rec n pY x0 (K4 (bC rec n) 0 1 5 6) = D582 rec n bDc x0 (K5 (aHr rec n) 0 1 5 6 10) :=
 congrArg (fun k => D582 rec n bDc x0 k) (cDm rec n)
theorem bUm (rec : RT) (n : Nat) : D582 rec n pY x0 (K4 (bC rec n) 0 1 5 6) = (K4 (aXh rec n) 0 1 5 6) :=
 (aUg rec n).trans
 ((by kernel_rfl))
theorem bWt (rec : RT) (n : Nat) : D582 rec n pW x0 (K4 (bC rec n) 0 1 5 6) = (K5 (uS rec n) 0 1 5 6 26) :=
 (by kernel_rfl : D582 rec n pW x0 (K4 (bC rec n) 0 1 5 6) = (fun (env : aZ) (h : Hp) => aT (opr env (cC pW)) (D582 rec n pU x0 (K4 (bC rec n) 0 1 5 6) env h) (D582 rec n pY x0 (K4 (bC rec n) 0 1 5 6) env h))).trans (by rw [bQd rec n, bUm rec n]; kernel_rfl)
theorem bEt (rec : RT) (n : Nat) : D582 rec n aFd x0 (aO CFq Tryz.f582) = D582 rec n qN x0 (K4 (bC rec n) 0 1 5 6) :=
 congrArg (fun k => D582 rec n qN x0 k) (cIc rec n)
theorem bFh (rec : RT) (n : Nat) : D582 rec n qN x0 (K4 (bC rec n) 0 1 5 6) = D582 rec n aWg x0 (K5 (uS rec n) 0 1 5 6 26) :=
 congrArg (fun k => D582 rec n aWg x0 k) (bWt rec n)
theorem cQb (rec : RT) (n : Nat) : D582 rec n aFd x0 (aO CFq Tryz.f582) = (K4 (aJt rec n) 0 1 5 6) :=
 (bEt rec n).trans
 ((bFh rec n).trans
 ((by kernel_rfl)))
theorem bFk (rec : RT) (n : Nat) : D582 rec n aDx x0 (aO CFq Tryz.f582) = D582 rec n bDv x0 (K4 (aJt rec n) 0 1 5 6) :=
 congrArg (fun k => D582 rec n bDv x0 k) (cQb rec n)
theorem cLw (rec : RT) (n : Nat) : D582 rec n aDx x0 (aO CFq Tryz.f582) = (K3 (aCt rec n) 0 1 5) :=
 (bFk rec n).trans
 ((by kernel_rfl))
theorem bGz (rec : RT) (n : Nat) : D582 rec n aJk x0 (aO CFq Tryz.f582) = D582 rec n aYq x0 (K3 (aCt rec n) 0 1 5) :=
 congrArg (fun k => D582 rec n aYq x0 k) (cLw rec n)
theorem cNg (rec : RT) (n : Nat) : D582 rec n aJk x0 (aO CFq Tryz.f582) = (K2 (aGk rec n) 0 1) :=
 (bGz rec n).trans
 ((by kernel_rfl))
theorem cUw (rec : RT) (n : Nat) : D582 rec n c582 x0 (aO CFq Tryz.f582) = D582 rec n bBe x0 (K2 (aGk rec n) 0 1) :=
 congrArg (fun k => D582 rec n bBe x0 k) (cNg rec n)
theorem dSr (rec : RT) (n : Nat) : D582 rec n c582 x0 (aO CFq Tryz.f582) = (K2 (s582 rec n) 0 1) :=
 (cUw rec n).trans
 ((by kernel_rfl))
theorem dAc (rec : RT) (n : Nat) (args : List DV) (h : Hp) : aF CFq rec n 582 args h = s582 rec n (args.getD 0 aR) (args.getD 1 aR) h :=
 (by kernel_rfl : aF CFq rec n 582 args h = D582 rec n c582 x0 (aO CFq Tryz.f582) (aH args) h).trans ((congrFun (congrFun (dSr rec n) (aH args)) h).trans (by kernel_rfl))
end Go.Dd

namespace Go.Dd
open Go.Proofs Go.RowKit
def gdS (w : World) (W : Facts w) (N : Nat) : Gd := ⟨w.heap.size, fun _ => False, N, w.heap, fun w' h => W.keep fun k hk => h k (Nat.lt_of_lt_of_le hk W.eight)⟩
theorem HR.empty (w : World) (W : Facts w) (N : Nat) (p : Pos) (hN : N ≤ p.toNat) : HR (gdS w W N) (fun _ => none) ⟨p, .e⟩ w := by
 constructor
 ·exact fun _ _ => rfl
 ·exact ⟨Nat.le_refl _, fun _ h => h.elim⟩
 ·exact hN
 ·rintro b a ⟨k, l, L, _, h2, _⟩; cases h2
 ·intro b o h; cases b <;> cases h
 ·intro b L h; cases h
 ·intro b k l L i v h h2; cases h2
 ·intro b l L es j h h2; cases h2
 ·rintro b a ⟨k, l, L, _, h2, _⟩; cases h2
 ·rintro b b' a ⟨k, l, L, _, h2, _⟩; cases h2
 ·intro b l L h h2; cases h2
 ·intro b es l i v h; cases b <;> cases h
 ·intro b s pos L h h2; cases h2
 ·intro b s pos b' s' pos' L L' h h' h2; cases h2
theorem aCi {f : FuncId} {args : List DV} {F : List DV → Hp → aG} {v : DV} {g1 : Hp} (hF : ∀ G, fV Tryz.prog G f F) {p : Pos} (hr : F args ⟨p, .e⟩ = some (v, g1)) (fn : Func) (hf : Tryz.prog.funcs[f]? = some fn) (hb : fn.body.isSome = true)
  (w : World) (W : Facts w) (args' : Array Value) (hargs : VRs (fun _ => none) args args'.toList) :
  Calls Tryz.prog f args' w fun e w' => ∃ ρ' v', e = .returned v' ∧ VR ρ' v v' ∧ HR (gdS w W p.toNat) ρ' g1 w' ∧ Below w.heap.size w w' ∧ ∀ b L, ρ' b = some L → p.toNat ≤ b.toNat := by
 have H : HR (gdS w W p.toNat) (fun _ => none) ⟨p, .e⟩ w := HR.empty w W p.toNat p (Nat.le_refl _)
 rcases hF (gdS w W p.toNat) args ⟨p, .e⟩ v g1 hr _ w args' H hargs with ⟨_, h⟩ | ⟨ρ', w', v', h, _⟩
 ·refine h.mono ?_
  rintro e w' ⟨ρ', v', h1, h2, h3, h4, h5⟩
  exact ⟨ρ', v', h1, h3, h4, h5.low, fun b L hL => (h2.new b L hL).resolve_left (fun e => by cases e)⟩
 ·exfalso
  have hn : ¬ fn.name = "runtime.NumGoroutine" := by simpa using Try_ok.names f fn hf
  have hbn : fn.body ≠ none := by intro e; rw [e] at hb; cases hb
  unfold callFunc at h
  simp [hf, hn, hbn] at h
theorem xU {f : FuncId} {fn : Func} (hf : Tryz.prog.funcs[f]? = some fn) (hb : fn.body.isSome = true) (args : Array Value) (w : World) : (callFunc f args).run Tryz.prog w = .ok (.enter f args) w := by
 have hn : ¬ fn.name = "runtime.NumGoroutine" := by simpa using Try_ok.names f fn hf
 have hbn : fn.body ≠ none := by intro e; rw [e] at hb; cases hb
 unfold callFunc
 simp [hf, hn, hbn]
end Go.Dd

namespace Go.Dd
open Go.Proofs Go.Lib Go.RowKit
theorem CallFn.of {G : Gd} {ρ : Ren} {w : World} {v : DV} {h1 : Hp} {g : FuncId} {args' : Array Value} (fn : Func) (hf : Tryz.prog.funcs[g]? = some fn) (hb : fn.body.isSome = true)
  (hc : Calls Tryz.prog g args' w (jX G ρ w v h1)) : CallFn CF1.P G ρ w v h1 g args' := by
 refine .inl ⟨?_, hc⟩
 have hf' : CF1.P.funcs[g]? = some fn := hf
 have hn : ¬ fn.name = "runtime.NumGoroutine" := by simpa using Try_ok.names g fn hf'
 have hbn : fn.body ≠ none := by intro e; rw [e] at hb; cases hb
 unfold callFunc
 simp [hf', hn, hbn]
theorem yU : ∀ (f n : Nat) (acc : List Nat), n < 10 ^ f → 0 < f → gP f n acc = (Lib.decDigits n).map (·.toNat) ++ acc
 | 0, n, acc, h, h0 => by omega
 | f + 1, n, acc, h, _ => by
  have hd : ∀ d, d < 10 → (UInt8.ofNat (48 + d)).toNat = 48 + d := fun d hd => by simp; omega
  unfold gP
  rw [Lib.decDigits]
  cases e : Nat.ble 10 n with
  | false =>
   have hn : n < 10 := by
    rcases Nat.lt_or_ge n 10 with h | h
    ·exact h
    ·rw [Nat.ble_eq_true_of_le h] at e; cases e
   simp only [cond_false]
   rw [dif_pos hn]
   show (48 + n) :: acc = _
   simp [hd n hn]
   omega
  | true =>
   have hn := Nat.le_of_ble_eq_true e
   simp only [cond_true]
   rw [dif_neg (by omega)]
   have hf : 0 < f := by
    rcases Nat.eq_zero_or_pos f with h1 | h1
    ·subst h1; simp at h; omega
    ·exact h1
   show gP f (n / 10) ((48 + n % 10) :: acc) = _
   rw [yU f (n / 10) _ (by rw [Nat.pow_succ] at h; omega) hf]
   simp [hd (n % 10) (by omega)]
   omega
theorem bYo (n : Int) (h0 : -9223372036854775808 ≤ n) (h1 : n ≤ 9223372036854775807) : cD n = (Lib.itoa n).map (·.toNat) := by
 unfold Lib.itoa cD
 cases n with
 | ofNat n =>
  rw [if_neg (by simp)]
  simp only
  rw [yU 20 n [] (by simp at h1; omega) (by omega)]
  simp
 | negSucc n =>
  rw [if_pos (by omega)]
  simp only
  rw [yU 20 _ [] (by show n + 1 < _; omega) (by omega)]
  simp
theorem bAw (G : Gd) : fV CF1.P G 24 jT := by
 intro args h v h1 hr ρ w args' H hargs
 unfold jT at hr
 split at hr <;> (try (cases hr; done))
 rename_i n
 cases hc : (decide (-9223372036854775808 ≤ n) && decide (n ≤ 9223372036854775807)) with
 | false => rw [hc] at hr; cases hr
 | true =>
 rw [hc] at hr
 simp only [Bool.and_eq_true, decide_eq_true_eq] at hc
 simp only [cond_true, aV, bI] at hr
 obtain ⟨rfl, rfl⟩ := hr
 obtain ⟨a⟩ := args'
 cases hargs with
 | cons _ x' l1 l1' hx hxs =>
 cases hxs
 cases hx
 refine CallFn.of Tryz.f24 (by kernel_rfl) (by kernel_rfl) ?_
 have F := (G.ok w H.gl).1
 have htab : Lib.TabIs Tryz.prog w "internal/strconv.uint64pow10" .u64 Lib.pow10Tab := by
  obtain ⟨_, t, z, ht⟩ := F
  have hg : Tryz.prog.globalNamed "internal/strconv.uint64pow10" = some 1 := by kernel_rfl
  unfold Lib.TabIs World.var?
  rw [hg]
  simp only [Option.bind_some, ht]
 refine (Tryz.strconv_Itoa n hc.1 hc.2 w htab).mono ?_
 rintro e w' ⟨rfl, k, os, rfl⟩
 have hbel : Below w.heap.size w (Sort.grow (w.drewN k) os) := ⟨rfl, rfl, rfl, by simp [Sort.grow, World.drewN], fun i hi => by
  show (w.heap ++ os)[i]? = _
  rw [Array.getElem?_append_left hi]⟩
 exact ⟨ρ, _, rfl, Ex.refl _ _, .s _ _ (bYo n hc.1 hc.2).symm, H.later hbel, Kp.later H hbel⟩
theorem bOk (b c : UInt8) : Nat.beq b.toNat c.toNat = (b == c) := by
 rw [Bool.eq_iff_iff]
 constructor
 ·intro h
  have := Nat.eq_of_beq_eq_true h
  simpa using UInt8.toNat_inj.1 this
 ·intro h
  have h2 : b = c := by simpa using h
  rw [h2]; simp
theorem aJf {bs : ByteArray} {c : Nat} (h : bs.data.toList.map (·.toNat) = [c]) : ∃ u : UInt8, bs = ⟨#[u]⟩ ∧ u.toNat = c := by
 obtain ⟨⟨l⟩⟩ := bs
 match l, h with
 | [u], h => exact ⟨u, rfl, by simpa using h⟩
def oB (c : UInt8) (new : List UInt8) : List UInt8 → List UInt8
 | [] => []
 | x :: l => if x = c then new ++ oB c new l else x :: oB c new l
theorem zF {b c : UInt8} {l : List UInt8} (h : b ≠ c) {i : Nat} (hi : index l [c] = i) : index (b :: l) [c] = ((i + 1 : Nat) : Int) := by
 have hp : ([c] : List UInt8).isPrefixOf (b :: l) = false := by simp [List.isPrefixOf, Ne.symm h]
 rw [index, hp, hi]
 simp
theorem aAc {c : UInt8} {l : List UInt8} : index (c :: l) [c] = ((0 : Nat) : Int) := by
 rw [index]; simp [List.isPrefixOf]
theorem aMq (c : UInt8) (new : List UInt8) : ∀ s : List UInt8, replaceK [c] new (count s [c]) s = oB c new s
 | [] => by rw [count_one]; rfl
 | b :: l => by
  have ih := aMq c new l
  by_cases h : b = c
  ·subst h
   rw [count_cons_eq, Nat.add_comm, replaceK_hit _ _ _ _ 0 aAc]
   simp [oB, ih]
  ·rw [count_cons_ne _ _ _ h]
   simp only [oB, if_neg h]
   cases hk : count l [c] with
   | zero =>
    rw [hk] at ih
    simp only [replaceK] at ih ⊢
    rw [← ih]
   | succ k =>
    rw [hk] at ih
    obtain ⟨i, hi⟩ := index_of_count (s := l) (old := [c]) (by omega)
    rw [replaceK_hit _ _ _ _ i hi] at ih
    rw [replaceK_hit _ _ _ _ (i + 1) (zF h hi), ← ih]
    simp [Nat.add_right_comm]
theorem xE (c : UInt8) : ∀ s : List UInt8, oB c [c] s = s
 | [] => rfl
 | x :: l => by
  simp only [oB, xE c l]
  split
  ·rename_i h; subst h; rfl
  ·rfl
theorem bKn (s : List UInt8) (c : UInt8) (new : List UInt8) : replaceAll s [c] new = oB c new s := by
 unfold replaceAll replace
 split
 ·rename_i h
  have : [c] = new := by simpa using h
  subst this
  rw [xE]
 ·unfold replaceNum
  rw [if_pos (.inl (by decide))]
  exact aMq c new s
theorem aOm (c : UInt8) (new : List UInt8) : ∀ s : List UInt8, aNy c.toNat (new.map (·.toNat)) (s.map (·.toNat)) = (oB c new s).map (·.toNat)
 | [] => rfl
 | x :: l => by
  simp only [List.map_cons, aNy, oB, aOm c new l, bOk]
  by_cases h : x = c
  ·subst h; simp
  ·rw [if_neg h, show (x == c) = false by simpa using h]; simp
theorem cLu (G : Gd) : fV CF1.P G 235 aCj := by
 intro args h v h1 hr ρ w args' H hargs
 unfold aCj at hr
 split at hr <;> (try (cases hr; done))
 rename_i s c new
 cases hc : Nat.blt c 256 with
 | false => rw [hc] at hr; cases hr
 | true =>
 rw [hc] at hr
 cases hc2 : Nat.ble s.length 4000000000 with
 | false => rw [hc2] at hr; cases hr
 | true =>
 rw [hc2] at hr
 cases hc3 : Nat.ble new.length 1000 with
 | false => rw [hc3] at hr; cases hr
 | true =>
 rw [hc3] at hr
 have hs' := Nat.le_of_ble_eq_true hc2
 have hn' := Nat.le_of_ble_eq_true hc3
 simp only [cond_true, aV, bI] at hr
 obtain ⟨rfl, rfl⟩ := hr
 obtain ⟨a⟩ := args'
 cases hargs with
 | cons _ x' l1 l1' hx hxs =>
 cases hxs with
 | cons _ y' l2 l2' hy hys =>
 cases hys with
 | cons _ z' l3 l3' hz hzs =>
 cases hzs
 cases hx with
 | s _ bs hbs =>
 cases hy with
 | s _ bc hbc =>
 cases hz with
 | s _ bn hbn =>
 obtain ⟨u, rfl, rfl⟩ := aJf hbc
 subst hbs hbn
 have e1 : bs.size ≤ 4000000000 := by rw [List.length_map, Array.length_toList] at hs'; exact hs'
 have e2 : bn.size ≤ 1000 := by rw [List.length_map, Array.length_toList] at hn'; exact hn'
 refine CallFn.of Tryz.f235 (by kernel_rfl) (by kernel_rfl) ?_
 obtain ⟨⟨⟨m, hm⟩, _⟩, _⟩ := G.ok w H.gl
 have hcnt : countB bs ⟨#[u]⟩ ≤ bs.size := countB_le _ (by simp [ByteArray.size]) _ _ (Nat.le_refl _)
 have hmul : countB bs ⟨#[u]⟩ * bn.size ≤ 4000000000 * 1000 := Nat.mul_le_mul (by omega) e2
 refine (Tryz.strings_ReplaceAll bs ⟨#[u]⟩ bn m w (by omega) hm (by simp [ByteArray.size]) (by omega)).mono ?_
 rintro e w' ⟨rfl, hbel⟩
 refine ⟨ρ, _, rfl, Ex.refl _ _, .s _ _ ?_, H.later hbel, Kp.later H hbel⟩
 rw [aOm, ← bKn]
theorem wU (sep : List UInt8) : ∀ xs : List (List UInt8), jB (sep.map (·.toNat)) (xs.map (·.map (·.toNat))) = (Lib.join xs sep).map (·.toNat)
 | [] => rfl
 | [x] => by simp [jB, Lib.join, List.intercalate]
 | x :: y :: l => by
  have ih := wU sep (y :: l)
  simp only [List.map_cons] at ih ⊢
  rw [jB, ih]
  simp [Lib.join, List.intercalate, List.map_append]
theorem aNw {ρ : Ren} : ∀ {cells : List DV} {vs : List Value} {l : List (List Nat)}, VRs ρ cells vs → nV cells = some l → ∃ xs : List ByteArray, vs = xs.map Value.string ∧ l = xs.map fun x => x.data.toList.map (·.toNat)
 | [], _, _, .nil, e => by
  simp only [nV, aV] at e
  exact ⟨[], rfl, e.symm⟩
 | x :: c, _, _, .cons _ x' _ vs hx hs, e => by
  cases hx <;> try (simp [nV] at e; done)
  rename_i t bs hb
  simp only [nV, Option.map_eq_some_iff] at e
  obtain ⟨l0, e0, rfl⟩ := e
  obtain ⟨xs, rfl, rfl⟩ := aNw hs e0
  exact ⟨bs :: xs, rfl, by simp [hb]⟩
theorem bKl {w : World} {L : Loc} {i : Nat} {v : Value} (h : w.cell? (dZ L i) = some v) : dZ L i = ⟨L.bl, L.of + i, none⟩ := by
 unfold dZ at *
 by_cases e : i = 0
 ·subst e
  simp only [if_true] at h ⊢
  cases hs : L.spot with
  | none => rfl
  | some s =>
   rw [hs] at h
   unfold World.cell? at h
   split at h <;> simp at h
 ·simp [e]
theorem wV (xs : List ByteArray) : (xs.map fun x => x.data.toList.map (·.toNat)) = (xs.map (·.data.toList)).map (·.map (·.toNat)) := by simp
theorem cMi (G : Gd) : fV CF1.P G 23 qD := by
 intro args h v h1 hr ρ w args' H hargs
 unfold qD at hr
 split at hr <;> (try (cases hr; done))
 rename_i x sep hno
 split at hr <;> (try (cases hr; done))
 rename_i n cells hsrc
 split at hr <;> (try (cases hr; done))
 rename_i l hl
 cases hc : Nat.ble (jB sep l).length 100000000000 with
 | false => rw [hc] at hr; cases hr
 | true =>
 rw [hc] at hr
 cases hc2 : (Nat.ble n 100000000000 && bKh x) with
 | false => rw [hc2] at hr; cases hr
 | true =>
 rw [hc2] at hr
 have hc' := Nat.le_of_ble_eq_true hc
 rw [Bool.and_eq_true] at hc2
 obtain ⟨hc2, hcap⟩ := hc2
 have hn' := Nat.le_of_ble_eq_true hc2
 simp only [cond_true, aV, bI] at hr
 obtain ⟨rfl, rfl⟩ := hr
 obtain ⟨a⟩ := args'
 cases hargs with
 | cons _ x' l1 l1' hx hxs =>
 cases hxs with
 | cons y y' l2 l2' hy hys =>
 cases hys
 cases hy with
 | s _ bs hbs =>
 refine CallFn.of Tryz.f23 (by kernel_rfl) (by kernel_rfl) ?_
 have hnone : ∀ (a : Option Addr) (c : Nat), l = [] → Calls Tryz.prog 23 #[.slice a 0 c, .string bs] w (jX G ρ w (.s (jB sep l)) h) := by
  intro a c e
  subst e
  refine (Tryz.strings_Join_none a c bs w).mono ?_
  rintro e w' ⟨rfl, rfl⟩
  exact ⟨ρ, _, rfl, Ex.refl _ _, .s _ _ rfl, H, Kp.refl _ _⟩
 unfold mC at hsrc
 cases hx with
 | l0 =>
  simp only [aV, bI] at hsrc
  obtain ⟨rfl, rfl⟩ := hsrc
  simp only [nV, aV] at hl
  exact hnone _ _ hl.symm
 | le a c =>
  simp only [aV, bI] at hsrc
  obtain ⟨rfl, rfl⟩ := hsrc
  simp only [nV, aV] at hl
  exact hnone _ _ hl.symm
 | l b o m cap L hL =>
  simp only at hsrc
  split at hsrc <;> (try (cases hsrc; done))
  rename_i cs hcs
  simp only [aV, bI] at hsrc
  obtain ⟨rfl, rfl⟩ := hsrc
  obtain ⟨e1, e2, e3, vs, e4, e5, e6⟩ := eD H hcs hL
  obtain ⟨xs, rfl, rfl⟩ := aNw e4 hl
  simp only [List.length_map, Nat.mul_one] at e5
  subst e5
  cases xs with
  | nil => exact hnone _ _ rfl
  | cons x0 xs0 =>
   have h0 := e6 0 (.string x0) rfl
   have ha : dZ L o = ⟨L.bl, L.of + o, none⟩ := bKl h0
   rw [ha]
   have hsep := hbs
   refine (Tryz.strings_Join L.bl (L.of + o) (cap + L.sp) (x0 :: xs0) bs w ?_ (dW h0) (by omega) ?_ ?_).mono ?_
   ·intro j y hj
    have h5 := e6 j (.string y) (by rw [List.getElem?_map, hj]; rfl)
    rw [bKl h5] at h5
    rw [show L.of + o + j = L.of + (o + j) by omega]
    exact h5
   ·exact Nat.le_trans (Nat.le_of_ble_eq_true hcap) (Nat.le_add_right _ _)
   ·have := hc'
    rw [← hbs, wV, wU, List.length_map] at this
    omega
   ·rintro e w' ⟨rfl, hbel⟩
    refine ⟨ρ, _, rfl, Ex.refl _ _, .s _ _ ?_, H.later hbel, Kp.later H hbel⟩
    rw [← hbs, wV, wU]
 | u => simp at hsrc
 | s => exact (hno _ rfl).elim
 | lx b o m cap L hL => simp only [bKh] at hcap; cases hcap
 | _ => simp at hsrc
theorem bXx (c : UInt8) : ∀ s : List UInt8, tN c.toNat (s.map (·.toNat)) = (splitK [c] 0 (count s [c]) s).map (·.map (·.toNat))
 | [] => by rw [count_one]; simp [tN, splitK]
 | b :: l => by
  have ih := bXx c l
  simp only [List.map_cons]
  by_cases h : b = c
  ·subst h
   rw [count_cons_eq, Nat.add_comm, tN, if_pos rfl, ih]
   simp only [splitK, aAc]
   simp
  ·have hne : ¬ b.toNat = c.toNat := fun e => h (UInt8.toNat_inj.1 e)
   rw [tN, if_neg hne, ih, count_cons_ne _ _ _ h]
   cases hk : count l [c] with
   | zero => simp [splitK]
   | succ k =>
    obtain ⟨i, hi⟩ := index_of_count (s := l) (old := [c]) (by omega)
    have hi2 := zF h hi
    simp only [splitK, hi, hi2]
    rw [if_neg (by first | (simp; done) | (simp; omega)), if_neg (by first | (simp; done) | (simp; omega))]
    simp
theorem bVv (G : Gd) : fV CF1.P G 32 oW := by
 intro args h v h1 hr ρ w args' H hargs
 unfold oW at hr
 split at hr <;> (try (cases hr; done))
 rename_i s c
 cases hc : Nat.blt c 256 with
 | false => rw [hc] at hr; cases hr
 | true =>
 rw [hc] at hr
 cases hc2 : Nat.ble s.length 4000000000 with
 | false => rw [hc2] at hr; cases hr
 | true =>
 rw [hc2] at hr
 have hs' := Nat.le_of_ble_eq_true hc2
 simp only [cond_true, aV, bI] at hr
 obtain ⟨rfl, rfl⟩ := hr
 obtain ⟨a⟩ := args'
 cases hargs with
 | cons _ x' l1 l1' hx hxs =>
 cases hxs with
 | cons _ y' l2 l2' hy hys =>
 cases hys with
 | cons _ z' l3 l3' hz hzs =>
 cases hzs with
 | cons _ z4 l4 l4' hz4 hzs4 =>
 cases hzs4
 cases hz
 cases hz4
 cases hx with
 | s _ bs hbs =>
 cases hy with
 | s _ bc hbc =>
 obtain ⟨u, rfl, rfl⟩ := aJf hbc
 subst hbs
 have e1 : bs.size ≤ 4000000000 := by rw [List.length_map, Array.length_toList] at hs'; exact hs'
 have hsz : (⟨#[u]⟩ : ByteArray).size = 1 := rfl
 have hcnt : countB bs ⟨#[u]⟩ ≤ bs.size := countB_le _ (by omega) _ _ (Nat.le_refl _)
 have hp : tN u.toNat (bs.data.toList.map (·.toNat)) = ((splitB ⟨#[u]⟩ 0 (countB bs ⟨#[u]⟩) bs).map (·.data.toList)).map (·.map (·.toNat)) := by
  rw [bXx u bs.data.toList, splitB_data]
 have hlen := splitB_all ⟨#[u]⟩ (by omega) 0 _ bs rfl
 refine CallFn.of Tryz.f32 (by kernel_rfl) (by kernel_rfl) ?_
 obtain ⟨⟨⟨m, hm⟩, _⟩, _⟩ := G.ok w H.gl
 have hN : ((countB bs ⟨#[u]⟩ + 1 : Nat) : Int) = min (if (Int.negSucc 0) < 0 then (countB bs ⟨#[u]⟩ : Int) + 1 else Int.negSucc 0) ((bs.size : Int) + 1) := by
  rw [if_pos (by decide)]
  omega
 refine (Tryz.strings_genSplit bs ⟨#[u]⟩ 0 (Int.negSucc 0) (countB bs ⟨#[u]⟩ + 1) m w (by omega) hm (by omega) (by omega) (by decide) (by decide) hN).mono ?_
 rintro e w' ⟨rfl, rfl⟩
 simp only [Nat.add_sub_cancel] at *
 generalize hps : splitB ⟨#[u]⟩ 0 (countB bs ⟨#[u]⟩) bs = ps at *
 rw [hp]
 have hcell : cellsOf ps (countB bs ⟨#[u]⟩ + 1) = (ps.map Value.string).toArray := by rw [← hlen]; exact cellsOf_full ps
 rw [hcell]
 have hvs : ∀ qs : List ByteArray, VRs ρ (((qs.map (·.data.toList)).map (·.map (·.toNat))).map DV.s) (qs.map Value.string) := by
  intro qs
  induction qs with
  | nil => exact .nil
  | cons q qs ih => exact .cons _ _ _ _ (.s _ _ rfl) ih
 have H2 := H.newRow .ex _ (ps.map Value.string) (ps.map Value.string).toArray 9 0 (hvs ps) (fun i v hv => by simpa using hv) (.inl ⟨rfl, rfl⟩)
 refine ⟨_, _, rfl, H.exx ⟨w.heap.size, 0, 0, none⟩, ?_, H2, dH H.sz _⟩
 have := VR.l (ρ := lO ρ h.next ⟨w.heap.size, 0, 0, none⟩) h.next 0 ps.length ps.length ⟨w.heap.size, 0, 0, none⟩ (bX _ _ _)
 simpa [dZ, hlen] using this
theorem bOe (c : UInt8) : ∀ s : List UInt8, aBf c.toNat (s.map (·.toNat)) = if 0 ≤ index s [c] then some ((s.take (index s [c]).toNat).map (·.toNat), (s.drop ((index s [c]).toNat + 1)).map (·.toNat)) else none
 | [] => by simp [aBf, index]
 | b :: l => by
  have ih := bOe c l
  simp only [List.map_cons]
  by_cases h : b = c
  ·subst h
   rw [aBf, if_pos rfl, aAc]
   simp
  ·have hne : ¬ b.toNat = c.toNat := fun e => h (UInt8.toNat_inj.1 e)
   rw [aBf, if_neg hne, ih]
   by_cases hi : 0 ≤ index l [c]
   ·obtain ⟨i, hi2⟩ := Int.eq_ofNat_of_zero_le hi
    rw [zF h hi2, hi2]
    simp
    omega
   ·have hm : index (b :: l) [c] = -1 := by
     have hge := index_ge l [c]
     have hp : ([c] : List UInt8).isPrefixOf (b :: l) = false := by simp [List.isPrefixOf, Ne.symm h]
     have e : index l [c] = -1 := by omega
     rw [index, hp, e]
     simp
    rw [if_neg hi, hm]
    simp
theorem dGa (G : Gd) : fV CF1.P G 33 aGp := by
 intro args h v h1 hr ρ w args' H hargs
 unfold aGp at hr
 split at hr <;> (try (cases hr; done))
 rename_i s c
 cases hc : Nat.blt c 256 with
 | false => rw [hc] at hr; cases hr
 | true =>
 rw [hc] at hr
 cases hc2 : Nat.ble s.length 4000000000 with
 | false => rw [hc2] at hr; cases hr
 | true =>
 rw [hc2] at hr
 have hs' := Nat.le_of_ble_eq_true hc2
 simp only [cond_true] at hr
 obtain ⟨a⟩ := args'
 cases hargs with
 | cons _ x' l1 l1' hx hxs =>
 cases hxs with
 | cons _ y' l2 l2' hy hys =>
 cases hys
 cases hx with
 | s _ bs hbs =>
 cases hy with
 | s _ bc hbc =>
 obtain ⟨u, rfl, rfl⟩ := aJf hbc
 subst hbs
 have e1 : bs.size ≤ 4000000000 := by rw [List.length_map, Array.length_toList] at hs'; exact hs'
 refine CallFn.of Tryz.f33 (by kernel_rfl) (by kernel_rfl) ?_
 obtain ⟨⟨⟨m, hm⟩, _⟩, _⟩ := G.ok w H.gl
 refine (Tryz.strings_Cut bs ⟨#[u]⟩ m w (by omega) hm).mono ?_
 rintro e w' ⟨rfl, k, rfl⟩
 rw [bOe] at hr
 have hdr : ∀ k, HR G ρ h (w.drewN k) := fun k => H.congr (by simp [World.drewN])
 have hkp : ∀ k, Kp G w (w.drewN k) := fun k => by
  have hbel : Below w.heap.size w (w.drewN k) := ⟨rfl, rfl, rfl, by simp [World.drewN], fun i hi => by simp [World.drewN]⟩
  exact Kp.later H hbel
 unfold Lib.cut
 by_cases hi : 0 ≤ index bs.data.toList [u]
 ·rw [if_pos hi] at hr
  simp only [aV, bI] at hr
  obtain ⟨rfl, rfl⟩ := hr
  have : index bs.data.toList ([u] : List UInt8) = index bs.data.toList (⟨#[u]⟩ : ByteArray).data.toList := rfl
  rw [if_pos (by rw [← this]; exact hi)]
  refine ⟨ρ, _, rfl, Ex.refl _ _, .t _ _ ?_, hdr k, hkp k⟩
  exact .cons _ _ _ _ (.s _ _ rfl) (.cons _ _ _ _ (.s _ _ rfl) (.cons _ _ _ _ (.b true) .nil))
 ·rw [if_neg hi] at hr
  simp only [aV, bI] at hr
  obtain ⟨rfl, rfl⟩ := hr
  have : index bs.data.toList ([u] : List UInt8) = index bs.data.toList (⟨#[u]⟩ : ByteArray).data.toList := rfl
  rw [if_neg (by rw [← this]; exact hi)]
  refine ⟨ρ, _, rfl, Ex.refl _ _, .t _ _ ?_, hdr k, hkp k⟩
  exact .cons _ _ _ _ (.s _ _ rfl) (.cons _ _ _ _ (.s _ _ rfl) (.cons _ _ _ _ (.b false) .nil))
theorem aMi (c : UInt8) : ∀ s : List UInt8, gB c.toNat (s.map (·.toNat)) = Lib.countByte s c
 | [] => rfl
 | x :: s => by
  have ih := aMi c s
  unfold Lib.countByte at *
  simp only [List.map_cons, gB, ih, bOk, List.count_cons]
  cases x == c <;> simp
theorem cCz (G : Gd) : fV Tryz.prog G 47 rY := by
 intro args h v h1 hr ρ w args' H hargs
 unfold rY at hr
 split at hr <;> (try (cases hr; done))
 rename_i s c
 cases hc : Nat.blt c 256 with
 | false => rw [hc] at hr; cases hr
 | true =>
 rw [hc] at hr
 cases hc2 : Nat.ble s.length 4000000000 with
 | false => rw [hc2] at hr; cases hr
 | true =>
 rw [hc2] at hr
 simp only [cond_true, aV, bI] at hr
 obtain ⟨rfl, rfl⟩ := hr
 obtain ⟨a⟩ := args'
 cases hargs with
 | cons _ x' l1 l1' hx hxs =>
 cases hxs with
 | cons _ y' l2 l2' hy hys =>
 cases hys
 cases hx with
 | s _ bs hbs =>
 cases hy with
 | s _ bc hbc =>
 obtain ⟨u, rfl, rfl⟩ := aJf hbc
 subst hbs
 refine CallFn.of Tryz.f47 (by kernel_rfl) (by kernel_rfl) ?_
 refine (Tryz.strings_Count_one bs u w).mono ?_
 rintro e w' ⟨rfl, rfl⟩
 refine ⟨ρ, _, rfl, Ex.refl _ _, ?_, H, Kp.refl _ _⟩
 rw [aMi]
 exact .i _ _
end Go.Dd

namespace Go.Dd
open Go.Proofs
def oI (args : List DV) (h : Hp) : aG :=
 match args with
 | [.s s] => bif Nat.ble s.length 4000000000 then (match Lib.atoiAll (s.map UInt8.ofNat) with
  | .ok v => some (.t [.i .i64 v, .n0], h)
  | Lib.NumEnd.syntax => some (.t [.i .i64 0, .c 343 .u], h)
  | .range => some (.t [.i .i64 (Lib.atoiSat (s.map UInt8.ofNat)), .c 343 .u], h)) else none
 | _ => none
noncomputable def CFn : Cfg := ⟨Tryz.prog, fun g => bif Nat.beq g 124 then some oI else bif Nat.beq g 24 then some jT else none⟩
noncomputable def s74 (rec : RT) (n : Nat) (x0 : DV) (h0 : Hp) : aG :=
 bnd (oI [x0] h0) fun v1 h1 =>
 bnd (aC 0 v1 h1) fun v2 h2 =>
 bnd (aC 1 v1 h2) fun v3 h3 =>
 bnd (aDq .eql true v3 .n0 h3) fun v4 h4 =>
 bnd (gD v4 true (some (x0, h4)) h4) fun v5 h5 =>
 bnd (gD v4 true (cJ v5 h5) h5) fun v6 h6 =>
 bnd (gD v4 true (aD .leq v6 (.i .i64 (Int.ofNat 9)) h6) h6) fun v7 h7 =>
 bnd (aN v4 v7 (.b false) h7) fun v8 h8 =>
 bnd (gD v8 true (some (v2, h8)) h8) fun v9 h9 =>
 bnd (gD v8 true (jT [v9] h9) h9) fun v10 h10 =>
 bnd (gD v8 true (some (x0, h10)) h10) fun v11 h11 =>
 bnd (gD v8 true (bW .eql v10 v11 h11) h11) fun v12 h12 =>
 bnd (aN v8 v12 (.b false) h12) fun v13 h13 =>
 bnd (gD v13 true (some (v2, h13)) h13) fun v14 h14 =>
 bnd (gD v13 true (aD .geq v14 (.i .i64 (Int.ofNat 0)) h14) h14) fun v15 h15 =>
 bnd (aN v13 v15 (.b false) h15) fun v16 h16 =>
 some (.t [v2, v16], h16)
noncomputable abbrev c74 : Code := cf Tryz.f74
noncomputable def D74 (rec : RT) (n : Nat) (c : Code) (X : Nat → K) (k : K) : K := aM CFn rec 29 n c X (aO CFn Tryz.f74) k
theorem eBq (rec : RT) (n : Nat) : D74 rec n c74 x0 (aO CFn Tryz.f74) = (K1 (s74 rec n) 0) :=
 (by kernel_rfl)
theorem dTo (rec : RT) (n : Nat) (args : List DV) (h : Hp) : aF CFn rec n 74 args h = s74 rec n (args.getD 0 aR) h :=
 (by kernel_rfl : aF CFn rec n 74 args h = D74 rec n c74 x0 (aO CFn Tryz.f74) (aH args) h).trans ((congrFun (congrFun (eBq rec n) (aH args)) h).trans (by kernel_rfl))
end Go.Dd

