/- A part of the proof: HD HE OC T0 TL TM TN TP TQ TR HF HG HI W1 W2 W3 W4 W5 LT0 LT1 LT2 LT3 RH NJ SH QQ FQ RL QN: each text has a comment of its own. -/
import Derived.Test.YtjfmbeinhhdapaaGreatDoorPB4
import Derived.Test.YtjfmbeinhhdapaaGreatDoorPB5
import Derived.Test.YtjfmbeinhhdapaaGreatDoorPB6
import Derived.Test.YtjfmbeinhhdapaaGreatDoorPB7
import Derived.Shelf.Strings.Builder1
import Derived.Shelf.Strings.Builder2
import Derived.Shelf.Strings.OnBuilder
import Derived.Shelf.Small.Bits
import Derived.Shelf.Small.Strs
import Derived.Shelf.Utf8.RuneCount
import Derived.Shelf.Strconv.Atoi
import Derived.Shelf.Strconv.Itoa0
import Derived.Shelf.Strconv.Itoa1
import Derived.Shelf.LaysM
import Derived.Shelf.Strconv.Itoa2
import Derived.Shelf.Strconv.Itoa3
import Derived.Shelf.Strconv.AtoiErrFast
import Derived.Shelf.Strconv.ParseIntEmpty
import Derived.Shelf.Strconv.AtoiFail
import Derived.Shelf.Strconv.Clone
import Derived.Shelf.Strconv.SyntaxError
import Derived.Shelf.LaysC
import Derived.Shelf.Strconv.ToError
import Derived.Shelf.Strconv.Lower
import Derived.Shelf.Strconv.ParseUint10
import Derived.Shelf.Strconv.ParseUint10Empty
import Derived.Shelf.Strconv.ParseUint10Any
import Derived.Shelf.Strconv.ParseInt10
import Derived.Shelf.Strconv.AtoiLong
import Derived.Shelf.Strconv.AtoiInnerAll
import Derived.Shelf.Strconv.RangeError
import Derived.Shelf.Strconv.ToErrorRange
import Derived.Shelf.Strconv.AtoiAll
import Derived.Shelf.Strings.Search1
import Derived.Shelf.Strings.Search2
import Derived.Shelf.Strings.Search3
import Derived.Shelf.Strings.Cut
import Derived.Shelf.Strings.Count
import Derived.Shelf.Strings.Shaped
import Derived.Shelf.Strings.Split
import Derived.Shelf.Strings.Replace
import Derived.Shelf.Strings.SplitShaped
import Derived.Shelf.Unicode.Decode
import Derived.Shelf.Strings.RuneCount
import Derived.Shelf.Strings.Explode
import Derived.Shelf.Bits.Mul64
import Derived.Shelf.Unicode.DecodeSlow
import Derived.Shelf.Unicode.DecodeAny
import Derived.Shelf.Slices.Reverse
import Derived.Ground.Names2Prog
import Derived.Shelf.Slices.Clone
import Derived.Shelf.Slices.CompactS
import Derived.Shelf.Slices.SearchI
import Derived.Shelf.Slices.Cells
import Derived.Ground.SlgnProg
import Derived.Shelf.SlicesE.Clone
import Derived.Test.YtjfmbeinhhdapaaGreatDoorProg
import Derived.Lib.SplitLaws
import Derived.Lib.IndexBytes
import Derived.Lib.CutLaws
import Derived.Lib.AtoiAll
import Derived.Tactics
import Derived.Tactics2
import Derived.RegionTactic
import Derived.RegionCalls
set_option linter.unusedVariables false
set_option linter.unusedSimpArgs false
set_option linter.constructorNameAsVariable false
set_option maxRecDepth 100000
namespace Go.Dd
theorem mP : ∀ p q : Pos, nY p q = true → p = q
 | .h, .h, _ => rfl
 | .h, .o q, h => by cases h
 | .h, .i q, h => by cases h
 | .o p, .h, h => by cases h
 | .o p, .o q, h => by rw [mP p q h]
 | .o p, .i q, h => by cases h
 | .i p, .h, h => by cases h
 | .i p, .o q, h => by cases h
 | .i p, .i q, h => by rw [mP p q h]
theorem aZa (x y : Int) (h : bQi x y = true) : x = y := by
 cases x <;> cases y <;> simp only [bQi] at h
 ·rw [Nat.eq_of_beq_eq_true h]
 ·cases h
 ·cases h
 ·rw [Nat.eq_of_beq_eq_true h]
theorem aJv : ∀ t u : WT, wtE t u = true → t = u
 | .e, .e, _ => rfl
 | .e, .n _ _ _, h => by cases h
 | .n _ _ _, .e, h => by cases h
 | .n l v r, .n l' v' r', h => by
  have h' : (bQi v v' && (wtE l l' && wtE r r')) = true := h
  simp only [Bool.and_eq_true] at h'
  rw [aZa _ _ h'.1, aJv _ _ h'.2.1, aJv _ _ h'.2.2]
theorem aPu (x y : DV) (h : dvE x y = true) : x = y := by
 unfold dvE at h
 split at h <;> (try (cases h; done)) <;> (try rfl)
 ·rw [aZa _ _ h]
 ·rw [(mU _ _).1 h]
 ·simp only [Bool.and_eq_true] at h
  rw [mP _ _ h.1, Nat.eq_of_beq_eq_true h.2]
 ·simp only [Bool.and_eq_true] at h
  rw [mP _ _ h.1, Nat.eq_of_beq_eq_true h.2.1, Nat.eq_of_beq_eq_true h.2.2.1, Nat.eq_of_beq_eq_true h.2.2.2]
 ·rw [mP _ _ h]
 ·simp at h; rw [h]
theorem aJt : ∀ l m : List DV, bYw l m = true → l = m
 | [], [], _ => rfl
 | [], _ :: _, h => by cases h
 | _ :: _, [], h => by cases h
 | x :: l, y :: m, h => by
  have h' : (dvE x y && bYw l m) = true := h
  simp only [Bool.and_eq_true] at h'
  rw [aPu _ _ h'.1, aJt _ _ h'.2]
theorem bBy : ∀ l m : List (DV × DV), cUs l m = true → l = m
 | [], [], _ => rfl
 | [], _ :: _, h => by cases h
 | _ :: _, [], h => by cases h
 | x :: l, y :: m, h => by
  have h' : (dvE x.1 y.1 && (dvE x.2 y.2 && cUs l m)) = true := h
  simp only [Bool.and_eq_true] at h'
  rw [bBy _ _ h'.2.2]
  congr 1
  exact Prod.ext (aPu _ _ h'.1) (aPu _ _ h'.2.1)
theorem cWy (o p : Ob) (h : obE o p = true) : o = p := by
 unfold obE at h
 split at h <;> (try (cases h; done))
 ·rw [aJt _ _ h]
 ·rw [bBy _ _ h]
 ·simp only [Bool.and_eq_true] at h
  rw [Nat.eq_of_beq_eq_true h.1, aJv _ _ h.2]
 ·rw [aJv _ _ h]
theorem aLx (t : Tr Ob) : ∀ l : List (Pos × Ob), bPm t l = true → ∀ x ∈ l, t.get x.1 = some x.2
 | [], _, x, hx => by cases hx
 | y :: l, h, x, hx => by
  have h' : ((match t.get y.1 with
   | some o => obE o y.2
   | none => false) && bPm t l) = true := h
  simp only [Bool.and_eq_true] at h'
  rcases List.mem_cons.1 hx with rfl | hx
  ·have h1 := h'.1
   split at h1
   ·rename_i o ho
    rw [ho, cWy _ _ h1]
   ·cases h1
  ·exact aLx t l h'.2 x hx
theorem aMr : ∀ (l : List (Pos × Ob)) (b : Pos) (o : Ob), (cQl l).get b = some o → (b, o) ∈ l
 | [], b, o, h => by cases b <;> cases h
 | y :: l, b, o, h => by
  have h' : (Tr.set y.2 y.1 (cQl l)).get b = some o := h
  by_cases e : b = y.1
  ·subst e
   rw [dQg] at h'
   simp only [aT] at h'
   rw [← h']
   exact List.mem_cons_self
  ·rw [dQf _ _ _ _ e] at h'
   exact List.mem_cons_of_mem _ (aMr l b o h')
theorem lQ (o : Ob) : wN true o o := by cases o <;> simp [wN]
theorem Sim.refl (h : Hp) : Sim true h h := ⟨rfl, fun b o hb => ⟨o, hb, lQ o⟩⟩
theorem kY {o o' : Ob} (h : wN true o o') : o' = o := by cases o <;> simpa [wN] using h
theorem Sim.trans {a b c : Hp} (h : Sim true a b) (k : Sim true b c) : Sim true a c := ⟨k.next.trans h.next, fun p o hp => by
 obtain ⟨o', h1, h2⟩ := h.get p o hp
 rw [kY h2] at h1
 exact k.get p o h1⟩
theorem bBt {r : aG} {vs : List DV} {nx : Nat} {l : List (Pos × Ob)} (h : mJ r vs nx l = true) : ∃ g, r = some (.t vs, g) ∧ Sim true (jH nx l) g := by
 unfold mJ at h
 split at h <;> (try (cases h; done))
 rename_i us g
 simp only [Bool.and_eq_true] at h
 refine ⟨g, by rw [aJt _ _ h.1], ?_, fun b o hb => ⟨o, ?_, lQ o⟩⟩
 ·exact mP _ _ h.2.1
 ·exact aLx _ _ h.2.2 (b, o) (aMr _ _ _ hb)
end Go.Dd

namespace Go.Dd
open Go.Proofs
noncomputable section
def pN0 : Code := cf Tryz.f55
def pN1 : Code := cR pN0
def pN2 : Code := cR pN1
def pN3 : Code := cR pN2
def pN4 : Code := cR pN3
def pN5 : Code := cR pN4
def pN6 : Code := cR pN5
def cCz : Code := .seq (cL pN0) (.seq (cL pN1) (.seq (cL pN2) (.seq (cL pN3) (.seq (cL pN4) (.seq (cL pN5) (cL (cL pN6)))))))
def bKu : Code := cR (cL pN6)
def dFp : Code := cR pN6
def hS : Hp := ⟨cV 1, .e⟩
def dJf : K := fun e h => some (.t [e 5, e 155, e 156, e 157], h)
def cXb (n : Nat) : aG := aM CF (dA 899) 179 899 cCz (fun _ _ _ => none) (fun _ _ => none) dJf (aI [.i .i64 (.ofNat n)]) hS
end
theorem he0 : mJ (cXb 30000) (mC 0) 432 (oK 30000 553 84 18 [1076, 1096, 6, 24, 42, 60, 78, 96, 114, 132, 150, 168, 186, 204, 222, 240, 258, 276] [(10, 0), (19, 0), (46, 0), (55, 0), (64, 0), (91, 0), (100, 0), (109, 0), (118, 0), (127, 0), (145, 0)] 0) = true := by kernel_rfl
end Go.Dd

namespace Go.Dd
inductive Out where
 | n (e : bC) (h : Hp)
 | x (i : Nat) (e : bC) (h : Hp)
 | r (e : bC) (h : Hp)
def dRs (o : Option Out) (X : Nat → K) (kr k : K) : aG :=
 match o with
 | none => none
 | some (.n e h) => k e h
 | some (.x i e h) => X i e h
 | some (.r e h) => kr e h
section
variable {C : Cfg} {rec : FuncId → List DV → Hp → aG} {nt : Nat}
theorem bBv (all : Array Oper) : ∀ l : List Oper, ∃ O : bC → Hp → Option (bC × Hp), ∀ k env h, gY C rec nt all l k env h = match O env h with
  | none => none
  | some (e, h) => k e h
 | [] => ⟨fun e h => some (e, h), fun k env h => rfl⟩
 | o :: l => by
  obtain ⟨O, hO⟩ := bBv all l
  refine ⟨fun env h => bif dI nt o.dst then (match bJ C rec all o env h with
   | some (v, h') => O (bN env o.dst v) h'
   | none => none) else none, fun k env h => ?_⟩
  change cnd (dI nt o.dst) (bnd (bJ C rec all o env h) fun v h' => gY C rec nt all l k (bN env o.dst v) h') = _
  cases dI nt o.dst with
  | false => rfl
  | true =>
   simp only [cond_true]
   cases hs : bJ C rec all o env h with
   | none => rfl
   | some p => exact hO k _ _
theorem aNp (all : Array Oper) (m : Array Nat) (p0 : Pos) : ∀ (l : List Oper) (i c : Nat) (dirty : Bool) (rd : List Seen) (hs : List (Option Nat × Hp)), ∃ O : bC → Hp → Option (bC × Hp),
  ∀ k env h, eQ C rec nt all m p0 l k i c dirty rd hs env h = match O env h with
   | none => none
   | some (e, h) => k e h
 | [], i, c, dirty, rd, hs => ⟨fun e h => some (e, h), fun k env h => rfl⟩
 | o :: l, i, c, dirty, rd, hs => by
  have ih := aNp all m p0 l
  cases hc : bV C.P o.op with
  | pure =>
   obtain ⟨O, hO⟩ := ih (i + 1) c dirty rd hs
   refine ⟨fun env h => bif dI nt o.dst then (match bJ C rec all o env h with
    | some (v, h') => O (bN env o.dst v) h'
    | none => none) else none, fun k env h => ?_⟩
   have e : eQ C rec nt all m p0 (o :: l) k i c dirty rd hs env h = cnd (dI nt o.dst) (bnd (bJ C rec all o env h) fun v h' => eQ C rec nt all m p0 l k (i + 1) c dirty rd hs (bN env o.dst v) h') := by
    change cnd (dI nt o.dst) (match bV C.P o.op with | .pure => _ | .reads => _ | .makes => _ | .acts => _) = _
    rw [hc]
    rfl
   rw [e]
   cases dI nt o.dst with
   | false => rfl
   | true =>
    simp only [cond_true]
    cases hs : bJ C rec all o env h with
    | none => rfl
    | some p => exact hO k _ _
  | reads =>
   have hex : ∀ (env : bC) (v : DV), ∃ O : bC → Hp → Option (bC × Hp), ∀ k e h, eQ C rec nt all m p0 l k (i + 1) c dirty (⟨i, bJ C rec all o env, v⟩ :: rd) hs e h = match O e h with
    | none => none
    | some (e, h) => k e h := fun env v => ih (i + 1) c dirty (⟨i, bJ C rec all o env, v⟩ :: rd) hs
   refine ⟨fun env h => bif dI nt o.dst then (match bJ C rec all o env h with
    | some (v, h') => bif eS m i v (bJ C rec all o env) dirty hs then (hex env v).choose (bN env o.dst v) h' else none
    | none => none) else none, fun k env h => ?_⟩
   have e : eQ C rec nt all m p0 (o :: l) k i c dirty rd hs env h = cnd (dI nt o.dst) (bnd (bJ C rec all o env h) fun v h' =>
     cnd (eS m i v (bJ C rec all o env) dirty hs) (eQ C rec nt all m p0 l k (i + 1) c dirty (⟨i, bJ C rec all o env, v⟩ :: rd) hs (bN env o.dst v) h')) := by
    change cnd (dI nt o.dst) (match bV C.P o.op with | .pure => _ | .reads => _ | .makes => _ | .acts => _) = _
    rw [hc]
    rfl
   rw [e]
   cases dI nt o.dst with
   | false => rfl
   | true =>
    simp only [cond_true]
    cases hs2 : bJ C rec all o env h with
    | none => rfl
    | some p =>
     obtain ⟨v, h'⟩ := p
     show cnd (eS m i v (bJ C rec all o env) dirty hs) _ = _
     cases hcc : eS m i v (bJ C rec all o env) dirty hs with
     | false => simp only [hcc, cond_false]
     | true => simp only [hcc, cond_true]; exact (hex env v).choose_spec k _ _
  | makes =>
   obtain ⟨O, hO⟩ := ih (i + 1) (c + 1) true rd hs
   refine ⟨fun env h => bif dI nt o.dst then (match eC C o (cK c p0) env h with
    | some (v, h') => O (bN env o.dst v) h'
    | none => none) else none, fun k env h => ?_⟩
   have e : eQ C rec nt all m p0 (o :: l) k i c dirty rd hs env h = cnd (dI nt o.dst) (bnd (eC C o (cK c p0) env h) fun v h' => eQ C rec nt all m p0 l k (i + 1) (c + 1) true rd hs (bN env o.dst v) h') := by
    change cnd (dI nt o.dst) (match bV C.P o.op with | .pure => _ | .reads => _ | .makes => _ | .acts => _) = _
    rw [hc]
    rfl
   rw [e]
   cases dI nt o.dst with
   | false => rfl
   | true =>
    simp only [cond_true]
    cases hs : eC C o (cK c p0) env h with
    | none => rfl
    | some p => exact hO k _ _
  | acts =>
   have hex : ∀ h' : Hp, ∃ O : bC → Hp → Option (bC × Hp), ∀ k e h, eQ C rec nt all m p0 l k (i + 1) c false rd ((some i, h') :: hs) e h = match O e h with
    | none => none
    | some (e, h) => k e h := fun h' => ih (i + 1) c false rd ((some i, h') :: hs)
   refine ⟨fun env h => bif dI nt o.dst then (match bJ C rec all o env h with
    | some (v, h') => bif rd.all (fun q => gM m q.at_ i || bI (q.look h') q.v) then (hex h').choose (bN env o.dst v) h' else none
    | none => none) else none, fun k env h => ?_⟩
   have e : eQ C rec nt all m p0 (o :: l) k i c dirty rd hs env h = cnd (dI nt o.dst) (bnd (bJ C rec all o env h) fun v h' =>
     cnd (rd.all (fun q => gM m q.at_ i || bI (q.look h') q.v)) (eQ C rec nt all m p0 l k (i + 1) c false rd ((some i, h') :: hs) (bN env o.dst v) h')) := by
    change cnd (dI nt o.dst) (match bV C.P o.op with | .pure => _ | .reads => _ | .makes => _ | .acts => _) = _
    rw [hc]
    rfl
   rw [e]
   cases dI nt o.dst with
   | false => rfl
   | true =>
    simp only [cond_true]
    cases hs2 : bJ C rec all o env h with
    | none => rfl
    | some p =>
     obtain ⟨v, h'⟩ := p
     show cnd (rd.all (fun q => gM m q.at_ i || bI (q.look h') q.v)) _ = _
     cases hcc : rd.all (fun q => gM m q.at_ i || bI (q.look h') q.v) with
     | false => simp only [hcc, cond_false]
     | true => simp only [hcc, cond_true]; exact (hex h').choose_spec k _ _
theorem aLy (n : Nat) : ∀ c : Code, ∃ O : bC → Hp → Option Out, ∀ X kr k env h, aM C rec nt n c X kr k env h = dRs (O env h) X kr k := by
 have hfail : ∃ O : bC → Hp → Option Out, ∀ (X : Nat → K) (kr k : K) (env : bC) (h : Hp), cT env h = dRs (O env h) X kr k := ⟨fun _ _ => none, fun X kr k env h => rfl⟩
 intro c
 induction c with
 | skip => exact ⟨fun e h => some (.n e h), fun X kr k env h => rfl⟩
 | region id ops dr =>
  cases dr with
  | false =>
   obtain ⟨O, hO⟩ := bBv (C := C) (rec := rec) (nt := nt) ops ops.toList
   refine ⟨fun env h => (O env h).map fun p => .n p.1 p.2, fun X kr k env h => ?_⟩
   show gY C rec nt ops ops.toList k env h = _
   rw [hO]
   dsimp only
   cases hh : O env h <;> rfl
  | true =>
   cases hd : eW C.P ops with
   | false =>
    refine ⟨fun _ _ => none, fun X kr k env h => ?_⟩
    show (Bool.rec (motive := fun _ => K) cT (iN C rec nt ops k) (eW C.P ops)) env h = _
    rw [hd]; rfl
   | true =>
    have hex : ∀ h : Hp, _ := fun h => aNp (C := C) (rec := rec) (nt := nt) ops (Region.before ops) h.next ops.toList 0 0 false [] [(none, resv (cF C.P ops.toList) h)]
    refine ⟨fun env h => ((hex h).choose env (resv (cF C.P ops.toList) h)).map fun p => .n p.1 p.2, fun X kr k env h => ?_⟩
    have e : aM C rec nt n (.region id ops true) X kr k env h = iN C rec nt ops k env h := by
     show (Bool.rec (motive := fun _ => K) cT (iN C rec nt ops k) (eW C.P ops)) env h = _
     rw [hd]
    rw [e]
    unfold iN
    rw [(hex h).choose_spec k env _]
    dsimp only
    cases hh : (hex h).choose env (resv (cF C.P ops.toList) h) <;> rfl
 | seq x y ihx ihy =>
  obtain ⟨O1, h1⟩ := ihx
  obtain ⟨O2, h2⟩ := ihy
  refine ⟨fun env h => match O1 env h with
   | some (.n e h) => O2 e h
   | o => o, fun X kr k env h => ?_⟩
  show aM C rec nt n x X kr (aM C rec nt n y X kr k) env h = _
  rw [h1]
  dsimp only
  cases ho : O1 env h with
  | none => rfl
  | some o =>
   cases o with
   | n e h' => exact h2 X kr k e h'
   | x i e h' => rfl
   | r e h' => rfl
 | cond c x y ihx ihy =>
  obtain ⟨O1, h1⟩ := ihx
  obtain ⟨O2, h2⟩ := ihy
  refine ⟨fun env h => match opr env c with
   | .b true => O1 env h
   | .b false => O2 env h
   | _ => none, fun X kr k env h => ?_⟩
  show aX (opr env c) (aM C rec nt n x X kr k env h) (aM C rec nt n y X kr k env h) = _
  rw [h1, h2]
  unfold aX
  dsimp only
  cases opr env c <;> try rfl
  rename_i b
  cases b <;> rfl
 | block id x ih =>
  obtain ⟨O1, h1⟩ := ih
  refine ⟨fun env h => match O1 env h with
   | some (.x i e h') => bif Nat.beq i id then some (.n e h') else some (.x i e h')
   | o => o, fun X kr k env h => ?_⟩
  show aM C rec nt n x (fun j => bif Nat.beq j id then k else X j) kr k env h = _
  rw [h1]
  dsimp only
  cases ho : O1 env h with
  | none => rfl
  | some o =>
   cases o with
   | n e h' => rfl
   | r e h' => rfl
   | x i e h' =>
    simp only [dRs]
    cases hb : Nat.beq i id with
    | true => rfl
    | false => rfl
 | loop x ih =>
  obtain ⟨O1, h1⟩ := ih
  have key : ∀ m : Nat, ∃ O : bC → Hp → Option Out, ∀ (X : Nat → K) (kr k : K) env h, aL (fun kk => aM C rec nt n x X kr kk) m env h = dRs (O env h) X kr k := by
   intro m
   induction m with
   | zero => exact ⟨fun _ _ => none, fun X kr k env h => rfl⟩
   | succ m ihm =>
    obtain ⟨O2, h2⟩ := ihm
    refine ⟨fun env h => match O1 env h with
     | some (.n e h) => O2 e h
     | o => o, fun X kr k env h => ?_⟩
    show aM C rec nt n x X kr (aL (fun kk => aM C rec nt n x X kr kk) m) env h = _
    rw [h1]
    dsimp only
    cases ho : O1 env h with
    | none => rfl
    | some o =>
     cases o with
     | n e h' => exact h2 X kr k e h'
     | x i e h' => rfl
     | r e h' => rfl
  exact key n
 | rangeFunc f ps x y ihx ihy => exact hfail
 | exit id => exact ⟨fun e h => some (.x id e h), fun X kr k env h => rfl⟩
 | scope x ih => exact ih
 | label l => exact ⟨fun e h => some (.n e h), fun X kr k env h => rfl⟩
 | goto l => exact hfail
 | ret => exact ⟨fun e h => some (.r e h), fun X kr k env h => rfl⟩
 | refuse why => exact hfail
end
end Go.Dd

namespace Go.Dd
open Go.Proofs
noncomputable def t20 (rec : FuncId → List DV → Hp → aG) (n : Nat) (x0 x1 : DV) (h0 : Hp) : aG :=
 bnd (aD .eql x1 (.i .i64 (Int.ofNat 0)) h0) fun v1 h1 =>
 bnd (gD v1 false (some (x1, h1)) h1) fun v2 h2 =>
 bnd (gD v1 false (aD .eql v2 (.i .i64 (Int.ofNat 2)) h2) h2) fun v3 h3 =>
 bnd (aP v1 (.b true) v3 h3) fun v4 h4 =>
 bnd (gD v4 false (some (x1, h4)) h4) fun v5 h5 =>
 bnd (gD v4 false (aD .eql v5 (.i .i64 (Int.ofNat 4)) h5) h5) fun v6 h6 =>
 bnd (aP v4 (.b true) v6 h6) fun v7 h7 =>
 bnd (gD v7 false (some (x1, h7)) h7) fun v8 h8 =>
 bnd (gD v7 false (rec 200 [v8] h8) h8) fun v9 h9 =>
 bnd (aP v7 (.b true) v9 h9) fun v10 h10 =>
 bnd (gD v10 false (some (x0, h10)) h10) fun v11 h11 =>
 bnd (gD v10 false (some (x1, h11)) h11) fun v12 h12 =>
 bnd (gD v10 false (rec 196 [v11, v12] h12) h12) fun v13 h13 =>
 bnd (aP v10 (.b true) v13 h13) fun v14 h14 =>
 some (v14, h14)
noncomputable def E20 (rec : FuncId → List DV → Hp → aG) (n : Nat) (c : Code) (X : Nat → K) (k : K) : K := aM CF1 rec 24 n c X (aQ CF1 Tryz.f132) k
theorem dMe (rec : FuncId → List DV → Hp → aG) (n : Nat) : E20 rec n (cf Tryz.f132) x0 (aQ CF1 Tryz.f132) = (fun (env : bC) (h : Hp) => t20 rec n (env 0) (env 1) h) :=
 (by kernel_rfl)
theorem dHd (rec : FuncId → List DV → Hp → aG) (n : Nat) (args : List DV) (h : Hp) : aF CF1 rec n 132 args h = t20 rec n (args.getD 0 aR) (args.getD 1 aR) h :=
 (by kernel_rfl : aF CF1 rec n 132 args h = E20 rec n (cf Tryz.f132) x0 (aQ CF1 Tryz.f132) (aI args) h).trans ((congrFun (congrFun (dMe rec n) (aI args)) h).trans (by kernel_rfl))
noncomputable def t21 (rec : FuncId → List DV → Hp → aG) (n : Nat) (x0 x1 : DV) (h0 : Hp) : aG :=
 bnd (rec 247 [x1] h0) fun v1 h1 =>
 bnd (gD v1 true (some (x0, h1)) h1) fun v2 h2 =>
 bnd (gD v1 true (aY v2 h2) h2) fun v3 h3 =>
 bnd (gD v1 true (aB 3 v3 h3) h3) fun v4 h4 =>
 bnd (gD v1 true (aA v4 h4) h4) fun v5 h5 =>
 bnd (gD v1 true (some (x1, h5)) h5) fun v6 h6 =>
 bnd (gD v1 true (rec 198 [v6] h6) h6) fun v7 h7 =>
 cnd (bI (gD v1 true (aA v4 h7) h7) v5 && true) (
 bnd (gD v1 true (eD (.int .i64) (.b false) false v5 v7 h7) h7) fun v8 h8 =>
 bnd (aP v1 v8 (.b false) h8) fun v9 h9 =>
 some (v9, h9))
noncomputable def E21 (rec : FuncId → List DV → Hp → aG) (n : Nat) (c : Code) (X : Nat → K) (k : K) : K := aM CF1 rec 16 n c X (aQ CF1 Tryz.f196) k
theorem dKj (rec : FuncId → List DV → Hp → aG) (n : Nat) : E21 rec n (cf Tryz.f196) x0 (aQ CF1 Tryz.f196) = (fun (env : bC) (h : Hp) => t21 rec n (env 0) (env 1) h) :=
 (by kernel_rfl)
theorem dJq (rec : FuncId → List DV → Hp → aG) (n : Nat) (args : List DV) (h : Hp) : aF CF1 rec n 196 args h = t21 rec n (args.getD 0 aR) (args.getD 1 aR) h :=
 (by kernel_rfl : aF CF1 rec n 196 args h = E21 rec n (cf Tryz.f196) x0 (aQ CF1 Tryz.f196) (aI args) h).trans ((congrFun (congrFun (dKj rec n) (aI args)) h).trans (by kernel_rfl))
noncomputable def t22 (rec : FuncId → List DV → Hp → aG) (n : Nat) (x0 : DV) (h0 : Hp) : aG :=
 bnd (aY x0 h0) fun v1 h1 =>
 bnd (aB 0 v1 h1) fun v2 h2 =>
 bnd (aA v2 h2) fun v3 h3 =>
 bnd (cQ v3 h3) fun v4 h4 =>
 some (v4, h4)
noncomputable def E22 (rec : FuncId → List DV → Hp → aG) (n : Nat) (c : Code) (X : Nat → K) (k : K) : K := aM CF1 rec 8 n c X (aQ CF1 Tryz.f108) k
theorem dLa (rec : FuncId → List DV → Hp → aG) (n : Nat) : E22 rec n (cf Tryz.f108) x0 (aQ CF1 Tryz.f108) = (fun (env : bC) (h : Hp) => t22 rec n (env 0) h) :=
 (by kernel_rfl)
theorem dFw (rec : FuncId → List DV → Hp → aG) (n : Nat) (args : List DV) (h : Hp) : aF CF1 rec n 108 args h = t22 rec n (args.getD 0 aR) h :=
 (by kernel_rfl : aF CF1 rec n 108 args h = E22 rec n (cf Tryz.f108) x0 (aQ CF1 Tryz.f108) (aI args) h).trans ((congrFun (congrFun (dLa rec n) (aI args)) h).trans (by kernel_rfl))
noncomputable def t29 (rec : FuncId → List DV → Hp → aG) (n : Nat) (x0 : DV) (h0 : Hp) : aG :=
 bnd (aY x0 h0) fun v1 h1 =>
 bnd (aB 0 v1 h1) fun v2 h2 =>
 bnd (aA v2 h2) fun v3 h3 =>
 bnd (cQ v3 h3) fun v4 h4 =>
 bnd (aY x0 h4) fun v5 h5 =>
 bnd (aB 1 v5 h5) fun v6 h6 =>
 bnd (aA v6 h6) fun v7 h7 =>
 bnd (aD .sub v4 v7 h7) fun v8 h8 =>
 some (v8, h8)
noncomputable def E29 (rec : FuncId → List DV → Hp → aG) (n : Nat) (c : Code) (X : Nat → K) (k : K) : K := aM CF1 rec 13 n c X (aQ CF1 Tryz.f126) k
theorem dKd (rec : FuncId → List DV → Hp → aG) (n : Nat) : E29 rec n (cf Tryz.f126) x0 (aQ CF1 Tryz.f126) = (fun (env : bC) (h : Hp) => t29 rec n (env 0) h) :=
 (by kernel_rfl)
theorem dDk (rec : FuncId → List DV → Hp → aG) (n : Nat) (args : List DV) (h : Hp) : aF CF1 rec n 126 args h = t29 rec n (args.getD 0 aR) h :=
 (by kernel_rfl : aF CF1 rec n 126 args h = E29 rec n (cf Tryz.f126) x0 (aQ CF1 Tryz.f126) (aI args) h).trans ((congrFun (congrFun (dKd rec n) (aI args)) h).trans (by kernel_rfl))
noncomputable def t30 (rec : FuncId → List DV → Hp → aG) (n : Nat) (x0 x1 x2 x3 : DV) (h0 : Hp) : aG :=
 bnd (rec 125 [x0, x1] h0) fun v1 h1 =>
 bnd (jK .not v1 h1) fun v2 h2 =>
 bnd (gD v2 false (some (x2, h2)) h2) fun v3 h3 =>
 bnd (gD v2 false (aD .lss v3 (.i .i64 (Int.ofNat 0)) h3) h3) fun v4 h4 =>
 bnd (aP v2 (.b true) v4 h4) fun v5 h5 =>
 bnd (gD v5 false (some (x2, h5)) h5) fun v6 h6 =>
 bnd (gD v5 false (aD .gtr v6 (.i .i64 (Int.ofNat 2)) h6) h6) fun v7 h7 =>
 bnd (aP v5 (.b true) v7 h7) fun v8 h8 =>
 bnd (gD v8 false (some (x3, h8)) h8) fun v9 h9 =>
 bnd (gD v8 false (aD .lss v9 (.i .i64 (Int.ofNat 0)) h9) h9) fun v10 h10 =>
 bnd (aP v8 (.b true) v10 h10) fun v11 h11 =>
 bnd (gD v11 false (some (x3, h11)) h11) fun v12 h12 =>
 bnd (gD v11 false (aD .gtr v12 (.i .i64 (Int.ofNat 256)) h12) h12) fun v13 h13 =>
 bnd (aP v11 (.b true) v13 h13) fun v14 h14 =>
 aX v14 (
  some (.t [(.i .i64 (Int.ofNat 0)), (.i .i64 (Int.ofNat 1))], h14)) (
  bnd (rec 126 [x0] h14) fun v15 h15 =>
  bnd (aD .add x3 (.i .i64 (Int.ofNat 3)) h15) fun v16 h16 =>
  bnd (aD .lss v15 v16 h16) fun v17 h17 =>
  bnd (gD v17 false (some (x0, h17)) h17) fun v18 h18 =>
  bnd (gD v17 false (aY v18 h18) h18) fun v19 h19 =>
  bnd (gD v17 false (aB 2 v19 h19) h19) fun v20 h20 =>
  bnd (gD v17 false (aA v20 h20) h20) fun v21 h21 =>
  bnd (gD v17 false (aD .geq v21 (.i .i64 (Int.ofNat 1099511627776)) h21) h21) fun v22 h22 =>
  bnd (aP v17 (.b true) v22 h22) fun v23 h23 =>
  aX v23 (
   some (.t [(.i .i64 (Int.ofNat 0)), (.i .i64 (Int.ofNat 4))], h23)) (
   bnd (aY x0 h23) fun v24 h24 =>
   bnd (aB 1 v24 h24) fun v25 h25 =>
   bnd (aA v25 h25) fun v26 h26 =>
   bnd (aY x0 h26) fun v27 h27 =>
   bnd (aB 2 v27 h27) fun v28 h28 =>
   bnd (aA v28 h28) fun v29 h29 =>
   bnd (aD .add v29 (.i .i64 (Int.ofNat 1)) h29) fun v30 h30 =>
   bnd (aY x0 h30) fun v31 h31 =>
   bnd (aB 2 v31 h31) fun v32 h32 =>
   bnd (aH 1 v32 v30 h32) fun _ h33 =>
   bnd (aY x0 h33) fun v34 h34 =>
   bnd (aB 0 v34 h34) fun v35 h35 =>
   bnd (aA v35 h35) fun v36 h36 =>
   bnd (aY x0 h36) fun v37 h37 =>
   bnd (aB 0 v37 h37) fun v38 h38 =>
   bnd (aA v38 h38) fun v39 h39 =>
   bnd (aD .add v26 (.i .i64 (Int.ofNat 1)) h39) fun v40 h40 =>
   bnd (aY x0 h40) fun v41 h41 =>
   bnd (aB 0 v41 h41) fun v42 h42 =>
   bnd (aA v42 h42) fun v43 h43 =>
   bnd (aD .add v26 (.i .i64 (Int.ofNat 2)) h43) fun v44 h44 =>
   bnd (dV .shl x3 (.i .u64 (Int.ofNat 2)) h44) fun v45 h45 =>
   bnd (aD .or v45 x2 h45) fun v46 h46 =>
   bnd (aY x0 h46) fun v47 h47 =>
   bnd (aB 2 v47 h47) fun v48 h48 =>
   bnd (aA v48 h48) fun v49 h49 =>
   bnd (aE 1 v36 v26 h49) fun v50 h50 =>
   bnd (aH 1 v50 v46 h50) fun v51 h51 =>
   bnd (aE 1 v39 v40 h51) fun v52 h52 =>
   bnd (aH 1 v52 x1 h52) fun v53 h53 =>
   bnd (aE 1 v43 v44 h53) fun v54 h54 =>
   bnd (aH 1 v54 v49 h54) fun v55 h55 =>
   bnd (aY x0 h55) fun v56 h56 =>
   bnd (aB 0 v56 h56) fun v57 h57 =>
   bnd (aA v57 h57) fun v58 h58 =>
   bnd (aD .add v26 (.i .i64 (Int.ofNat 3)) h58) fun v59 h59 =>
   bnd (aD .add v26 (.i .i64 (Int.ofNat 3)) h59) fun v60 h60 =>
   bnd (aD .add v60 x3 h60) fun v61 h61 =>
   bnd (dN 1 v58 (some v59) (some v61) h61) fun v62 h62 =>
   bnd (kS [(.i .i64 (Int.ofNat 0))] v62 h62) fun _ h63 =>
   bnd (aY x0 h63) fun v64 h64 =>
   bnd (aB 1 v64 h64) fun v65 h65 =>
   bnd (aA v65 h65) fun v66 h66 =>
   bnd (aD .add x3 (.i .i64 (Int.ofNat 3)) h66) fun v67 h67 =>
   bnd (aD .add v66 v67 h67) fun v68 h68 =>
   bnd (aY x0 h68) fun v69 h69 =>
   bnd (aB 1 v69 h69) fun v70 h70 =>
   bnd (aH 1 v70 v68 h70) fun _ h71 =>
   bnd (aY x0 h71) fun v72 h72 =>
   bnd (aB 3 v72 h72) fun v73 h73 =>
   bnd (aA v73 h73) fun v74 h74 =>
   bnd (dQ (.int .i64) v74 v26 (.b true) h74) fun _ h75 =>
   bnd (rec 127 [v26] h75) fun v76 h76 =>
   bnd (aC 0 v76 h76) fun v77 h77 =>
   bnd (aC 1 v76 h77) fun v78 h78 =>
   some (.t [v77, (.i .i64 (Int.ofNat 0))], h78)))
noncomputable def E30 (rec : FuncId → List DV → Hp → aG) (n : Nat) (c : Code) (X : Nat → K) (k : K) : K := aM CF1 rec 118 n c X (aQ CF1 Tryz.f77) k
theorem dOf (rec : FuncId → List DV → Hp → aG) (n : Nat) : E30 rec n (cf Tryz.f77) x0 (aQ CF1 Tryz.f77) = (fun (env : bC) (h : Hp) => t30 rec n (env 0) (env 1) (env 2) (env 3) h) :=
 (by kernel_rfl)
theorem dHl (rec : FuncId → List DV → Hp → aG) (n : Nat) (args : List DV) (h : Hp) : aF CF1 rec n 77 args h = t30 rec n (args.getD 0 aR) (args.getD 1 aR) (args.getD 2 aR) (args.getD 3 aR) h :=
 (by kernel_rfl : aF CF1 rec n 77 args h = E30 rec n (cf Tryz.f77) x0 (aQ CF1 Tryz.f77) (aI args) h).trans ((congrFun (congrFun (dOf rec n) (aI args)) h).trans (by kernel_rfl))
noncomputable def t41 (rec : FuncId → List DV → Hp → aG) (n : Nat) (x0 : DV) (h0 : Hp) : aG :=
 bnd (aD .lss x0 (.i .i64 (Int.ofNat 16)) h0) fun v1 h1 =>
 bnd (gD v1 false (some (x0, h1)) h1) fun v2 h2 =>
 bnd (gD v1 false (aD .gtr v2 (.i .i64 (Int.ofNat 131072)) h2) h2) fun v3 h3 =>
 bnd (aP v1 (.b true) v3 h3) fun v4 h4 =>
 aX v4 (
  some (.p0, h4)) (
  bnd (bR 1 8 [(.i .i64 (Int.ofNat 0))] x0 x0 h4) fun v5 h5 =>
  bnd (dU h5) fun v6 h6 =>
  bnd (bL [.l0, (.i .i64 (Int.ofNat 0)), (.i .i64 (Int.ofNat 0)), .m0] [(0, 1, v5), (1, 1, (.i .i64 (Int.ofNat 3))), (3, 1, v6)] h6) fun v7 h7 =>
  bnd (dB v7 h7) fun v8 h8 =>
  some (v8, h8))
noncomputable def E41 (rec : FuncId → List DV → Hp → aG) (n : Nat) (c : Code) (X : Nat → K) (k : K) : K := aM CF1 rec 14 n c X (aQ CF1 Tryz.f76) k
theorem dNv (rec : FuncId → List DV → Hp → aG) (n : Nat) : E41 rec n (cf Tryz.f76) x0 (aQ CF1 Tryz.f76) = (fun (env : bC) (h : Hp) => t41 rec n (env 0) h) :=
 (by kernel_rfl)
theorem cOk (rec : FuncId → List DV → Hp → aG) (n : Nat) (args : List DV) (h : Hp) : aF CF1 rec n 76 args h = t41 rec n (args.getD 0 aR) h :=
 (by kernel_rfl : aF CF1 rec n 76 args h = E41 rec n (cf Tryz.f76) x0 (aQ CF1 Tryz.f76) (aI args) h).trans ((congrFun (congrFun (dNv rec n) (aI args)) h).trans (by kernel_rfl))
noncomputable def t44 (rec : FuncId → List DV → Hp → aG) (n : Nat) (x0 x1 x2 : DV) (h0 : Hp) : aG :=
 bnd (rec 128 [x0, x1] h0) fun v1 h1 =>
 bnd (aD .eql v1 (.i .i64 (Int.ofNat 0)) h1) fun v2 h2 =>
 bnd (gD v2 false (some (x0, h2)) h2) fun v3 h3 =>
 bnd (gD v2 false (some (x2, h3)) h3) fun v4 h4 =>
 bnd (gD v2 false (rec 125 [v3, v4] h4) h4) fun v5 h5 =>
 bnd (gD v2 false (jK .not v5 h5) h5) fun v6 h6 =>
 bnd (aP v2 (.b true) v6 h6) fun v7 h7 =>
 aX v7 (
  some ((.i .i64 (Int.ofNat 1)), h7)) (
  bnd (aY x0 h7) fun v8 h8 =>
  bnd (aB 0 v8 h8) fun v9 h9 =>
  bnd (aA v9 h9) fun v10 h10 =>
  bnd (aD .add v1 (.i .i64 (Int.ofNat 1)) h10) fun v11 h11 =>
  bnd (aE 1 v10 v11 h11) fun v12 h12 =>
  bnd (aH 1 v12 x2 h12) fun _ h13 =>
  some ((.i .i64 (Int.ofNat 0)), h13))
noncomputable def E44 (rec : FuncId → List DV → Hp → aG) (n : Nat) (c : Code) (X : Nat → K) (k : K) : K := aM CF1 rec 27 n c X (aQ CF1 Tryz.f80) k
theorem dLb (rec : FuncId → List DV → Hp → aG) (n : Nat) : E44 rec n (cf Tryz.f80) x0 (aQ CF1 Tryz.f80) = (fun (env : bC) (h : Hp) => t44 rec n (env 0) (env 1) (env 2) h) :=
 (by kernel_rfl)
theorem dHa (rec : FuncId → List DV → Hp → aG) (n : Nat) (args : List DV) (h : Hp) : aF CF1 rec n 80 args h = t44 rec n (args.getD 0 aR) (args.getD 1 aR) (args.getD 2 aR) h :=
 (by kernel_rfl : aF CF1 rec n 80 args h = E44 rec n (cf Tryz.f80) x0 (aQ CF1 Tryz.f80) (aI args) h).trans ((congrFun (congrFun (dLb rec n) (aI args)) h).trans (by kernel_rfl))
noncomputable def vH (rec : FuncId → List DV → Hp → aG) (n : Nat) (x0 x3 x9 : DV) (h0 : Hp) : aG :=
 bnd (aY x0 h0) fun v1 h1 =>
 bnd (aB 0 v1 h1) fun v2 h2 =>
 bnd (aA v2 h2) fun v3 h3 =>
 bnd (aE 1 v3 x9 h3) fun v4 h4 =>
 bnd (aH 1 v4 x3 h4) fun _ h5 =>
 some ((.i .i64 (Int.ofNat 0)), h5)
noncomputable def aXe (rec : FuncId → List DV → Hp → aG) (n : Nat) (x0 x1 x3 x9 : DV) (h0 : Hp) : aG :=
 bnd (rec 136 [x0, x1] h0) fun v11 h11 =>
 bnd (aD .eql v11 (.i .i64 (Int.ofNat 0)) h11) fun v12 h12 =>
 aX v12 (
  bnd (rec 132 [x0, x3] h12) fun v13 h13 =>
  bnd (jK .not v13 h13) fun v14 h14 =>
  aX v14 (
   some ((.i .i64 (Int.ofNat 6)), h14)) (
   vH rec n x0 x3 x9 h14)) (
  bnd (aD .eql v11 (.i .i64 (Int.ofNat 2)) h12) fun v15 h15 =>
  aX v15 (
   bnd (aD .lss x3 (.i .i64 (Int.ofNat 0)) h15) fun v16 h16 =>
   bnd (gD v16 false (some (x3, h16)) h16) fun v17 h17 =>
   bnd (gD v16 false (aD .gtr v17 (.i .i64 (Int.ofNat 255)) h17) h17) fun v18 h18 =>
   bnd (aP v16 (.b true) v18 h18) fun v19 h19 =>
   aX v19 (
    some ((.i .i64 (Int.ofNat 6)), h19)) (
    vH rec n x0 x3 x9 h19)) (
   vH rec n x0 x3 x9 h15))
noncomputable def aMb (rec : FuncId → List DV → Hp → aG) (n : Nat) (x0 x1 x3 x9 x10 : DV) (h0 : Hp) : aG :=
 bnd (aD .neq x10 (.i .i64 (Int.ofNat 0)) h0) fun v29 h29 =>
 aX v29 (
  some (x10, h29)) (
  aXe rec n x0 x1 x3 x9 h29)
noncomputable def aVl (rec : FuncId → List DV → Hp → aG) (n : Nat) (x0 x1 x2 x3 : DV) (h0 : Hp) : aG :=
 bnd (rec 135 [x0, x1, x2] h0) fun v31 h31 =>
 bnd (aC 0 v31 h31) fun v32 h32 =>
 bnd (aC 1 v31 h32) fun v33 h33 =>
 aMb rec n x0 x1 x3 v32 v33 h33
noncomputable def t47 (rec : FuncId → List DV → Hp → aG) (n : Nat) (x0 x1 x2 x3 : DV) (h0 : Hp) : aG :=
 aVl rec n x0 x1 x2 x3 h0
noncomputable def E47 (rec : FuncId → List DV → Hp → aG) (n : Nat) (c : Code) (X : Nat → K) (k : K) : K := aM CF1 rec 45 n c X (aQ CF1 Tryz.f84) k
theorem cVu (rec : FuncId → List DV → Hp → aG) (n : Nat) : E47 rec n (cR (cR (cR (cR (cf Tryz.f84))))) x0 (aQ CF1 Tryz.f84) = (fun (env : bC) (h : Hp) => vH rec n (env 0) (env 3) (env 9) h) :=
 (by kernel_rfl)
theorem cJd (rec : FuncId → List DV → Hp → aG) (n : Nat) : E47 rec n (cR (cR (cR (cf Tryz.f84)))) x0 (aQ CF1 Tryz.f84) = E47 rec n (cL (cR (cR (cR (cf Tryz.f84))))) x0 (fun (env : bC) (h : Hp) => vH rec n (env 0) (env 3) (env 9) h) :=
 congrArg (fun k => E47 rec n (cL (cR (cR (cR (cf Tryz.f84))))) x0 k) (cVu rec n)
theorem cXl (rec : FuncId → List DV → Hp → aG) (n : Nat) : E47 rec n (cR (cR (cR (cf Tryz.f84)))) x0 (aQ CF1 Tryz.f84) = (fun (env : bC) (h : Hp) => aXe rec n (env 0) (env 1) (env 3) (env 9) h) :=
 (cJd rec n).trans
 ((by kernel_rfl))
theorem bZe (rec : FuncId → List DV → Hp → aG) (n : Nat) : E47 rec n (cR (cR (cf Tryz.f84))) x0 (aQ CF1 Tryz.f84) = E47 rec n (cL (cR (cR (cf Tryz.f84)))) x0 (fun (env : bC) (h : Hp) => aXe rec n (env 0) (env 1) (env 3) (env 9) h) :=
 congrArg (fun k => E47 rec n (cL (cR (cR (cf Tryz.f84)))) x0 k) (cXl rec n)
theorem cYt (rec : FuncId → List DV → Hp → aG) (n : Nat) : E47 rec n (cR (cR (cf Tryz.f84))) x0 (aQ CF1 Tryz.f84) = (fun (env : bC) (h : Hp) => aMb rec n (env 0) (env 1) (env 3) (env 9) (env 10) h) :=
 (bZe rec n).trans
 ((by kernel_rfl))
theorem cMn (rec : FuncId → List DV → Hp → aG) (n : Nat) : E47 rec n (cR (cf Tryz.f84)) x0 (aQ CF1 Tryz.f84) = E47 rec n (cL (cR (cf Tryz.f84))) x0 (fun (env : bC) (h : Hp) => aMb rec n (env 0) (env 1) (env 3) (env 9) (env 10) h) :=
 congrArg (fun k => E47 rec n (cL (cR (cf Tryz.f84))) x0 k) (cYt rec n)
theorem cTa (rec : FuncId → List DV → Hp → aG) (n : Nat) : E47 rec n (cR (cf Tryz.f84)) x0 (aQ CF1 Tryz.f84) = (fun (env : bC) (h : Hp) => aVl rec n (env 0) (env 1) (env 2) (env 3) h) :=
 (cMn rec n).trans
 ((by kernel_rfl))
theorem dFu (rec : FuncId → List DV → Hp → aG) (n : Nat) : E47 rec n (cf Tryz.f84) x0 (aQ CF1 Tryz.f84) = E47 rec n (cL (cf Tryz.f84)) x0 (fun (env : bC) (h : Hp) => aVl rec n (env 0) (env 1) (env 2) (env 3) h) :=
 congrArg (fun k => E47 rec n (cL (cf Tryz.f84)) x0 k) (cTa rec n)
theorem dPy (rec : FuncId → List DV → Hp → aG) (n : Nat) : E47 rec n (cf Tryz.f84) x0 (aQ CF1 Tryz.f84) = (fun (env : bC) (h : Hp) => t47 rec n (env 0) (env 1) (env 2) (env 3) h) :=
 (dFu rec n).trans
 ((by kernel_rfl))
theorem dGg (rec : FuncId → List DV → Hp → aG) (n : Nat) (args : List DV) (h : Hp) : aF CF1 rec n 84 args h = t47 rec n (args.getD 0 aR) (args.getD 1 aR) (args.getD 2 aR) (args.getD 3 aR) h :=
 (by kernel_rfl : aF CF1 rec n 84 args h = E47 rec n (cf Tryz.f84) x0 (aQ CF1 Tryz.f84) (aI args) h).trans ((congrFun (congrFun (dPy rec n) (aI args)) h).trans (by kernel_rfl))
noncomputable def t50 (rec : FuncId → List DV → Hp → aG) (n : Nat) (x0 x1 : DV) (h0 : Hp) : aG :=
 bnd (aY x0 h0) fun v1 h1 =>
 bnd (aB 0 v1 h1) fun v2 h2 =>
 bnd (aA v2 h2) fun v3 h3 =>
 bnd (rec 128 [x0, x1] h3) fun v4 h4 =>
 cnd (bI (aA v2 h4) v3 && true) (
 bnd (aD .add v4 (.i .i64 (Int.ofNat 1)) h4) fun v5 h5 =>
 bnd (aE 1 v3 v5 h5) fun v6 h6 =>
 bnd (aA v6 h6) fun v7 h7 =>
 some (v7, h7))
noncomputable def E50 (rec : FuncId → List DV → Hp → aG) (n : Nat) (c : Code) (X : Nat → K) (k : K) : K := aM CF1 rec 15 n c X (aQ CF1 Tryz.f243) k
theorem dPq (rec : FuncId → List DV → Hp → aG) (n : Nat) : E50 rec n (cf Tryz.f243) x0 (aQ CF1 Tryz.f243) = (fun (env : bC) (h : Hp) => t50 rec n (env 0) (env 1) h) :=
 (by kernel_rfl)
theorem dFn (rec : FuncId → List DV → Hp → aG) (n : Nat) (args : List DV) (h : Hp) : aF CF1 rec n 243 args h = t50 rec n (args.getD 0 aR) (args.getD 1 aR) h :=
 (by kernel_rfl : aF CF1 rec n 243 args h = E50 rec n (cf Tryz.f243) x0 (aQ CF1 Tryz.f243) (aI args) h).trans ((congrFun (congrFun (dPq rec n) (aI args)) h).trans (by kernel_rfl))
noncomputable def t51 (rec : FuncId → List DV → Hp → aG) (n : Nat) (x0 x1 : DV) (h0 : Hp) : aG :=
 bnd (aY x0 h0) fun v1 h1 =>
 bnd (aB 0 v1 h1) fun v2 h2 =>
 bnd (aA v2 h2) fun v3 h3 =>
 bnd (rec 128 [x0, x1] h3) fun v4 h4 =>
 cnd (bI (aA v2 h4) v3 && true) (
 bnd (aE 1 v3 v4 h4) fun v5 h5 =>
 bnd (aA v5 h5) fun v6 h6 =>
 bnd (aD .and v6 (.i .i64 (Int.ofNat 3)) h6) fun v7 h7 =>
 some (v7, h7))
noncomputable def E51 (rec : FuncId → List DV → Hp → aG) (n : Nat) (c : Code) (X : Nat → K) (k : K) : K := aM CF1 rec 15 n c X (aQ CF1 Tryz.f136) k
theorem dPa (rec : FuncId → List DV → Hp → aG) (n : Nat) : E51 rec n (cf Tryz.f136) x0 (aQ CF1 Tryz.f136) = (fun (env : bC) (h : Hp) => t51 rec n (env 0) (env 1) h) :=
 (by kernel_rfl)
theorem dJj (rec : FuncId → List DV → Hp → aG) (n : Nat) (args : List DV) (h : Hp) : aF CF1 rec n 136 args h = t51 rec n (args.getD 0 aR) (args.getD 1 aR) h :=
 (by kernel_rfl : aF CF1 rec n 136 args h = E51 rec n (cf Tryz.f136) x0 (aQ CF1 Tryz.f136) (aI args) h).trans ((congrFun (congrFun (dPa rec n) (aI args)) h).trans (by kernel_rfl))
noncomputable def t52 (rec : FuncId → List DV → Hp → aG) (n : Nat) (x0 x1 : DV) (h0 : Hp) : aG :=
 bnd (aY x0 h0) fun v1 h1 =>
 bnd (aB 0 v1 h1) fun v2 h2 =>
 bnd (aA v2 h2) fun v3 h3 =>
 bnd (rec 128 [x0, x1] h3) fun v4 h4 =>
 cnd (bI (aA v2 h4) v3 && true) (
 bnd (aE 1 v3 v4 h4) fun v5 h5 =>
 bnd (aA v5 h5) fun v6 h6 =>
 bnd (dV .shr v6 (.i .u64 (Int.ofNat 2)) h6) fun v7 h7 =>
 some (v7, h7))
noncomputable def E52 (rec : FuncId → List DV → Hp → aG) (n : Nat) (c : Code) (X : Nat → K) (k : K) : K := aM CF1 rec 15 n c X (aQ CF1 Tryz.f201) k
theorem dOj (rec : FuncId → List DV → Hp → aG) (n : Nat) : E52 rec n (cf Tryz.f201) x0 (aQ CF1 Tryz.f201) = (fun (env : bC) (h : Hp) => t52 rec n (env 0) (env 1) h) :=
 (by kernel_rfl)
theorem dIb (rec : FuncId → List DV → Hp → aG) (n : Nat) (args : List DV) (h : Hp) : aF CF1 rec n 201 args h = t52 rec n (args.getD 0 aR) (args.getD 1 aR) h :=
 (by kernel_rfl : aF CF1 rec n 201 args h = E52 rec n (cf Tryz.f201) x0 (aQ CF1 Tryz.f201) (aI args) h).trans ((congrFun (congrFun (dOj rec n) (aI args)) h).trans (by kernel_rfl))
noncomputable def t54 (rec : FuncId → List DV → Hp → aG) (n : Nat) (x0 : DV) (h0 : Hp) : aG :=
 bnd (aD .and x0 (.i .i64 (Int.ofNat 1)) h0) fun v1 h1 =>
 bnd (aD .eql v1 (.i .i64 (Int.ofNat 1)) h1) fun v2 h2 =>
 bnd (gD v2 true (some (x0, h2)) h2) fun v3 h3 =>
 bnd (gD v2 true (dV .shr v3 (.i .u64 (Int.ofNat 1)) h3) h3) fun v4 h4 =>
 bnd (gD v2 true (rec 197 [v4, (.i .i64 (Int.negSucc 1073741823)), (.i .i64 (Int.ofNat 1073741823))] h4) h4) fun v5 h5 =>
 bnd (aP v2 v5 (.b false) h5) fun v6 h6 =>
 some (v6, h6)
noncomputable def E54 (rec : FuncId → List DV → Hp → aG) (n : Nat) (c : Code) (X : Nat → K) (k : K) : K := aM CF1 rec 11 n c X (aQ CF1 Tryz.f200) k
theorem dLv (rec : FuncId → List DV → Hp → aG) (n : Nat) : E54 rec n (cf Tryz.f200) x0 (aQ CF1 Tryz.f200) = (fun (env : bC) (h : Hp) => t54 rec n (env 0) h) :=
 (by kernel_rfl)
theorem dIs (rec : FuncId → List DV → Hp → aG) (n : Nat) (args : List DV) (h : Hp) : aF CF1 rec n 200 args h = t54 rec n (args.getD 0 aR) h :=
 (by kernel_rfl : aF CF1 rec n 200 args h = E54 rec n (cf Tryz.f200) x0 (aQ CF1 Tryz.f200) (aI args) h).trans ((congrFun (congrFun (dLv rec n) (aI args)) h).trans (by kernel_rfl))
noncomputable def t60 (rec : FuncId → List DV → Hp → aG) (n : Nat) (x0 : DV) (h0 : Hp) : aG :=
 bnd (rec 197 [x0, (.i .i64 (Int.negSucc 1073741823)), (.i .i64 (Int.ofNat 1073741823))] h0) fun v1 h1 =>
 bnd (jK .not v1 h1) fun v2 h2 =>
 aX v2 (
  some (.t [(.i .i64 (Int.ofNat 0)), (.b false)], h2)) (
  bnd (dV .shl x0 (.i .u64 (Int.ofNat 1)) h2) fun v3 h3 =>
  bnd (aD .or v3 (.i .i64 (Int.ofNat 1)) h3) fun v4 h4 =>
  some (.t [v4, (.b true)], h4))
noncomputable def E60 (rec : FuncId → List DV → Hp → aG) (n : Nat) (c : Code) (X : Nat → K) (k : K) : K := aM CF1 rec 10 n c X (aQ CF1 Tryz.f134) k
theorem dLd (rec : FuncId → List DV → Hp → aG) (n : Nat) : E60 rec n (cf Tryz.f134) x0 (aQ CF1 Tryz.f134) = (fun (env : bC) (h : Hp) => t60 rec n (env 0) h) :=
 (by kernel_rfl)
theorem dEc (rec : FuncId → List DV → Hp → aG) (n : Nat) (args : List DV) (h : Hp) : aF CF1 rec n 134 args h = t60 rec n (args.getD 0 aR) h :=
 (by kernel_rfl : aF CF1 rec n 134 args h = E60 rec n (cf Tryz.f134) x0 (aQ CF1 Tryz.f134) (aI args) h).trans ((congrFun (congrFun (dLd rec n) (aI args)) h).trans (by kernel_rfl))
noncomputable def t62 (rec : FuncId → List DV → Hp → aG) (n : Nat) (x0 : DV) (h0 : Hp) : aG :=
 bnd (rec 200 [x0] h0) fun v1 h1 =>
 bnd (jK .not v1 h1) fun v2 h2 =>
 aX v2 (
  some ((.i .i64 (Int.ofNat 0)), h2)) (
  bnd (dV .shr x0 (.i .u64 (Int.ofNat 1)) h2) fun v3 h3 =>
  some (v3, h3))
noncomputable def E62 (rec : FuncId → List DV → Hp → aG) (n : Nat) (c : Code) (X : Nat → K) (k : K) : K := aM CF1 rec 8 n c X (aQ CF1 Tryz.f216) k
theorem dLj (rec : FuncId → List DV → Hp → aG) (n : Nat) : E62 rec n (cf Tryz.f216) x0 (aQ CF1 Tryz.f216) = (fun (env : bC) (h : Hp) => t62 rec n (env 0) h) :=
 (by kernel_rfl)
theorem dFr (rec : FuncId → List DV → Hp → aG) (n : Nat) (args : List DV) (h : Hp) : aF CF1 rec n 216 args h = t62 rec n (args.getD 0 aR) h :=
 (by kernel_rfl : aF CF1 rec n 216 args h = E62 rec n (cf Tryz.f216) x0 (aQ CF1 Tryz.f216) (aI args) h).trans ((congrFun (congrFun (dLj rec n) (aI args)) h).trans (by kernel_rfl))
noncomputable def t63 (rec : FuncId → List DV → Hp → aG) (n : Nat) (x0 : DV) (h0 : Hp) : aG :=
 bnd (aD .and x0 (.i .i64 (Int.ofNat 1)) h0) fun v1 h1 =>
 bnd (aD .eql v1 (.i .i64 (Int.ofNat 0)) h1) fun v2 h2 =>
 bnd (gD v2 true (some (x0, h2)) h2) fun v3 h3 =>
 bnd (gD v2 true (dV .shr v3 (.i .u64 (Int.ofNat 1)) h3) h3) fun v4 h4 =>
 bnd (gD v2 true (rec 197 [v4, (.i .i64 (Int.ofNat 3)), (.i .i64 (Int.ofNat 131072))] h4) h4) fun v5 h5 =>
 bnd (aP v2 v5 (.b false) h5) fun v6 h6 =>
 some (v6, h6)
noncomputable def E63 (rec : FuncId → List DV → Hp → aG) (n : Nat) (c : Code) (X : Nat → K) (k : K) : K := aM CF1 rec 11 n c X (aQ CF1 Tryz.f247) k
theorem dOe (rec : FuncId → List DV → Hp → aG) (n : Nat) : E63 rec n (cf Tryz.f247) x0 (aQ CF1 Tryz.f247) = (fun (env : bC) (h : Hp) => t63 rec n (env 0) h) :=
 (by kernel_rfl)
theorem dIz (rec : FuncId → List DV → Hp → aG) (n : Nat) (args : List DV) (h : Hp) : aF CF1 rec n 247 args h = t63 rec n (args.getD 0 aR) h :=
 (by kernel_rfl : aF CF1 rec n 247 args h = E63 rec n (cf Tryz.f247) x0 (aQ CF1 Tryz.f247) (aI args) h).trans ((congrFun (congrFun (dOe rec n) (aI args)) h).trans (by kernel_rfl))
noncomputable def t64 (rec : FuncId → List DV → Hp → aG) (n : Nat) (x0 : DV) (h0 : Hp) : aG :=
 bnd (rec 247 [x0] h0) fun v1 h1 =>
 bnd (jK .not v1 h1) fun v2 h2 =>
 aX v2 (
  some ((.i .i64 (Int.ofNat 0)), h2)) (
  bnd (dV .shr x0 (.i .u64 (Int.ofNat 1)) h2) fun v3 h3 =>
  some (v3, h3))
noncomputable def E64 (rec : FuncId → List DV → Hp → aG) (n : Nat) (c : Code) (X : Nat → K) (k : K) : K := aM CF1 rec 8 n c X (aQ CF1 Tryz.f198) k
theorem dQd (rec : FuncId → List DV → Hp → aG) (n : Nat) : E64 rec n (cf Tryz.f198) x0 (aQ CF1 Tryz.f198) = (fun (env : bC) (h : Hp) => t64 rec n (env 0) h) :=
 (by kernel_rfl)
theorem dGj (rec : FuncId → List DV → Hp → aG) (n : Nat) (args : List DV) (h : Hp) : aF CF1 rec n 198 args h = t64 rec n (args.getD 0 aR) h :=
 (by kernel_rfl : aF CF1 rec n 198 args h = E64 rec n (cf Tryz.f198) x0 (aQ CF1 Tryz.f198) (aI args) h).trans ((congrFun (congrFun (dQd rec n) (aI args)) h).trans (by kernel_rfl))
noncomputable def t73 (rec : FuncId → List DV → Hp → aG) (n : Nat) (x0 x1 x2 : DV) (h0 : Hp) : aG :=
 bnd (rec 135 [x0, x1, x2] h0) fun v1 h1 =>
 bnd (aC 0 v1 h1) fun v2 h2 =>
 bnd (aC 1 v1 h2) fun v3 h3 =>
 bnd (aD .neq v3 (.i .i64 (Int.ofNat 0)) h3) fun v4 h4 =>
 aX v4 (
  some (.t [(.i .i64 (Int.ofNat 0)), v3], h4)) (
  bnd (aY x0 h4) fun v5 h5 =>
  bnd (aB 0 v5 h5) fun v6 h6 =>
  bnd (aA v6 h6) fun v7 h7 =>
  bnd (aE 1 v7 v2 h7) fun v8 h8 =>
  bnd (aA v8 h8) fun v9 h9 =>
  some (.t [v9, (.i .i64 (Int.ofNat 0))], h9))
noncomputable def E73 (rec : FuncId → List DV → Hp → aG) (n : Nat) (c : Code) (X : Nat → K) (k : K) : K := aM CF1 rec 27 n c X (aQ CF1 Tryz.f245) k
theorem dPm (rec : FuncId → List DV → Hp → aG) (n : Nat) : E73 rec n (cf Tryz.f245) x0 (aQ CF1 Tryz.f245) = (fun (env : bC) (h : Hp) => t73 rec n (env 0) (env 1) (env 2) h) :=
 (by kernel_rfl)
theorem cPd (rec : FuncId → List DV → Hp → aG) (n : Nat) (args : List DV) (h : Hp) : aF CF1 rec n 245 args h = t73 rec n (args.getD 0 aR) (args.getD 1 aR) (args.getD 2 aR) h :=
 (by kernel_rfl : aF CF1 rec n 245 args h = E73 rec n (cf Tryz.f245) x0 (aQ CF1 Tryz.f245) (aI args) h).trans ((congrFun (congrFun (dPm rec n) (aI args)) h).trans (by kernel_rfl))
noncomputable def t74 (rec : FuncId → List DV → Hp → aG) (n : Nat) (x0 x1 : DV) (h0 : Hp) : aG :=
 bnd (aD .eql x1 (.i .i64 (Int.ofNat 0)) h0) fun v1 h1 =>
 bnd (gD v1 false (some (x0, h1)) h1) fun v2 h2 =>
 bnd (gD v1 false (some (x1, h2)) h2) fun v3 h3 =>
 bnd (gD v1 false (rec 196 [v2, v3] h3) h3) fun v4 h4 =>
 bnd (aP v1 (.b true) v4 h4) fun v5 h5 =>
 some (v5, h5)
noncomputable def E74 (rec : FuncId → List DV → Hp → aG) (n : Nat) (c : Code) (X : Nat → K) (k : K) : K := aM CF1 rec 12 n c X (aQ CF1 Tryz.f125) k
theorem dNa (rec : FuncId → List DV → Hp → aG) (n : Nat) : E74 rec n (cf Tryz.f125) x0 (aQ CF1 Tryz.f125) = (fun (env : bC) (h : Hp) => t74 rec n (env 0) (env 1) h) :=
 (by kernel_rfl)
theorem dJc (rec : FuncId → List DV → Hp → aG) (n : Nat) (args : List DV) (h : Hp) : aF CF1 rec n 125 args h = t74 rec n (args.getD 0 aR) (args.getD 1 aR) h :=
 (by kernel_rfl : aF CF1 rec n 125 args h = E74 rec n (cf Tryz.f125) x0 (aQ CF1 Tryz.f125) (aI args) h).trans ((congrFun (congrFun (dNa rec n) (aI args)) h).trans (by kernel_rfl))
noncomputable def t75 (rec : FuncId → List DV → Hp → aG) (n : Nat) (x0 : DV) (h0 : Hp) : aG :=
 bnd (rec 197 [x0, (.i .i64 (Int.ofNat 3)), (.i .i64 (Int.ofNat 131072))] h0) fun v1 h1 =>
 bnd (jK .not v1 h1) fun v2 h2 =>
 aX v2 (
  some (.t [(.i .i64 (Int.ofNat 0)), (.b false)], h2)) (
  bnd (dV .shl x0 (.i .u64 (Int.ofNat 1)) h2) fun v3 h3 =>
  some (.t [v3, (.b true)], h3))
noncomputable def E75 (rec : FuncId → List DV → Hp → aG) (n : Nat) (c : Code) (X : Nat → K) (k : K) : K := aM CF1 rec 9 n c X (aQ CF1 Tryz.f127) k
theorem dMw (rec : FuncId → List DV → Hp → aG) (n : Nat) : E75 rec n (cf Tryz.f127) x0 (aQ CF1 Tryz.f127) = (fun (env : bC) (h : Hp) => t75 rec n (env 0) h) :=
 (by kernel_rfl)
theorem dFt (rec : FuncId → List DV → Hp → aG) (n : Nat) (args : List DV) (h : Hp) : aF CF1 rec n 127 args h = t75 rec n (args.getD 0 aR) h :=
 (by kernel_rfl : aF CF1 rec n 127 args h = E75 rec n (cf Tryz.f127) x0 (aQ CF1 Tryz.f127) (aI args) h).trans ((congrFun (congrFun (dMw rec n) (aI args)) h).trans (by kernel_rfl))
noncomputable def t105 (rec : FuncId → List DV → Hp → aG) (n : Nat) (x0 x1 : DV) (h0 : Hp) : aG :=
 bnd (rec 196 [x0, x1] h0) fun v1 h1 =>
 bnd (jK .not v1 h1) fun v2 h2 =>
 aX v2 (
  some ((.i .i64 (Int.ofNat 0)), h2)) (
  bnd (rec 198 [x1] h2) fun v3 h3 =>
  some (v3, h3))
noncomputable def dJe (rec : FuncId → List DV → Hp → aG) (n : Nat) (c : Code) (X : Nat → K) (k : K) : K := aM CF1 rec 11 n c X (aQ CF1 Tryz.f128) k
theorem dGr (rec : FuncId → List DV → Hp → aG) (n : Nat) : dJe rec n (cf Tryz.f128) x0 (aQ CF1 Tryz.f128) = (fun (env : bC) (h : Hp) => t105 rec n (env 0) (env 1) h) :=
 (by kernel_rfl)
theorem cYz (rec : FuncId → List DV → Hp → aG) (n : Nat) (args : List DV) (h : Hp) : aF CF1 rec n 128 args h = t105 rec n (args.getD 0 aR) (args.getD 1 aR) h :=
 (by kernel_rfl : aF CF1 rec n 128 args h = dJe rec n (cf Tryz.f128) x0 (aQ CF1 Tryz.f128) (aI args) h).trans ((congrFun (congrFun (dGr rec n) (aI args)) h).trans (by kernel_rfl))
noncomputable def bFd (rec : FuncId → List DV → Hp → aG) (n : Nat) (x0 x1 x2 : DV) (h0 : Hp) : aG :=
 bnd (rec 128 [x0, x1] h0) fun v1 h1 =>
 bnd (aD .eql v1 (.i .i64 (Int.ofNat 0)) h1) fun v2 h2 =>
 aX v2 (
  some (.t [(.i .i64 (Int.ofNat 0)), (.i .i64 (Int.ofNat 1))], h2)) (
  bnd (aD .lss x2 (.i .i64 (Int.ofNat 0)) h2) fun v3 h3 =>
  bnd (gD v3 false (some (x2, h3)) h3) fun v4 h4 =>
  bnd (gD v3 false (some (x0, h4)) h4) fun v5 h5 =>
  bnd (gD v3 false (some (x1, h5)) h5) fun v6 h6 =>
  bnd (gD v3 false (rec 201 [v5, v6] h6) h6) fun v7 h7 =>
  bnd (gD v3 false (aD .geq v4 v7 h7) h7) fun v8 h8 =>
  bnd (aP v3 (.b true) v8 h8) fun v9 h9 =>
  aX v9 (
   some (.t [(.i .i64 (Int.ofNat 0)), (.i .i64 (Int.ofNat 5))], h9)) (
   bnd (aD .add v1 (.i .i64 (Int.ofNat 3)) h9) fun v10 h10 =>
   bnd (aD .add v10 x2 h10) fun v11 h11 =>
   some (.t [v11, (.i .i64 (Int.ofNat 0))], h11)))
noncomputable def dJi (rec : FuncId → List DV → Hp → aG) (n : Nat) (c : Code) (X : Nat → K) (k : K) : K := aM CF1 rec 29 n c X (aQ CF1 Tryz.f135) k
theorem dDi (rec : FuncId → List DV → Hp → aG) (n : Nat) : dJi rec n (cf Tryz.f135) x0 (aQ CF1 Tryz.f135) = (fun (env : bC) (h : Hp) => bFd rec n (env 0) (env 1) (env 2) h) :=
 (by kernel_rfl)
theorem aKs (rec : FuncId → List DV → Hp → aG) (n : Nat) (args : List DV) (h : Hp) : aF CF1 rec n 135 args h = bFd rec n (args.getD 0 aR) (args.getD 1 aR) (args.getD 2 aR) h :=
 (by kernel_rfl : aF CF1 rec n 135 args h = dJi rec n (cf Tryz.f135) x0 (aQ CF1 Tryz.f135) (aI args) h).trans ((congrFun (congrFun (dDi rec n) (aI args)) h).trans (by kernel_rfl))
noncomputable def cYy (rec : FuncId → List DV → Hp → aG) (n : Nat) (x0 x1 x2 : DV) (h0 : Hp) : aG :=
 bnd (aD .geq x0 x1 h0) fun v1 h1 =>
 bnd (gD v1 true (some (x0, h1)) h1) fun v2 h2 =>
 bnd (gD v1 true (some (x2, h2)) h2) fun v3 h3 =>
 bnd (gD v1 true (aD .leq v2 v3 h3) h3) fun v4 h4 =>
 bnd (aP v1 v4 (.b false) h4) fun v5 h5 =>
 some (v5, h5)
noncomputable def dHz (rec : FuncId → List DV → Hp → aG) (n : Nat) (c : Code) (X : Nat → K) (k : K) : K := aM CF1 rec 15 n c X (aQ CF1 Tryz.f197) k
theorem dEk (rec : FuncId → List DV → Hp → aG) (n : Nat) : dHz rec n (cf Tryz.f197) x0 (aQ CF1 Tryz.f197) = (fun (env : bC) (h : Hp) => cYy rec n (env 0) (env 1) (env 2) h) :=
 (by kernel_rfl)
theorem cYv (rec : FuncId → List DV → Hp → aG) (n : Nat) (args : List DV) (h : Hp) : aF CF1 rec n 197 args h = cYy rec n (args.getD 0 aR) (args.getD 1 aR) (args.getD 2 aR) h :=
 (by kernel_rfl : aF CF1 rec n 197 args h = dHz rec n (cf Tryz.f197) x0 (aQ CF1 Tryz.f197) (aI args) h).trans ((congrFun (congrFun (dEk rec n) (aI args)) h).trans (by kernel_rfl))
end Go.Dd

namespace Go.Dd
theorem mH {a b : Nat} : Nat.beq a b = decide (a = b) := by
 cases h : Nat.beq a b with
 | true => simp [Nat.eq_of_beq_eq_true h]
 | false =>
  have : a ≠ b := by intro e; subst e; simp at h
  simp [this]
theorem aFw {a b : Nat} : Nat.ble a b = decide (a ≤ b) := by
 cases h : Nat.ble a b with
 | true => simp [Nat.le_of_ble_eq_true h]
 | false =>
  have : ¬ a ≤ b := by intro e; rw [Nat.ble_eq_true_of_le e] at h; cases h
  simp [this]
theorem zH {a b : Nat} : Nat.blt a b = decide (a < b) := by
 show Nat.ble (a + 1) b = _
 rw [aFw]
 simp [Nat.succ_le_iff]
theorem aOj (w : Int) : (kC w ≠ 0 ↔ (w % 2 = 0 ∧ 3 ≤ w / 2 ∧ w / 2 ≤ 131072)) ∧ (kC w ≠ 0 → (kC w : Int) = w / 2) ∧ kC w ≤ 131072 := by
 cases w with
 | ofNat w =>
  simp only [kC, mH, aFw]
  have e1 : Nat.mod w 2 = w % 2 := rfl
  have e2 : Nat.div w 2 = w / 2 := rfl
  rw [e1, e2]
  by_cases hc : w % 2 = 0 ∧ 6 ≤ w ∧ w ≤ 262144
  ·obtain ⟨h1, h2, h3⟩ := hc
   simp only [h1, h2, h3, decide_true, Bool.and_self, cond_true]
   simp only [Int.ofNat_eq_natCast]
   refine ⟨⟨fun _ => ⟨by omega, by omega, by omega⟩, fun _ => by omega⟩, fun _ => by omega, by omega⟩
  ·have : (decide (w % 2 = 0) && (decide (6 ≤ w) && decide (w ≤ 262144))) = false := by
    rw [← Bool.not_eq_true]
    simpa using hc
   rw [this]
   simp only [cond_false, Int.ofNat_eq_natCast]
   refine ⟨⟨fun h => absurd rfl h, fun h => by omega⟩, fun h => absurd rfl h, by omega⟩
 | negSucc w =>
  simp only [kC]
  refine ⟨⟨fun h => absurd rfl h, fun h => by omega⟩, fun h => absurd rfl h, by omega⟩
theorem aTr (w : Int) : iP w = decide (w % 2 = 1 ∧ -1073741824 ≤ w / 2 ∧ w / 2 ≤ 1073741823) := by
 rw [Bool.eq_iff_iff, decide_eq_true_iff]
 cases w with
 | ofNat w =>
  simp only [iP, mH, zH, Bool.and_eq_true, decide_eq_true_eq]
  have e1 : Nat.mod w 2 = w % 2 := rfl
  rw [e1]
  simp only [Int.ofNat_eq_natCast]
  omega
 | negSucc w =>
  simp only [iP, mH, zH, Bool.and_eq_true, decide_eq_true_eq]
  have e1 : Nat.mod w 2 = w % 2 := rfl
  rw [e1]
  omega
theorem bHj (w : Int) : cPp w = w / 2 := by
 cases w with
 | ofNat w => show Int.ofNat (w / 2) = _; simp
 | negSucc w => show Int.negSucc (w / 2) = _; omega
theorem jA (a : Int) (h : -9223372036854775808 ≤ a ∧ a ≤ 9223372036854775807) : IntKind.i64.wrap a = a := by
 simp [IntKind.wrap, IntKind.signed, IntKind.bits, Int.bmod]
 omega
theorem gW (a : Int) : (BitVec.ofInt 64 a).toNat = (a % 18446744073709551616).toNat := by
 rw [BitVec.toNat_ofInt]
 rfl
theorem dMi (w : Int) : IntKind.i64.wrap (((BitVec.ofInt 64 w &&& BitVec.ofInt 64 1).toNat : Nat) : Int) = w % 2 := by
 rw [BitVec.toNat_and, gW, gW]
 rw [show ((1 : Int) % 18446744073709551616).toNat = 1 from rfl, Nat.and_one_is_mod]
 rw [jA _ (by omega)]
 omega
theorem dLp (w : Int) : IntKind.i64.wrap (((BitVec.ofInt 64 w &&& BitVec.ofInt 64 3).toNat : Nat) : Int) = w % 4 := by
 rw [BitVec.toNat_and, gW, gW]
 rw [show ((3 : Int) % 18446744073709551616).toNat = 2 ^ 2 - 1 from rfl, Nat.and_two_pow_sub_one_eq_mod]
 rw [jA _ (by omega)]
 omega
theorem cUk (a : Nat) (k b : Nat) (hb : b < 2 ^ k) (hs : a * 2 ^ k + b < 9223372036854775808) : IntKind.i64.wrap (((BitVec.ofInt 64 ((a * 2 ^ k : Nat) : Int) ||| BitVec.ofInt 64 (b : Int)).toNat : Nat) : Int) = ((a * 2 ^ k + b : Nat) : Int) := by
 have h1 : (BitVec.ofInt 64 ((a * 2 ^ k : Nat) : Int)).toNat = a * 2 ^ k := by rw [gW]; omega
 have h2 : (BitVec.ofInt 64 (b : Int)).toNat = b := by rw [gW]; omega
 rw [BitVec.toNat_or, h1, h2, Nat.mul_comm a, ← Nat.two_pow_add_eq_or_of_lt hb, Nat.mul_comm]
 exact jA _ (by omega)
theorem aMf (a : Int) (b : Int) (hb : 0 ≤ b) : a.fdiv b = a / b := Int.fdiv_eq_ediv_of_nonneg a hb
theorem dT (k : IntKind) (a b : Int) (h : Hp) : aD .eql (.i k a) (.i k b) h = some (.b (a == b), h) := by simp only [aD, if_true, eV]
theorem kH (k : IntKind) (a b : Int) (h : Hp) : aD .neq (.i k a) (.i k b) h = some (.b (a != b), h) := by simp only [aD, if_true, eV]
theorem cH (k : IntKind) (a b : Int) (h : Hp) : aD .lss (.i k a) (.i k b) h = some (.b (decide (a < b)), h) := by simp only [aD, if_true, eV]
theorem uN (k : IntKind) (a b : Int) (h : Hp) : aD .leq (.i k a) (.i k b) h = some (.b (decide (a ≤ b)), h) := by simp only [aD, if_true, eV]
theorem eX (k : IntKind) (a b : Int) (h : Hp) : aD .gtr (.i k a) (.i k b) h = some (.b (decide (a > b)), h) := by simp only [aD, if_true, eV]
theorem nT (k : IntKind) (a b : Int) (h : Hp) : aD .geq (.i k a) (.i k b) h = some (.b (decide (a ≥ b)), h) := by simp only [aD, if_true, eV]
theorem tR (a b : Int) (h : Hp) (hr : -9223372036854775808 ≤ a + b ∧ a + b ≤ 9223372036854775807) : aD .add (.i .i64 a) (.i .i64 b) h = some (.i .i64 (a + b), h) := by simp only [aD, if_true, eV, jA _ hr]
theorem bPs (a b : Int) (h : Hp) (hr : -9223372036854775808 ≤ a - b ∧ a - b ≤ 9223372036854775807) : aD .sub (.i .i64 a) (.i .i64 b) h = some (.i .i64 (a - b), h) := by simp only [aD, if_true, eV, jA _ hr]
theorem bCe (w : Int) (h : Hp) : aD .and (.i .i64 w) (.i .i64 (Int.ofNat 1)) h = some (.i .i64 (w % 2), h) := by
 have : eV .and .i64 w (Int.ofNat 1) = some (.i .i64 (w % 2)) := by
  rw [← dMi w]; rfl
 simp only [aD, if_true, this]
theorem bZu (w : Int) (h : Hp) : aD .and (.i .i64 w) (.i .i64 (Int.ofNat 3)) h = some (.i .i64 (w % 4), h) := by
 have : eV .and .i64 w (Int.ofNat 3) = some (.i .i64 (w % 4)) := by
  rw [← dLp w]; rfl
 simp only [aD, if_true, this]
theorem vS (w : Int) (h : Hp) : dV .shr (.i .i64 w) (.i .u64 (Int.ofNat 1)) h = some (.i .i64 (w / 2), h) := by
 have : w.fdiv (2 ^ (min (Int.ofNat 1).toNat IntKind.i64.bits)) = w / 2 := aMf w (2 ^ 1) (by decide)
 simp only [dV, show ¬ ((Int.ofNat 1) < 0) by decide, if_false, this]
theorem cDc (w : Int) (h : Hp) : dV .shr (.i .i64 w) (.i .u64 (Int.ofNat 2)) h = some (.i .i64 (w / 4), h) := by
 have : w.fdiv (2 ^ (min (Int.ofNat 2).toNat IntKind.i64.bits)) = w / 4 := aMf w (2 ^ 2) (by decide)
 simp only [dV, show ¬ ((Int.ofNat 2) < 0) by decide, if_false, this]
theorem bAg (w : Int) (h : Hp) (hr : -4611686018427387904 ≤ w ∧ w ≤ 4611686018427387903) : dV .shl (.i .i64 w) (.i .u64 (Int.ofNat 1)) h = some (.i .i64 (2 * w), h) := by
 have : IntKind.i64.wrap (w * 2 ^ (min (Int.ofNat 1).toNat IntKind.i64.bits)) = 2 * w := by
  rw [show w * 2 ^ (min (Int.ofNat 1).toNat IntKind.i64.bits) = 2 * w from Int.mul_comm w 2]
  exact jA _ (by omega)
 simp only [dV, show ¬ ((Int.ofNat 1) < 0) by decide, if_false, this]
theorem cGp (w : Int) (h : Hp) (hr : -2305843009213693952 ≤ w ∧ w ≤ 2305843009213693951) : dV .shl (.i .i64 w) (.i .u64 (Int.ofNat 2)) h = some (.i .i64 (4 * w), h) := by
 have : IntKind.i64.wrap (w * 2 ^ (min (Int.ofNat 2).toNat IntKind.i64.bits)) = 4 * w := by
  rw [show w * 2 ^ (min (Int.ofNat 2).toNat IntKind.i64.bits) = 4 * w from Int.mul_comm w 4]
  exact jA _ (by omega)
 simp only [dV, show ¬ ((Int.ofNat 2) < 0) by decide, if_false, this]
theorem qL (r : aG) (h : Hp) : gD (.b true) true r h = r := Eq.trans rfl rfl
theorem eZ (r : aG) (h : Hp) : gD (.b false) false r h = r := Eq.trans rfl rfl
theorem dP (r : aG) (h : Hp) : gD (.b true) false r h = some (aR, h) := Eq.trans rfl rfl
theorem aXr (r : aG) (h : Hp) : gD (.b false) true r h = some (aR, h) := Eq.trans rfl rfl
theorem vP (w : Bool) (r : aG) (h : Hp) : gD aR w r h = some (aR, h) := Eq.trans rfl rfl
theorem aJ (v : DV) (h : Hp) (k : DV → Hp → aG) : bnd (some (v, h)) k = k v h := Eq.trans rfl rfl
theorem bQ (x y : DV) (h : Hp) : aP (.b true) x y h = some (x, h) := Eq.trans rfl rfl
theorem bU (x y : DV) (h : Hp) : aP (.b false) x y h = some (y, h) := Eq.trans rfl rfl
theorem vJ (b : Bool) (h : Hp) : jK .not (.b b) h = some (.b (!b), h) := Eq.trans rfl rfl
theorem aZ (a b : aG) : aX (.b true) a b = a := Eq.trans rfl rfl
theorem bO (a b : aG) : aX (.b false) a b = b := Eq.trans rfl rfl
theorem g0 (a : DV) (l : List DV) : (a :: l).getD 0 aR = a := Eq.trans rfl rfl
theorem g1 (a b : DV) (l : List DV) : (a :: b :: l).getD 1 aR = b := Eq.trans rfl rfl
theorem g2 (a b c : DV) (l : List DV) : (a :: b :: c :: l).getD 2 aR = c := Eq.trans rfl rfl
theorem g3 (a b c d : DV) (l : List DV) : (a :: b :: c :: d :: l).getD 3 aR = d := Eq.trans rfl rfl
theorem bBd (n : Nat) (a b c : Int) (h : Hp) : fP CF1 (n + 1) 197 [.i .i64 a, .i .i64 b, .i .i64 c] h = some (.b (decide (b ≤ a ∧ a ≤ c)), h) := by
 rw [cD 197 rfl, cYv]
 simp only [cYy, g0, g1, g2, nT, aJ]
 by_cases h1 : b ≤ a
 ·simp only [ge_iff_le, h1, decide_true, qL, aJ, uN, bQ, true_and]
 ·simp only [ge_iff_le, h1, decide_false, aXr, aJ, bU, false_and]
theorem cYb (n : Nat) (w : Int) (h : Hp) : fP CF1 (n + 2) 200 [.i .i64 w] h = some (.b (iP w), h) := by
 rw [cD 200 rfl, dIs]
 simp only [t54, g0, bCe, aJ, dT, aTr]
 by_cases h1 : w % 2 = 1
 ·have e : (w % 2 == Int.ofNat 1) = true := by simpa using h1
  rw [e]
  simp only [qL, aJ, vS, bBd, bQ, h1, true_and]
  rfl
 ·have e : (w % 2 == Int.ofNat 1) = false := by simpa using h1
  rw [e]
  simp only [aXr, aJ, bU, h1, false_and, decide_false]
theorem dCu (n : Nat) (w : Int) (h : Hp) : fP CF1 (n + 2) 247 [.i .i64 w] h = some (.b (!(Nat.beq (kC w) 0)), h) := by
 rw [cD 247 rfl, dIz]
 simp only [t63, g0, bCe, aJ, dT, mH]
 have hp := (aOj w).1
 by_cases h1 : w % 2 = 0
 ·have e : (w % 2 == Int.ofNat 0) = true := by simpa using h1
  rw [e]
  simp only [qL, aJ, vS, bBd, bQ]
  by_cases h2 : kC w = 0
  ·have : ¬ (Int.ofNat 3 ≤ w / 2 ∧ w / 2 ≤ Int.ofNat 131072) := fun h => (hp.2 ⟨h1, h⟩) h2
   simp only [h2, this, decide_true, Bool.not_true, decide_false]
  ·have : Int.ofNat 3 ≤ w / 2 ∧ w / 2 ≤ Int.ofNat 131072 := (hp.1 h2).2
   simp only [h2, this, decide_false, Bool.not_false, and_self, decide_true]
 ·have h2 : kC w = 0 := by
   by_cases h2 : kC w = 0
   ·exact h2
   ·exact absurd (hp.1 h2).1 h1
  have e : (w % 2 == Int.ofNat 0) = false := by simpa using h1
  rw [e]
  simp only [aXr, aJ, bU, h2, decide_true, Bool.not_true]
theorem dFo (n : Nat) (w : Int) (h : Hp) : fP CF1 (n + 3) 198 [.i .i64 w] h = some (.i .i64 (kC w), h) := by
 rw [cD 198 rfl, dGj]
 simp only [t64, g0, dCu, aJ, vJ, mH]
 by_cases h2 : kC w = 0
 ·simp only [h2, decide_true, Bool.not_true, Bool.not_false, aZ]; rfl
 ·have hp := (aOj w).2.1 h2
  simp only [h2, decide_false, Bool.not_false, Bool.not_true, bO, vS, aJ, hp]
theorem dBq (n : Nat) (w : Int) (h : Hp) : fP CF1 (n + 2) 134 [.i .i64 w] h = some (if -1073741824 ≤ w ∧ w ≤ 1073741823 then .t [.i .i64 (2 * w + 1), .b true] else .t [.i .i64 0, .b false], h) := by
 rw [cD 134 rfl, dEc]
 simp only [t60, g0, bBd, aJ, vJ]
 by_cases h1 : -1073741824 ≤ w ∧ w ≤ 1073741823
 ·have h1' : Int.negSucc 1073741823 ≤ w ∧ w ≤ Int.ofNat 1073741823 := h1
  rw [if_pos h1]
  simp only [h1', decide_true, and_self, bO, Bool.not_true]
  rw [bAg w h (by omega)]
  have hb : eV .or .i64 (2 * w) (Int.ofNat 1) = some (.i .i64 (2 * w + 1)) := by
   have : IntKind.i64.wrap (((BitVec.ofInt 64 (2 * w) ||| BitVec.ofInt 64 (Int.ofNat 1)).toNat : Nat) : Int) = 2 * w + 1 := by
    rw [BitVec.toNat_or, gW, gW]
    rw [show ((Int.ofNat 1) % 18446744073709551616).toNat = 1 from rfl]
    obtain ⟨q, hq⟩ : ∃ q : Nat, ((2 * w) % 18446744073709551616).toNat = 2 ^ 1 * q := ⟨((2 * w) % 18446744073709551616).toNat / 2, by omega⟩
    rw [hq, ← Nat.two_pow_add_eq_or_of_lt (show 1 < 2 ^ 1 by omega)]
    rw [← hq]
    simp [IntKind.wrap, IntKind.signed, IntKind.bits, Int.bmod]
    omega
   rw [← this]; rfl
  simp only [aJ, aD, if_true, hb]
 ·have h1' : ¬ (Int.negSucc 1073741823 ≤ w ∧ w ≤ Int.ofNat 1073741823) := h1
  rw [if_neg h1]
  simp only [h1', decide_false, aZ, Bool.not_false]
  rfl
theorem dPl (n : Nat) (w : Int) (h : Hp) : fP CF1 (n + 3) 216 [.i .i64 w] h = some (if iP w then .i .i64 (w / 2) else .i .i64 0, h) := by
 rw [cD 216 rfl, dFr]
 simp only [t62, g0, cYb, aJ, vJ]
 cases iP w with
 | false => rfl
 | true => simp only [Bool.not_true, bO, vS, aJ, if_true]
theorem dMj (n : Nat) (a : Int) (h : Hp) : fP CF1 (n + 2) 127 [.i .i64 a] h = some (if 3 ≤ a ∧ a ≤ 131072 then .t [.i .i64 (2 * a), .b true] else .t [.i .i64 0, .b false], h) := by
 rw [cD 127 rfl, dFt]
 simp only [t75, g0, bBd, aJ, vJ]
 by_cases h1 : 3 ≤ a ∧ a ≤ 131072
 ·have h1' : Int.ofNat 3 ≤ a ∧ a ≤ Int.ofNat 131072 := h1
  rw [if_pos h1]
  simp only [h1', decide_true, and_self, bO, Bool.not_true]
  rw [bAg a h (by omega)]
  rfl
 ·have h1' : ¬ (Int.ofNat 3 ≤ a ∧ a ≤ Int.ofNat 131072) := h1
  rw [if_neg h1]
  simp only [h1', decide_false, aZ, Bool.not_false]
  rfl
end Go.Dd

namespace Go.Dd
structure ML (m : Pos) (M : MemV) (h : Hp) : Prop where
 row : h.bl.get m = some (.row .ex [.l M.wb 0 M.n M.n, .i .i64 (Int.ofNat M.fin), .i .i64 (Int.ofNat M.made), .m M.pb])
 words : h.bl.get M.wb = some (.row .ex (iL M.n M.t))
 places : ∃ es, h.bl.get M.pb = some (.mp es) ∧ ∀ a : Int, fL (.int .i64) (.i .i64 a) es = some (if 0 ≤ a ∧ M.pl.get a.toNat ≠ 0 then some (.b true) else none)
 n_lt : M.n < 1000000
 fin_le : M.fin ≤ M.n
 made_lt : M.made < 2000000
 d1 : m ≠ M.wb
 d2 : m ≠ M.pb
 d3 : M.wb ≠ M.pb
theorem sX {m : Pos} {M : MemV} {h : Hp} (hm : sP m h = some M) :
  h.bl.get m = some (.row .ex [.l M.wb 0 M.n M.n, .i .i64 (Int.ofNat M.fin), .i .i64 (Int.ofNat M.made), .m M.pb]) ∧ h.bl.get M.wb = some (.big M.n M.t) ∧ h.bl.get M.pb = some (.mi M.pl) ∧ M.n < 1000000 ∧ M.fin ≤ M.n ∧ M.made < 1000000 := by
 unfold sP at hm
 split at hm <;> (try (cases hm; done))
 rename_i wb n c fin made pb hr
 split at hm <;> (try (cases hm; done))
 rename_i n' t pl h1 h2
 cases hb : (Nat.beq n n' && Nat.beq n c) with
 | false => rw [hb] at hm; cases hm
 | true =>
  rw [hb] at hm
  simp only [cond_true] at hm
  cases hc : (Nat.blt n 1000000 && (Nat.ble fin n && Nat.blt made 1000000)) with
  | false => rw [hc] at hm; cases hm
  | true =>
   rw [hc] at hm
   simp only [cond_true, aT] at hm
   subst hm
   simp only [mH, aFw, zH, Bool.and_eq_true, decide_eq_true_eq] at hb hc
   obtain ⟨rfl, rfl⟩ := hb
   exact ⟨hr, h1, h2, hc.1, hc.2.1, hc.2.2⟩
theorem fN {m : Pos} {M : MemV} {h h' : Hp} (hm : sP m h = some M) (S : Sim false h h') : ML m M h' := by
 obtain ⟨h1, h2, h3, h4, h5, h6⟩ := sX hm
 refine ⟨S.row h1, ?_, ?_, h4, h5, by omega, fun e => by (rw [e, h2] at h1; cases h1), fun e => by (rw [e, h3] at h1; cases h1), fun e => by (rw [e, h3] at h2; cases h2)⟩
 ·obtain ⟨o', e1, e2⟩ := S.get _ _ h2
  have e2' : o' = .row .ex (iL M.n M.t) := by simpa [aO, wN] using e2
  rw [e1, e2']
 ·obtain ⟨o', e1, e2⟩ := S.get _ _ h3
  have e2' : ∃ es, o' = .mp es ∧ ∀ a : Int, fL (.int .i64) (.i .i64 a) es = some (if 0 ≤ a ∧ M.pl.get a.toNat ≠ 0 then some (.b true) else none) := by simpa [aO, wN] using e2
  obtain ⟨es, rfl, e3⟩ := e2'
  exact ⟨es, e1, e3⟩
section
variable {m : Pos} {M : MemV} {h : Hp}
theorem iH (b : Pos) (o : Nat) (h : Hp) : aY (.p b o) h = some (.p b o, h) := Eq.trans rfl rfl
theorem eI (k : Nat) (b : Pos) (o : Nat) (h : Hp) : aB k (.p b o) h = some (.p b (o + k), h) := Eq.trans rfl rfl
theorem ML.l0 (H : ML m M h) : aA (.p m (0 + 0)) h = some (.l M.wb 0 M.n M.n, h) := by
 simp [aA, cellD, rowOf, H.row, DV.one]
theorem ML.l1 (H : ML m M h) : aA (.p m (0 + 1)) h = some (.i .i64 (Int.ofNat M.fin), h) := by
 simp [aA, cellD, rowOf, H.row, DV.one]
theorem ML.l2 (H : ML m M h) : aA (.p m (0 + 2)) h = some (.i .i64 (Int.ofNat M.made), h) := by
 simp [aA, cellD, rowOf, H.row, DV.one]
theorem ML.l3 (H : ML m M h) : aA (.p m (0 + 3)) h = some (.m M.pb, h) := by
 simp [aA, cellD, rowOf, H.row, DV.one]
theorem lO {n : Nat} {t : WT} {i : Nat} (h : i < n) : (iL n t)[i]? = some (.i .i64 (t.get i)) := by
 simp [iL, h]
theorem ML.ix (H : ML m M h) {a : Nat} (ha : a < M.n) : aE 1 (.l M.wb 0 M.n M.n) (.i .i64 (a : Int)) h = some (.p M.wb a, h) := by
 have : (0 : Int) ≤ (a : Int) ∧ (a : Int) < (M.n : Int) := by omega
 simp [aE, this]
theorem ML.ld (H : ML m M h) {a : Nat} (ha : a < M.n) : aA (.p M.wb a) h = some (.i .i64 (M.t.get a), h) := by
 simp [aA, cellD, rowOf, H.words, lO ha, DV.one]
theorem bWl (o : Int) (pl : WT) : gN o pl = 0 ∨ (gN o pl = kC o ∧ kC o ≠ 0) := by
 unfold gN
 by_cases h0 : kC o = 0
 ·simp [h0, mH]
 ·simp only [mH, h0, decide_false, cond_false]
  split
  ·exact .inl rfl
  ·exact .inr ⟨rfl, h0⟩
theorem atN_pos {o : Int} {pl : WT} : (gN o pl ≠ 0) ↔ (kC o ≠ 0 ∧ pl.get (kC o) ≠ 0) := by
 unfold gN
 by_cases h0 : kC o = 0
 ·simp [h0, mH]
 ·simp only [mH, h0, decide_false, cond_false]
  split
  ·rename_i e; simp [e]
  ·rename_i e
   refine ⟨fun _ => ⟨h0, fun e' => e (by rw [e']; rfl)⟩, fun _ => h0⟩
theorem ML.lookup (H : ML m M h) (a : Nat) : eD (.int .i64) (.b false) false (.m M.pb) (.i .i64 (a : Int)) h = some (.b (decide (M.pl.get a ≠ 0)), h) := by
 obtain ⟨es, h1, h2⟩ := H.places
 have := h2 a
 simp only [Int.toNat_natCast] at this
 simp only [eD, iI, h1, this]
 by_cases hc : M.pl.get a = 0
 ·simp [hc]
 ·simp [hc]
theorem nB {r : aG} {v : DV} {h : Hp} (hr : r = some (v, h)) (hv : DV.beq v v = true) : bI r v = true := by
 rw [hr]; exact hv
theorem dCk (b : Pos) : DV.beq (.m b) (.m b) = true := by simp [DV.beq]
theorem bVz (b : Pos) (o n c : Nat) : DV.beq (.l b o n c) (.l b o n c) = true := by simp [DV.beq]
theorem cDb (H : ML m M h) (n : Nat) (w : Int) : fP CF1 (n + 4) 196 [.p m 0, .i .i64 w] h = some (.b (!(Nat.beq (gN w M.pl) 0)), h) := by
 rw [cD 196 rfl, dJq]
 simp only [t21, g0, g1, dCu, aJ, mH]
 by_cases h0 : kC w = 0
 ·have : gN w M.pl = 0 := by
   rcases bWl w M.pl with e | ⟨e, e'⟩
   ·exact e
   ·exact absurd h0 e'
  simp only [h0, decide_true, Bool.not_true, aXr, aJ, this]
  simp [bI, aR, DV.beq, dRa, cnd, bnd, aP]
 ·simp only [h0, decide_false, Bool.not_false, qL, aJ, iH, eI, H.l3, dFo]
  rw [nB rfl (dCk _), Bool.and_self]
  simp only [cnd, H.lookup, aJ, bQ]
  by_cases h1 : M.pl.get (kC w) = 0
  ·have : gN w M.pl = 0 := by
    by_cases e : gN w M.pl = 0
    ·exact e
    ·exact absurd h1 (atN_pos.1 e).2
   simp [h1, this]
  ·have : gN w M.pl ≠ 0 := atN_pos.2 ⟨h0, h1⟩
   simp [h1, this]
theorem dOp (H : ML m M h) (n : Nat) : fP CF1 (n + 1) 108 [.p m 0] h = some (.i .i64 (Int.ofNat M.n), h) := by
 rw [cD 108 rfl, dFw]
 simp only [t22, g0, aJ, iH, eI, H.l0]
 rfl
theorem dCc (H : ML m M h) (n : Nat) : fP CF1 (n + 1) 126 [.p m 0] h = some (.i .i64 (Int.ofNat (M.n - M.fin)), h) := by
 rw [cD 126 rfl, dDk]
 have h1 := H.n_lt
 have h2 := H.fin_le
 have e : cQ (.l M.wb 0 M.n M.n) h = some (.i .i64 (M.n : Int), h) := rfl
 simp only [t29, g0, aJ, iH, eI, H.l0, H.l1, e]
 rw [bPs _ _ _ (by simp only [Int.ofNat_eq_natCast]; omega)]
 simp only [aJ]
 congr 3
 simp only [Int.ofNat_eq_natCast]
 omega
theorem dGf (H : ML m M h) (n : Nat) (w : Int) : fP CF1 (n + 5) 132 [.p m 0, .i .i64 w] h = some (.b (aEn w M.pl), h) := by
 rw [cD 132 rfl, dHd]
 have hm : aEn w M.pl = (decide (w = 0) || (decide (w = 2) || (decide (w = 4) || (iP w || !(Nat.beq (gN w M.pl) 0))))) := by
  unfold aEn
  split
  ·simp
  ·simp
  ·simp
  ·rename_i h1 h2 h3
   have e1 : w ≠ 0 := fun e => h1 (by rw [e]; rfl)
   have e2 : w ≠ 2 := fun e => h2 (by rw [e]; rfl)
   have e3 : w ≠ 4 := fun e => h3 (by rw [e]; rfl)
   simp [e1, e2, e3]
 rw [hm]
 simp only [t20, g0, g1, dT, aJ]
 have b0 : (w == Int.ofNat 0) = decide (w = 0) := rfl
 have b2 : (w == Int.ofNat 2) = decide (w = 2) := rfl
 have b4 : (w == Int.ofNat 4) = decide (w = 4) := rfl
 rw [b0]
 cases decide (w = 0) with
 | true => simp only [dP, aJ, bQ, Bool.true_or]
 | false =>
  simp only [eZ, aJ, dT, bU, b2, Bool.false_or]
  cases decide (w = 2) with
  | true => simp only [dP, aJ, bQ, Bool.true_or]
  | false =>
   simp only [eZ, aJ, dT, bU, b4, Bool.false_or]
   cases decide (w = 4) with
   | true => simp only [dP, aJ, bQ, Bool.true_or]
   | false =>
    simp only [eZ, aJ, cYb, bU, Bool.false_or]
    cases iP w with
    | true => simp only [dP, aJ, bQ, Bool.true_or]
    | false => simp only [eZ, aJ, cDb H, bU, Bool.false_or]
theorem dFv (H : ML m M h) (n : Nat) (w : Int) : fP CF1 (n + 5) 125 [.p m 0, .i .i64 w] h = some (.b (aCb w M.pl), h) := by
 rw [cD 125 rfl, dJc]
 have hm : aCb w M.pl = (decide (w = 0) || !(Nat.beq (gN w M.pl) 0)) := by
  unfold aCb
  split
  ·simp
  ·rename_i h1
   have e1 : w ≠ 0 := fun e => h1 (by rw [e]; rfl)
   simp [e1]
 rw [hm]
 have b0 : (w == Int.ofNat 0) = decide (w = 0) := rfl
 simp only [t74, g0, g1, dT, aJ, b0]
 cases decide (w = 0) with
 | true => simp only [dP, aJ, bQ, Bool.true_or]
 | false => simp only [eZ, aJ, cDb H, bU, Bool.false_or]
theorem uZ (H : ML m M h) (n : Nat) (w : Int) : fP CF1 (n + 5) 128 [.p m 0, .i .i64 w] h = some (.i .i64 (gN w M.pl), h) := by
 rw [cD 128 rfl, cYz]
 simp only [t105, g0, g1, cDb H, aJ, vJ, mH]
 rcases bWl w M.pl with e | ⟨e, e'⟩
 ·simp only [e, decide_true, Bool.not_true, Bool.not_false, aZ]; rfl
 ·simp only [e, e', decide_false, Bool.not_false, Bool.not_true, bO, dFo, aJ]
theorem wW {o : Int} {k : Nat → aG} {r : DV × Hp} (hh : nC M o k = some r) : gN o M.pl + 1 < M.n ∧ ∃ hd, M.t.get (gN o M.pl) = Int.ofNat hd ∧ hd < 1000000000000 ∧ k hd = some r := by
 unfold nC at hh
 cases hb : Nat.blt (Nat.add (gN o M.pl) 1) M.n with
 | false => rw [hb] at hh; cases hh
 | true =>
  rw [hb] at hh
  simp only [cond_true] at hh
  simp only [zH, decide_eq_true_eq] at hb
  split at hh <;> (try (cases hh; done))
  rename_i hd he
  cases hc : Nat.blt hd 1000000000000 with
  | false => rw [hc] at hh; cases hh
  | true =>
   rw [hc] at hh
   simp only [zH, decide_eq_true_eq] at hc
   exact ⟨hb, hd, he, hc, hh⟩
theorem dKa (H : ML m M h) (n : Nat) (o : Int) (ho : gN o M.pl + 1 < M.n) : fP CF1 (n + 6) 243 [.p m 0, .i .i64 o] h = some (.i .i64 (M.t.get (gN o M.pl + 1)), h) := by
 rw [cD 243 rfl, dFn]
 have hn := H.n_lt
 simp only [t50, g0, g1, aJ, iH, eI, H.l0, uZ H]
 rw [nB rfl (bVz _ _ _ _), Bool.and_self]
 simp only [cnd]
 rw [tR _ _ _ (by simp only [Int.ofNat_eq_natCast]; omega)]
 have e : (gN o M.pl : Int) + Int.ofNat 1 = ((gN o M.pl + 1 : Nat) : Int) := by simp
 simp only [aJ, e, H.ix ho, H.ld ho]
theorem dEo (H : ML m M h) (n : Nat) (o : Int) (ho : gN o M.pl < M.n) : fP CF1 (n + 6) 136 [.p m 0, .i .i64 o] h = some (.i .i64 (M.t.get (gN o M.pl) % 4), h) := by
 rw [cD 136 rfl, dJj]
 simp only [t51, g0, g1, aJ, iH, eI, H.l0, uZ H]
 rw [nB rfl (bVz _ _ _ _), Bool.and_self]
 simp only [cnd, aJ, H.ix ho, H.ld ho, bZu]
theorem dBx (H : ML m M h) (n : Nat) (o : Int) (ho : gN o M.pl < M.n) : fP CF1 (n + 6) 201 [.p m 0, .i .i64 o] h = some (.i .i64 (M.t.get (gN o M.pl) / 4), h) := by
 rw [cD 201 rfl, dIb]
 simp only [t52, g0, g1, aJ, iH, eI, H.l0, uZ H]
 rw [nB rfl (bVz _ _ _ _), Bool.and_self]
 simp only [cnd, aJ, H.ix ho, H.ld ho, cDc]
end
end Go.Dd

namespace Go.Dd
section
variable {m : Pos} {M : MemV} {h : Hp}
theorem bNa (H : ML m M h) {o i : Int} {bad : Nat → aG} {k : Nat → Nat → aG} {r : DV × Hp} (hf : lG M o i bad k = some r) :
  (∃ e : Nat, e ≠ 0 ∧ bad e = some r ∧ ∀ n, fP CF1 (n + 7) 135 [.p m 0, .i .i64 o, .i .i64 i] h = some (.t [.i .i64 (Int.ofNat 0), .i .i64 (Int.ofNat e)], h)) ∨
  (∃ hd a : Nat, gN o M.pl ≠ 0 ∧ a < M.n ∧ gN o M.pl + 1 < M.n ∧ M.t.get (gN o M.pl) = Int.ofNat hd ∧ k hd a = some r ∧ ∀ n, fP CF1 (n + 7) 135 [.p m 0, .i .i64 o, .i .i64 i] h = some (.t [.i .i64 (a : Int), .i .i64 (Int.ofNat 0)], h)) := by
 have hn := H.n_lt
 unfold lG at hf
 rw [mH] at hf
 by_cases h0 : gN o M.pl = 0
 ·simp only [h0, decide_true, cond_true] at hf
  refine .inl ⟨1, by omega, hf, fun n => ?_⟩
  rw [cD 135 rfl, aKs]
  simp only [bFd, g0, g1, g2, uZ H, aJ, dT, h0]
  rfl
 ·simp only [h0, decide_false, cond_false] at hf
  have e0 : ((gN o M.pl : Int) == Int.ofNat 0) = false := by simpa using h0
  cases i with
  | negSucc i =>
   refine .inl ⟨5, by omega, hf, fun n => ?_⟩
   rw [cD 135 rfl, aKs]
   have hlt : decide (Int.negSucc i < Int.ofNat 0) = true := decide_eq_true (Int.negSucc_lt_zero i)
   simp only [bFd, g0, g1, g2, uZ H, aJ, dT, e0, bO, cH, hlt, dP, bQ, aZ]
  | ofNat i =>
   dsimp only at hf
   obtain ⟨h1, hd, h2, h3, h4⟩ := wW hf
   rw [aFw] at h4
   have hlt : decide (Int.ofNat i < Int.ofNat 0) = false := by simp
   have h52 := fun n => dBx H n o (show gN o M.pl < M.n by omega)
   rw [h2] at h52
   by_cases hi : Nat.div hd 4 ≤ i
   ·simp only [hi, decide_true, cond_true] at h4
    refine .inl ⟨5, by omega, h4, fun n => ?_⟩
    rw [cD 135 rfl, aKs]
    have hge : decide (Int.ofNat i ≥ Int.ofNat hd / 4) = true := by
     have : hd / 4 ≤ i := hi
     simp only [decide_eq_true_eq, Int.ofNat_eq_natCast]
     omega
    simp only [bFd, g0, g1, g2, uZ H, aJ, dT, e0, bO, cH, hlt, eZ, h52, nT, hge, bU, aZ]
   ·simp only [hi, decide_false, cond_false] at h4
    rw [zH] at h4
    by_cases ha : Nat.add (Nat.add (gN o M.pl) 3) i < M.n
    ·simp only [ha, decide_true, cond_true] at h4
     have ha' : gN o M.pl + 3 + i < M.n := ha
     refine .inr ⟨hd, _, h0, ha, h1, h2, h4, fun n => ?_⟩
     rw [cD 135 rfl, aKs]
     have hge : decide (Int.ofNat i ≥ Int.ofNat hd / 4) = false := by
      have : ¬ hd / 4 ≤ i := hi
      simp only [decide_eq_false_iff_not, Int.ofNat_eq_natCast]
      omega
     simp only [bFd, g0, g1, g2, uZ H, aJ, dT, e0, bO, cH, hlt, eZ, h52, nT, hge, bU]
     rw [tR _ _ _ (by simp only [Int.ofNat_eq_natCast]; omega)]
     simp only [aJ]
     rw [tR _ _ _ (by simp only [Int.ofNat_eq_natCast]; omega)]
     simp only [aJ]
     congr 4
    ·simp only [ha, decide_false, cond_false] at h4
     cases h4
theorem oV (a b : DV) (h : Hp) : aC 0 (.t [a, b]) h = some (a, h) := Eq.trans rfl rfl
theorem oY (a b : DV) (h : Hp) : aC 1 (.t [a, b]) h = some (b, h) := Eq.trans rfl rfl
theorem cPg {e : Nat} (he : e ≠ 0) : (Int.ofNat e != Int.ofNat 0) = true := by
 simpa using he
theorem ML.put (H : ML m M h) {a : Nat} (ha : a < M.n) (w : Int) : aH 1 (.p M.wb a) (.i .i64 w) h = some (aR, ⟨h.next, Tr.set (.row .ex (iL M.n (M.t.set a w))) M.wb h.bl⟩) := by
 have hput : ∀ (n : Nat) (l : List DV) (x : DV), (∀ v ∈ l, v.one = true) → x.one = true → n < l.length → fT n l [x] = some (l.set n x) := by
  intro n
  induction n with
  | zero =>
   intro l x hl hx hlt
   cases l with
   | nil => simp at hlt
   | cons y l =>
    have hp : jY l [] = some l := by cases l <;> rfl
    simp [fT, jY, hl y (by simp), hx, hp]
  | succ n ih =>
   intro l x hl hx hlt
   cases l with
   | nil => simp at hlt
   | cons y l =>
    simp only [fT, List.set_cons_succ]
    rw [ih l x (fun v hv => hl v (by simp [hv])) hx (by simpa using hlt)]
    rfl
 have hb : ∀ v ∈ iL M.n M.t, v.one = true := by
  intro v hv
  simp only [iL, List.mem_map] at hv
  obtain ⟨i, _, rfl⟩ := hv
  rfl
 have hlen : (iL M.n M.t).length = M.n := by simp [iL]
 have hset : (iL M.n M.t).set a (.i .i64 w) = iL M.n (M.t.set a w) := by
  apply List.ext_getElem?
  intro i
  rw [List.getElem?_set]
  by_cases hi : i < M.n
  ·rw [lO hi, lO hi, WT.get_set M.t a w i (by have := H.n_lt; omega)]
   by_cases e : a = i
   ·subst e
    simp [hlen, hi]
   ·rw [if_neg e, if_neg (by omega)]
  ·have h1 : (iL M.n M.t)[i]? = none := List.getElem?_eq_none (by omega)
   have h2 : (iL M.n (M.t.set a w))[i]? = none := List.getElem?_eq_none (by simp [iL]; omega)
   rw [h2]
   split
   ·rename_i e; subst e; rw [if_neg (by omega)]
   ·exact h1
 simp only [aH, dD, List.length_singleton, if_true, cP, H.words, Kind.writable]
 rw [hput a _ _ hb rfl (by omega), hset]
theorem dPx (H : ML m M h) {o i : Int} {k : Nat → aG} {kk : Nat → Nat → aG} {r : DV × Hp} (hf : lG M o i k kk = some r) :
  (∃ e : Nat, k e = some r ∧ ∀ n, fP CF1 (n + 8) 245 [.p m 0, .i .i64 o, .i .i64 i] h = some (.t [.i .i64 (Int.ofNat 0), .i .i64 (Int.ofNat e)], h)) ∨
  (∃ hd a : Nat, kk hd a = some r ∧ ∀ n, fP CF1 (n + 8) 245 [.p m 0, .i .i64 o, .i .i64 i] h = some (.t [.i .i64 (M.t.get a), .i .i64 (Int.ofNat 0)], h)) := by
 rcases bNa H hf with ⟨e, he, h1, h2⟩ | ⟨hd, a, h0, h1, h2, h3, h4, h5⟩
 ·refine .inl ⟨e, h1, fun n => ?_⟩
  rw [cD 245 rfl, cPd]
  simp only [t73, g0, g1, g2, h2, aJ, oV, oY, kH, cPg he, aZ]
 ·refine .inr ⟨hd, a, h4, fun n => ?_⟩
  rw [cD 245 rfl, cPd]
  have e0 : (Int.ofNat 0 != Int.ofNat 0) = false := rfl
  simp only [t73, g0, g1, g2, h5, aJ, oV, oY, kH, e0, bO, iH, eI, H.l0, H.ix h1, H.ld h1]
end
theorem eT {args : List DV} {h : Hp} {k : MemV → List DV → aG} {r : DV × Hp} (hr : sD args h k = some r) :
  ∃ m rest M, args = .p m 0 :: rest ∧ sP m h = some M ∧ k M rest = some r := by
 unfold sD at hr
 split at hr <;> (try (cases hr; done))
 rename_i m rest
 split at hr <;> (try (cases hr; done))
 rename_i M hM
 exact ⟨m, rest, M, rfl, hM, hr⟩
theorem cQk (n : Nat) (args : List DV) : SimP false (isF args) (fP CF1 (n + 12) 196 args) := fun h h' S v k e => by
 obtain ⟨m, rest, M, rfl, hM, e⟩ := eT e
 split at e <;> (try (cases e; done))
 simp only [aT, bF] at e
 obtain ⟨rfl, rfl⟩ := e
 exact ⟨h', cDb (fN hM S) (n + 8) _, S⟩
theorem cFk (n : Nat) (args : List DV) : SimP false (bNs args) (fP CF1 (n + 12) 132 args) := fun h h' S v k e => by
 obtain ⟨m, rest, M, rfl, hM, e⟩ := eT e
 split at e <;> (try (cases e; done))
 simp only [aT, bF] at e
 obtain ⟨rfl, rfl⟩ := e
 exact ⟨h', dGf (fN hM S) (n + 7) _, S⟩
theorem bUq (n : Nat) (args : List DV) : SimP false (aNz args) (fP CF1 (n + 12) 108 args) := fun h h' S v k e => by
 obtain ⟨m, rest, M, rfl, hM, e⟩ := eT e
 split at e <;> (try (cases e; done))
 simp only [aT, bF] at e
 obtain ⟨rfl, rfl⟩ := e
 exact ⟨h', dOp (fN hM S) (n + 11), S⟩
theorem bKi (n : Nat) (args : List DV) : SimP false (bBf args) (fP CF1 (n + 12) 126 args) := fun h h' S v k e => by
 obtain ⟨m, rest, M, rfl, hM, e⟩ := eT e
 split at e <;> (try (cases e; done))
 simp only [aT, bF] at e
 obtain ⟨rfl, rfl⟩ := e
 exact ⟨h', dCc (fN hM S) (n + 11), S⟩
theorem bFc (n : Nat) (args : List DV) : SimP false (tS args) (fP CF1 (n + 12) 243 args) := fun h h' S v k e => by
 obtain ⟨m, rest, M, rfl, hM, e⟩ := eT e
 split at e <;> (try (cases e; done))
 obtain ⟨h1, hd, h2, h3, e⟩ := wW e
 simp only [aT, bF] at e
 obtain ⟨rfl, rfl⟩ := e
 exact ⟨h', dKa (fN hM S) (n + 6) _ h1, S⟩
theorem aUr (n : Nat) (args : List DV) : SimP false (xC args) (fP CF1 (n + 12) 136 args) := fun h h' S v k e => by
 obtain ⟨m, rest, M, rfl, hM, e⟩ := eT e
 split at e <;> (try (cases e; done))
 obtain ⟨h1, hd, h2, h3, e⟩ := wW e
 simp only [aT, bF] at e
 obtain ⟨rfl, rfl⟩ := e
 refine ⟨h', ?_, S⟩
 rw [dEo (fN hM S) (n + 6) _ (by omega), h2]
 rfl
theorem aUf (n : Nat) (args : List DV) : SimP false (rQ args) (fP CF1 (n + 12) 201 args) := fun h h' S v k e => by
 obtain ⟨m, rest, M, rfl, hM, e⟩ := eT e
 split at e <;> (try (cases e; done))
 obtain ⟨h1, hd, h2, h3, e⟩ := wW e
 simp only [aT, bF] at e
 obtain ⟨rfl, rfl⟩ := e
 refine ⟨h', ?_, S⟩
 rw [dBx (fN hM S) (n + 6) _ (by omega), h2]
 rfl
theorem cDt (n : Nat) (args : List DV) : SimP false (bLw args) (fP CF1 (n + 12) 245 args) := fun h h' S v k e => by
 obtain ⟨m, rest, M, rfl, hM, e⟩ := eT e
 split at e <;> (try (cases e; done))
 rename_i o i
 rcases dPx (fN hM S) e with ⟨er, e1, e2⟩ | ⟨hd, a, e1, e2⟩
 ·simp only [err, aT, bF] at e1
  obtain ⟨rfl, rfl⟩ := e1
  exact ⟨h', e2 (n + 4), S⟩
 ·simp only [aT, bF] at e1
  obtain ⟨rfl, rfl⟩ := e1
  exact ⟨h', e2 (n + 4), S⟩
theorem aOl (n : Nat) (args : List DV) : SimP false (kK args) (fP CF1 (n + 12) 200 args) := fun h h' S v k e => by
 unfold kK at e
 split at e <;> (try (cases e; done))
 simp only [aT, bF] at e
 obtain ⟨rfl, rfl⟩ := e
 exact ⟨h', cYb (n + 10) _ h', S⟩
theorem bFy (n : Nat) (args : List DV) : SimP false (uJ args) (fP CF1 (n + 12) 216 args) := fun h h' S v k e => by
 unfold uJ at e
 split at e <;> (try (cases e; done))
 rename_i w
 have hc := dPl (n + 9) w h'
 cases hs : iP w with
 | true =>
  rw [hs] at e hc
  simp only [cond_true, aT, bF] at e
  obtain ⟨rfl, rfl⟩ := e
  exact ⟨h', by rw [hc, bHj]; rfl, S⟩
 | false =>
  rw [hs] at e hc
  simp only [cond_false, aT, bF] at e
  obtain ⟨rfl, rfl⟩ := e
  exact ⟨h', by rw [hc]; rfl, S⟩
theorem bHe (n : Nat) (args : List DV) : SimP false (qS args) (fP CF1 (n + 12) 134 args) := fun h h' S v k e => by
 unfold qS at e
 split at e <;> (try (cases e; done))
 ·rename_i w
  have hc := dBq (n + 10) (Int.ofNat w) h'
  rw [zH] at e
  by_cases hw : w < 1073741824
  ·simp only [hw, decide_true, cond_true, aT, bF] at e
   obtain ⟨rfl, rfl⟩ := e
   rw [if_pos (by simp only [Int.ofNat_eq_natCast]; omega)] at hc
   refine ⟨h', ?_, S⟩
   rw [hc]
   have : 2 * Int.ofNat w + 1 = Int.ofNat (Nat.succ (Nat.mul w 2)) := by
    have : Nat.mul w 2 = w * 2 := rfl
    rw [this]
    simp only [Int.ofNat_eq_natCast]; omega
   rw [this]
  ·simp only [hw, decide_false, cond_false, aT, bF] at e
   obtain ⟨rfl, rfl⟩ := e
   rw [if_neg (by simp only [Int.ofNat_eq_natCast]; omega)] at hc
   exact ⟨h', by rw [hc]; rfl, S⟩
 ·rename_i w
  have hc := dBq (n + 10) (Int.negSucc w) h'
  rw [zH] at e
  by_cases hw : w < 1073741824
  ·simp only [hw, decide_true, cond_true, aT, bF] at e
   obtain ⟨rfl, rfl⟩ := e
   rw [if_pos (by omega)] at hc
   refine ⟨h', ?_, S⟩
   rw [hc]
   have : 2 * Int.negSucc w + 1 = Int.negSucc (Nat.mul w 2) := by
    have : Nat.mul w 2 = w * 2 := rfl
    rw [this]; omega
   rw [this]
  ·simp only [hw, decide_false, cond_false, aT, bF] at e
   obtain ⟨rfl, rfl⟩ := e
   rw [if_neg (by omega)] at hc
   exact ⟨h', by rw [hc]; rfl, S⟩
end Go.Dd

namespace Go.Dd
def Oth (m wb pb : Pos) (h h1 : Hp) : Prop := h1.next = h.next ∧ ∀ b, b ≠ m → b ≠ wb → b ≠ pb → h1.bl.get b = h.bl.get b
theorem Oth.refl (m wb pb : Pos) (h : Hp) : Oth m wb pb h h := ⟨rfl, fun _ _ _ _ => rfl⟩
theorem Oth.trans {m wb pb : Pos} {a b c : Hp} (h : Oth m wb pb a b) (k : Oth m wb pb b c) : Oth m wb pb a c := ⟨k.1.trans h.1, fun x h1 h2 h3 => (k.2 x h1 h2 h3).trans (h.2 x h1 h2 h3)⟩
section
variable {m : Pos} {M : MemV} {h : Hp}
def bNz (M : MemV) : Ob := .row .ex [.l M.wb 0 M.n M.n, .i .i64 (Int.ofNat M.fin), .i .i64 (Int.ofNat M.made), .m M.pb]
theorem ML.setM (H : ML m M h) (M' : MemV) (e1 : M'.wb = M.wb) (e2 : M'.pb = M.pb) (e3 : M'.n = M.n) (e4 : M'.t = M.t) (e5 : M'.pl = M.pl) (h1 : M'.fin ≤ M.n) (h2 : M'.made < 2000000) :
  ML m M' ⟨h.next, Tr.set (bNz M') m h.bl⟩ ∧ Oth m M.wb M.pb h ⟨h.next, Tr.set (bNz M') m h.bl⟩ := by
 refine ⟨⟨by rw [dQg]; rfl, ?_, ?_, by rw [e3]; exact H.n_lt, by rw [e3]; exact h1, h2, by rw [e1]; exact H.d1, by rw [e2]; exact H.d2, by rw [e1, e2]; exact H.d3⟩, rfl, fun b h1 _ _ => dQf _ _ _ _ h1⟩
 ·rw [e1, e3, e4, dQf _ _ _ _ (Ne.symm H.d1)]; exact H.words
 ·rw [e2, e5, dQf _ _ _ _ (Ne.symm H.d2)]; exact H.places
theorem ML.st1 (H : ML m M h) {x : Nat} (hx : x ≤ M.n) : ∃ h1, aH 1 (.p m (0 + 1)) (.i .i64 (Int.ofNat x)) h = some (aR, h1) ∧ ML m { M with fin := x } h1 ∧ Oth m M.wb M.pb h h1 := by
 obtain ⟨a, b⟩ := H.setM { M with fin := x } rfl rfl rfl rfl rfl hx H.made_lt
 exact ⟨_, by simp [aH, dD, cP, H.row, Kind.writable, fT, jY, DV.one, bNz], a, b⟩
theorem ML.st2 (H : ML m M h) {x : Nat} (hx : x < 2000000) : ∃ h1, aH 1 (.p m (0 + 2)) (.i .i64 (Int.ofNat x)) h = some (aR, h1) ∧ ML m { M with made := x } h1 ∧ Oth m M.wb M.pb h h1 := by
 obtain ⟨a, b⟩ := H.setM { M with made := x } rfl rfl rfl rfl rfl H.fin_le hx
 exact ⟨_, by simp [aH, dD, cP, H.row, Kind.writable, fT, jY, DV.one, bNz], a, b⟩
theorem ML.setW (H : ML m M h) (t : WT) : ML m { M with t := t } ⟨h.next, Tr.set (.row .ex (iL M.n t)) M.wb h.bl⟩ ∧ Oth m M.wb M.pb h ⟨h.next, Tr.set (.row .ex (iL M.n t)) M.wb h.bl⟩ := by
 refine ⟨⟨?_, by rw [dQg], ?_, H.n_lt, H.fin_le, H.made_lt, H.d1, H.d2, H.d3⟩, rfl, fun b _ h1 _ => dQf _ _ _ _ h1⟩
 ·rw [dQf _ _ _ _ H.d1]; exact H.row
 ·rw [dQf _ _ _ _ (Ne.symm H.d3)]; exact H.places
theorem ML.put' (H : ML m M h) {a : Nat} (ha : a < M.n) (w : Int) : ∃ h1, aH 1 (.p M.wb a) (.i .i64 w) h = some (aR, h1) ∧ ML m { M with t := M.t.set a w } h1 ∧ Oth m M.wb M.pb h h1 :=
 ⟨_, H.put ha w, (H.setW _).1, (H.setW _).2⟩
theorem bDk {a : Int} {es : List (DV × DV)} : ∀ (b : Int) {r r' : Option DV}, fL (.int .i64) (.i .i64 a) es = some r → fL (.int .i64) (.i .i64 b) es = some r' →
  fL (.int .i64) (.i .i64 b) (sG (.int .i64) (.i .i64 a) (.b true) es) = some (if b = a then some (.b true) else r') := by
 induction es with
 | nil =>
  intro b r r' h1 h2
  simp only [fL, aT] at h2
  subst h2
  simp only [sG, fL, tH, if_true]
  by_cases e : b = a
  ·simp [e]
  ·have : (b == a) = false := by simpa using e
   simp [e, this]
 | cons e es ih =>
  intro b r r' h1 h2
  simp only [fL] at h1 h2
  have hk : ∃ c, e.1 = .i .i64 c := by
   obtain ⟨x, y⟩ := e
   cases x <;> simp [tH] at h1
   rename_i k c
   cases k <;> simp at h1
   exact ⟨c, rfl⟩
  obtain ⟨c, hc⟩ := hk
  simp only [hc, tH, if_true] at h1 h2
  simp only [sG, hc, tH, if_true]
  by_cases hac : a = c
  ·subst hac
   simp only [beq_self_eq_true] at h1 ⊢
   simp only [fL, tH, if_true]
   by_cases hba : b = a
   ·subst hba; simp
   ·have : (b == a) = false := by simpa using hba
    simp only [this] at h2 ⊢
    rw [h2]; simp [hba]
  ·have hac' : (a == c) = false := by simpa using hac
   simp only [hac'] at h1 ⊢
   simp only [fL, hc, tH, if_true]
   by_cases hbc : b = c
   ·subst hbc
    simp only [beq_self_eq_true, aT] at h2 ⊢
    rw [if_neg (fun e => hac e.symm), h2]
   ·have hbc' : (b == c) = false := by simpa using hbc
    simp only [hbc'] at h2 ⊢
    exact ih b h1 h2
theorem ML.place (H : ML m M h) {a : Nat} (ha : a < 16000000) : ∃ h1, dQ (.int .i64) (.m M.pb) (.i .i64 (a : Int)) (.b true) h = some (aR, h1) ∧ ML m { M with pl := M.pl.set a 1 } h1 ∧ Oth m M.wb M.pb h h1 := by
 obtain ⟨es, h1, h2⟩ := H.places
 refine ⟨⟨h.next, Tr.set (.mp (sG (.int .i64) (.i .i64 (a : Int)) (.b true) es)) M.pb h.bl⟩, by simp [dQ, h1, h2 a], ⟨?_, ?_, ⟨_, by rw [dQg], fun b => ?_⟩, H.n_lt, H.fin_le, H.made_lt, H.d1, H.d2, H.d3⟩, rfl, fun b _ _ h1 => dQf _ _ _ _ h1⟩
 ·rw [dQf _ _ _ _ H.d2]; exact H.row
 ·rw [dQf _ _ _ _ H.d3]; exact H.words
 ·rw [bDk b (h2 a) (h2 b)]
  congr 1
  by_cases e : b = (a : Int)
  ·subst e
   simp [WT.get_set _ _ _ _ ha]
  ·rw [if_neg e]
   by_cases hb : 0 ≤ b
   ·have : b.toNat ≠ a := by omega
    rw [WT.get_set _ _ _ _ ha, if_neg this]
   ·simp [hb]
theorem cHg {h' h1 : Hp} {M' : MemV} (S : Sim false h h') (hM : sP m h = some M) (H1 : ML m M' h1) (e1 : M'.wb = M.wb) (e2 : M'.pb = M.pb) (e3 : M'.n = M.n) (O : Oth m M.wb M.pb h' h1) :
  Sim false ⟨h.next, Tr.set (bNz M') m (Tr.set (.mi M'.pl) M.pb (Tr.set (.big M.n M'.t) M.wb h.bl))⟩ h1 := by
 have H := fN hM S
 refine ⟨O.1.trans S.next, fun b o hb => ?_⟩
 by_cases b1 : b = m
 ·subst b1
  simp only [dQg, aT] at hb
  subst hb
  exact ⟨_, H1.row, rfl⟩
 ·simp only [dQf _ _ _ _ b1] at hb
  by_cases b2 : b = M.pb
  ·subst b2
   simp only [dQg, aT] at hb
   subst hb
   obtain ⟨es, p1, p2⟩ := H1.places
   rw [e2] at p1
   exact ⟨_, p1, by simp only [wN]; exact ⟨es, rfl, p2⟩⟩
  ·simp only [dQf _ _ _ _ b2] at hb
   by_cases b3 : b = M.wb
   ·subst b3
    simp only [dQg, aT] at hb
    subst hb
    have := H1.words
    rw [e1, e3] at this
    exact ⟨_, this, by simp [wN]⟩
   ·simp only [dQf _ _ _ _ b3] at hb
    rw [O.2 b b1 b3 b2]
    exact S.get b o hb
theorem bGa {h' h1 : Hp} {t : WT} (S : Sim false h h') (hM : sP m h = some M) (H1 : ML m { M with t := t } h1) (O : Oth m M.wb M.pb h' h1) (hm : h1.bl.get m = h'.bl.get m) (hp : h1.bl.get M.pb = h'.bl.get M.pb) :
  Sim false ⟨h.next, Tr.set (.big M.n t) M.wb h.bl⟩ h1 := by
 refine ⟨O.1.trans S.next, fun b o hb => ?_⟩
 by_cases b3 : b = M.wb
 ·subst b3
  simp only [dQg, aT] at hb
  subst hb
  exact ⟨_, H1.words, by simp [wN]⟩
 ·simp only [dQf _ _ _ _ b3] at hb
  by_cases b1 : b = m
  ·subst b1; rw [hm]; exact S.get _ o hb
  ·by_cases b2 : b = M.pb
   ·subst b2; rw [hp]; exact S.get _ o hb
   ·rw [O.2 b b1 b3 b2]
    exact S.get b o hb
end
theorem aNy {m : Pos} {M : MemV} {h h' : Hp} (S : Sim false h h') (hM : sP m h = some M) {a : Nat} (ha : a < M.n) (w : Int) {v : DV} {k : Hp} (hp : rE M a w h = some (v, k)) :
  v = .i .i64 (Int.ofNat 0) ∧ ∃ h1, aH 1 (.p M.wb a) (.i .i64 w) h' = some (aR, h1) ∧ Sim false k h1 := by
 have H := fN hM S
 simp only [rE, aT, bF] at hp
 obtain ⟨rfl, rfl⟩ := hp
 refine ⟨rfl, _, H.put ha w, bGa S hM (H.setW _).1 (H.setW _).2 ?_ ?_⟩
 ·exact dQf _ _ _ _ H.d1
 ·exact dQf _ _ _ _ (Ne.symm H.d3)
theorem cJm (n : Nat) (args : List DV) : SimP false (aOb args) (fP CF1 (n + 12) 84 args) := fun h h' S v k e => by
 obtain ⟨m, rest, M, rfl, hM, e⟩ := eT e
 split at e <;> (try (cases e; done))
 rename_i o i w _
 have H := fN hM S
 rw [cD 84 rfl, dGg]
 simp only [t47, aVl, g0, g1, g2, g3]
 rcases bNa H e with ⟨er, he, e1, e2⟩ | ⟨hd, a, h0, h1, h2, h3, e1, e2⟩
 ·simp only [aT, bF] at e1
  obtain ⟨rfl, rfl⟩ := e1
  refine ⟨h', ?_, S⟩
  simp only [e2 (n + 4), aJ, oV, oY, aMb, kH, cPg he, aZ]
 ·have e0 : (Int.ofNat 0 != Int.ofNat 0) = false := rfl
  have h51 := dEo H (n + 5) o (show gN o M.pl < M.n by omega)
  rw [h3] at h51
  simp only [e2 (n + 4), aJ, oV, oY, aMb, kH, e0, bO, aXe, h51, dT]
  have hmod : Int.ofNat hd % 4 = Int.ofNat (Nat.mod hd 4) := rfl
  have h4 : vH (fP CF1 (n + 11)) (n + 11) (.p m 0) (.i .i64 w) (.i .i64 (a : Int)) h' = bnd (aH 1 (.p M.wb a) (.i .i64 w) h') fun _ h5 => some (.i .i64 (Int.ofNat 0), h5) := by
   simp only [vH, iH, eI, aJ, H.l0, H.ix h1]
  have hput : rE M a w h = some (v, k) → ∃ h1, vH (fP CF1 (n + 11)) (n + 11) (.p m 0) (.i .i64 w) (.i .i64 (a : Int)) h' = some (v, h1) ∧ Sim false k h1 := by
   intro hp
   obtain ⟨rfl, h1', p1, p2⟩ := aNy S hM h1 w hp
   exact ⟨h1', by rw [h4, p1]; rfl, p2⟩
  rw [hmod]
  split at e1
  ·rename_i hz
   rw [hz]
   have : (Int.ofNat 0 == Int.ofNat 0) = true := rfl
   simp only [this, aZ, dGf H, aJ, vJ]
   cases hmay : aEn w M.pl with
   | true =>
    rw [hmay] at e1
    simp only [cond_true] at e1
    simp only [Bool.not_true, bO]
    exact hput e1
   | false =>
    rw [hmay] at e1
    simp only [cond_false, aT, bF] at e1
    obtain ⟨rfl, rfl⟩ := e1
    exact ⟨h', rfl, S⟩
  ·rename_i hz
   rw [hz]
   have q0 : (Int.ofNat 2 == Int.ofNat 0) = false := rfl
   have q2 : (Int.ofNat 2 == Int.ofNat 2) = true := rfl
   simp only [q0, bO, aJ, q2, aZ, cH]
   cases w with
   | negSucc c =>
    simp only [aT, bF] at e1
    obtain ⟨rfl, rfl⟩ := e1
    have hlt : decide (Int.negSucc c < Int.ofNat 0) = true := decide_eq_true (Int.negSucc_lt_zero c)
    simp only [hlt, dP, aJ, bQ, aZ]
    exact ⟨h', rfl, S⟩
   | ofNat c =>
    dsimp only at e1
    have hlt : decide (Int.ofNat c < Int.ofNat 0) = false := by simp
    simp only [hlt, eZ, aJ, bU, eX]
    rw [aFw] at e1
    by_cases hc : c ≤ 255
    ·simp only [hc, decide_true, cond_true] at e1
     have hgt : decide (Int.ofNat c > Int.ofNat 255) = false := by
      simp only [decide_eq_false_iff_not, Int.ofNat_eq_natCast]; omega
     simp only [hgt, bO]
     exact hput e1
    ·simp only [hc, decide_false, cond_false, aT, bF] at e1
     obtain ⟨rfl, rfl⟩ := e1
     have hgt : decide (Int.ofNat c > Int.ofNat 255) = true := by
      simp only [decide_eq_true_eq, Int.ofNat_eq_natCast]; omega
     simp only [hgt, aZ]
     exact ⟨h', rfl, S⟩
  ·rename_i hz0 hz2
   have q0 : (Int.ofNat (Nat.mod hd 4) == Int.ofNat 0) = false := by
    simp only [beq_eq_false_iff_ne, ne_eq, Int.ofNat_eq_natCast]
    intro e; exact hz0 (by exact_mod_cast e)
   have q2 : (Int.ofNat (Nat.mod hd 4) == Int.ofNat 2) = false := by
    simp only [beq_eq_false_iff_ne, ne_eq, Int.ofNat_eq_natCast]
    intro e; exact hz2 (by exact_mod_cast e)
   simp only [q0, bO, aJ, q2, bO]
   exact hput e1
theorem aHk (n : Nat) (args : List DV) : SimP false (lZ args) (fP CF1 (n + 12) 80 args) := fun h h' S v k e => by
 obtain ⟨m, rest, M, rfl, hM, e⟩ := eT e
 split at e <;> (try (cases e; done))
 rename_i o c _
 have H := fN hM S
 rw [cD 80 rfl, dHa]
 simp only [t44, g0, g1, g2, uZ H, aJ, dT]
 rw [mH] at e
 by_cases h0 : gN o M.pl = 0
 ·simp only [h0, decide_true, Bool.true_or, cond_true, aT, bF] at e
  obtain ⟨rfl, rfl⟩ := e
  have : ((0 : Nat) : Int) = Int.ofNat 0 := rfl
  have q : (((gN o M.pl : Nat) : Int) == Int.ofNat 0) = true := by rw [h0]; rfl
  simp only [q, dP, aJ, bQ, aZ]
  exact ⟨h', rfl, S⟩
 ·have q : (((gN o M.pl : Nat) : Int) == Int.ofNat 0) = false := by simpa using h0
  simp only [q, eZ, aJ, bU, dFv H, vJ]
  cases hc : aCb c M.pl with
  | false =>
   rw [hc] at e
   simp only [h0, decide_false, Bool.not_false, Bool.false_or, cond_true, aT, bF] at e
   obtain ⟨rfl, rfl⟩ := e
   simp only [Bool.not_false, aZ]
   exact ⟨h', rfl, S⟩
  | true =>
   rw [hc] at e
   simp only [h0, decide_false, Bool.not_true, Bool.false_or, cond_false] at e
   rw [zH] at e
   by_cases ha : Nat.add (gN o M.pl) 1 < M.n
   ·simp only [ha, decide_true, cond_true] at e
    have ha' : gN o M.pl + 1 < M.n := ha
    have hn := H.n_lt
    simp only [Bool.not_true, bO, iH, eI, aJ, H.l0]
    rw [tR _ _ _ (by simp only [Int.ofNat_eq_natCast]; omega)]
    have ee : (gN o M.pl : Int) + Int.ofNat 1 = ((gN o M.pl + 1 : Nat) : Int) := by simp
    obtain ⟨rfl, h1', p1, p2⟩ := aNy S hM ha' c e
    simp only [aJ, ee, H.ix ha', p1]
    exact ⟨h1', rfl, p2⟩
   ·simp only [ha, decide_false, cond_false] at e
    cases e
end Go.Dd

namespace Go.Dd
theorem bH (a b : Nat) (h : Hp) (hr : a + b < 4611686018427387904) : aD .add (.i .i64 (Int.ofNat a)) (.i .i64 (Int.ofNat b)) h = some (.i .i64 (Int.ofNat (a + b)), h) := by
 rw [tR _ _ _ (by simp only [Int.ofNat_eq_natCast]; omega)]
 rfl
theorem cQh (c f : Nat) (h : Hp) (hc : c ≤ 256) (hf : f ≤ 2) : aD .or (.i .i64 (4 * Int.ofNat c)) (.i .i64 (Int.ofNat f)) h = some (.i .i64 (Int.ofNat (c * 4 + f)), h) := by
 have hb : eV .or .i64 (4 * Int.ofNat c) (Int.ofNat f) = some (.i .i64 (Int.ofNat (c * 4 + f))) := by
  have := cUk c 2 f (by omega) (by omega)
  have e1 : ((c * 2 ^ 2 : Nat) : Int) = 4 * Int.ofNat c := by simp only [Int.ofNat_eq_natCast]; omega
  have e2 : ((c * 2 ^ 2 + f : Nat) : Int) = Int.ofNat (c * 4 + f) := rfl
  rw [e1, e2] at this
  rw [← this]; rfl
 simp only [aD, if_true, hb]
theorem aCy (t : WT) : ∀ (c a j : Nat), a + c < 16000000 → (pO t c a).get j = if a ≤ j ∧ j < a + c then 0 else t.get j
 | 0, a, j, h => by rw [if_neg (by omega)]; rfl
 | c + 1, a, j, h => by
  have e : pO t (c + 1) a = (pO t c (a + 1)).set a (.ofNat 0) := rfl
  rw [e, WT.get_set _ _ _ _ (by omega), aCy t c (a + 1) j (by omega)]
  by_cases h1 : j = a
  ·rw [if_pos h1, if_pos (by omega)]; rfl
  ·rw [if_neg h1]
   by_cases h2 : a + 1 ≤ j ∧ j < a + 1 + c
   ·rw [if_pos h2, if_pos (by omega)]
   ·rw [if_neg h2, if_neg (by omega)]
theorem bBb : ∀ (l vs : List DV), (∀ v ∈ l, v.one = true) → (∀ v ∈ vs, v.one = true) → vs.length ≤ l.length → ∃ l', jY l vs = some l'
 | l, [], _, _, _ => ⟨l, by cases l <;> rfl⟩
 | [], v :: vs, _, _, h => by simp at h
 | x :: l, v :: vs, h1, h2, h3 => by
  obtain ⟨l', e⟩ := bBb l vs (fun u hu => h1 u (by simp [hu])) (fun u hu => h2 u (by simp [hu])) (by simpa using h3)
  exact ⟨v :: l', by simp [jY, h1 x (by simp), h2 v (by simp), e]⟩
theorem aNd : ∀ (o : Nat) (l vs : List DV), (∀ v ∈ l, v.one = true) → (∀ v ∈ vs, v.one = true) → o + vs.length ≤ l.length → ∃ l', fT o l vs = some l'
 | 0, l, vs, h1, h2, h3 => by
  obtain ⟨l', e⟩ := bBb l vs h1 h2 (by omega)
  exact ⟨l', e⟩
 | o + 1, [], vs, h1, h2, h3 => by simp at h3
 | o + 1, x :: l, vs, h1, h2, h3 => by
  obtain ⟨l', e⟩ := aNd o l vs (fun u hu => h1 u (by simp [hu])) h2 (by simp at h3; omega)
  exact ⟨x :: l', by simp [fT, e]⟩
section
variable {m : Pos} {M : MemV} {h : Hp}
theorem bJc {n : Nat} {t : WT} : ∀ v ∈ iL n t, v.one = true := by
 intro v hv
 simp only [iL, List.mem_map] at hv
 obtain ⟨i, _, rfl⟩ := hv
 rfl
theorem ML.ix' (H : ML m M h) {a : Nat} (ha : a < M.n) : aE 1 (.l M.wb 0 M.n M.n) (.i .i64 (Int.ofNat a)) h = some (.p M.wb a, h) := H.ix ha
theorem zS (c : Nat) : (List.replicate c [DV.i .i64 (Int.ofNat 0)]).flatten = List.replicate c (.i .i64 (Int.ofNat 0)) := by
 induction c with
 | zero => rfl
 | succ c ih => simp [List.replicate_succ, ih]
theorem ML.clear (H : ML m M h) {a c : Nat} (hac : a + c ≤ M.n) : ∃ v h1, dN 1 (.l M.wb 0 M.n M.n) (some (.i .i64 (Int.ofNat a))) (some (.i .i64 (Int.ofNat (a + c)))) h = some (v, h) ∧
  kS [.i .i64 (Int.ofNat 0)] v h = some (.t [], h1) ∧ ML m { M with t := pO M.t c a } h1 ∧ Oth m M.wb M.pb h h1 := by
 have hn := H.n_lt
 have e1 : fM (.i .i64 (Int.ofNat (a + c))) M.n = some (a + c) := by
  have : (0 : Int) ≤ Int.ofNat (a + c) ∧ Int.ofNat (a + c) ≤ (M.n : Int) := by simp only [Int.ofNat_eq_natCast]; omega
  simp only [fM, this, and_self, if_true]
  rfl
 have e2 : fM (.i .i64 (Int.ofNat a)) (a + c) = some a := by
  have : (0 : Int) ≤ Int.ofNat a ∧ Int.ofNat a ≤ ((a + c : Nat) : Int) := by simp only [Int.ofNat_eq_natCast]; omega
  simp only [fM, this, and_self, if_true]
  rfl
 refine ⟨.l M.wb (if M.n = a then 0 else 0 + a * 1) (a + c - a) (M.n - a), ?_⟩
 have hs : dN 1 (.l M.wb 0 M.n M.n) (some (.i .i64 (Int.ofNat a))) (some (.i .i64 (Int.ofNat (a + c)))) h = some (.l M.wb (if M.n = a then 0 else 0 + a * 1) (a + c - a) (M.n - a), h) := by
  simp only [dN, hiD, loD, e1, e2, H.words]
 by_cases hc : c = 0
 ·subst hc
  refine ⟨h, hs, by simp [kS], H, Oth.refl _ _ _ _⟩
 ·obtain ⟨l', hl'⟩ := aNd a (iL M.n M.t) (List.replicate c (.i .i64 (Int.ofNat 0))) bJc (fun v hv => by rw [List.eq_of_mem_replicate hv]; rfl) (by simp [iL]; omega)
  obtain ⟨p1, p2, p3, p4, p5⟩ := kJ _ _ _ _ hl'
  have hll : l' = iL M.n (pO M.t c a) := by
   apply List.ext_getElem?
   intro j
   by_cases hj : j < M.n
   ·rw [lO hj, aCy _ _ _ _ (by omega)]
    by_cases hin : a ≤ j ∧ j < a + c
    ·rw [if_pos hin]
     obtain ⟨q1, _⟩ := p4 (j - a) (.i .i64 (Int.ofNat 0)) (by rw [List.getElem?_replicate, if_pos (by omega)])
     rw [show a + (j - a) = j from by omega] at q1
     exact q1
    ·rw [if_neg hin, p5 j (by rw [List.length_replicate]; omega), lO hj]
   ·rw [List.getElem?_eq_none (by rw [p1]; simp [iL]; omega), List.getElem?_eq_none (by simp [iL]; omega)]
  refine ⟨⟨h.next, Tr.set (.row .ex (iL M.n (pO M.t c a))) M.wb h.bl⟩, hs, ?_, (H.setW _).1, (H.setW _).2⟩
  have hna : M.n ≠ a := by omega
  rw [if_neg hna]
  simp only [kS, show a + c - a = c from by omega, hc, if_false, zS, cP, H.words, Kind.writable, if_true, Nat.zero_add, Nat.mul_one, hl', hll]
end
noncomputable def aYv (rec : FuncId → List DV → Hp → aG) (x0 x3 v26 : DV) (h0 : Hp) : aG :=
 bnd (aY x0 h0) fun v64 h64 =>
 bnd (aB 1 v64 h64) fun v65 h65 =>
 bnd (aA v65 h65) fun v66 h66 =>
 bnd (aD .add x3 (.i .i64 (Int.ofNat 3)) h66) fun v67 h67 =>
 bnd (aD .add v66 v67 h67) fun v68 h68 =>
 bnd (aY x0 h68) fun v69 h69 =>
 bnd (aB 1 v69 h69) fun v70 h70 =>
 bnd (aH 1 v70 v68 h70) fun _ h71 =>
 bnd (aY x0 h71) fun v72 h72 =>
 bnd (aB 3 v72 h72) fun v73 h73 =>
 bnd (aA v73 h73) fun v74 h74 =>
 bnd (dQ (.int .i64) v74 v26 (.b true) h74) fun _ h75 =>
 bnd (rec 127 [v26] h75) fun v76 h76 =>
 bnd (aC 0 v76 h76) fun v77 h77 =>
 bnd (aC 1 v76 h77) fun v78 h78 =>
 some (.t [v77, (.i .i64 (Int.ofNat 0))], h78)
noncomputable def aWb (rec : FuncId → List DV → Hp → aG) (x0 x3 v26 : DV) (h0 : Hp) : aG :=
 bnd (aY x0 h0) fun v56 h56 =>
 bnd (aB 0 v56 h56) fun v57 h57 =>
 bnd (aA v57 h57) fun v58 h58 =>
 bnd (aD .add v26 (.i .i64 (Int.ofNat 3)) h58) fun v59 h59 =>
 bnd (aD .add v26 (.i .i64 (Int.ofNat 3)) h59) fun v60 h60 =>
 bnd (aD .add v60 x3 h60) fun v61 h61 =>
 bnd (dN 1 v58 (some v59) (some v61) h61) fun v62 h62 =>
 bnd (kS [(.i .i64 (Int.ofNat 0))] v62 h62) fun _ h63 =>
 aYv rec x0 x3 v26 h63
noncomputable def bAd (rec : FuncId → List DV → Hp → aG) (x0 x1 x2 x3 v26 : DV) (h0 : Hp) : aG :=
 bnd (aY x0 h0) fun v34 h34 =>
 bnd (aB 0 v34 h34) fun v35 h35 =>
 bnd (aA v35 h35) fun v36 h36 =>
 bnd (aY x0 h36) fun v37 h37 =>
 bnd (aB 0 v37 h37) fun v38 h38 =>
 bnd (aA v38 h38) fun v39 h39 =>
 bnd (aD .add v26 (.i .i64 (Int.ofNat 1)) h39) fun v40 h40 =>
 bnd (aY x0 h40) fun v41 h41 =>
 bnd (aB 0 v41 h41) fun v42 h42 =>
 bnd (aA v42 h42) fun v43 h43 =>
 bnd (aD .add v26 (.i .i64 (Int.ofNat 2)) h43) fun v44 h44 =>
 bnd (dV .shl x3 (.i .u64 (Int.ofNat 2)) h44) fun v45 h45 =>
 bnd (aD .or v45 x2 h45) fun v46 h46 =>
 bnd (aY x0 h46) fun v47 h47 =>
 bnd (aB 2 v47 h47) fun v48 h48 =>
 bnd (aA v48 h48) fun v49 h49 =>
 bnd (aE 1 v36 v26 h49) fun v50 h50 =>
 bnd (aH 1 v50 v46 h50) fun v51 h51 =>
 bnd (aE 1 v39 v40 h51) fun v52 h52 =>
 bnd (aH 1 v52 x1 h52) fun v53 h53 =>
 bnd (aE 1 v43 v44 h53) fun v54 h54 =>
 bnd (aH 1 v54 v49 h54) fun v55 h55 =>
 aWb rec x0 x3 v26 h55
noncomputable def aEp (rec : FuncId → List DV → Hp → aG) (x0 x1 x2 x3 : DV) (h0 : Hp) : aG :=
 bnd (aY x0 h0) fun v24 h24 =>
 bnd (aB 1 v24 h24) fun v25 h25 =>
 bnd (aA v25 h25) fun v26 h26 =>
 bnd (aY x0 h26) fun v27 h27 =>
 bnd (aB 2 v27 h27) fun v28 h28 =>
 bnd (aA v28 h28) fun v29 h29 =>
 bnd (aD .add v29 (.i .i64 (Int.ofNat 1)) h29) fun v30 h30 =>
 bnd (aY x0 h30) fun v31 h31 =>
 bnd (aB 2 v31 h31) fun v32 h32 =>
 bnd (aH 1 v32 v30 h32) fun _ h33 =>
 bAd rec x0 x1 x2 x3 v26 h33
theorem cZx (rec : FuncId → List DV → Hp → aG) (n : Nat) (x0 x1 x2 x3 : DV) (h0 : Hp) : t30 rec n x0 x1 x2 x3 h0 = (
 bnd (rec 125 [x0, x1] h0) fun v1 h1 =>
 bnd (jK .not v1 h1) fun v2 h2 =>
 bnd (gD v2 false (some (x2, h2)) h2) fun v3 h3 =>
 bnd (gD v2 false (aD .lss v3 (.i .i64 (Int.ofNat 0)) h3) h3) fun v4 h4 =>
 bnd (aP v2 (.b true) v4 h4) fun v5 h5 =>
 bnd (gD v5 false (some (x2, h5)) h5) fun v6 h6 =>
 bnd (gD v5 false (aD .gtr v6 (.i .i64 (Int.ofNat 2)) h6) h6) fun v7 h7 =>
 bnd (aP v5 (.b true) v7 h7) fun v8 h8 =>
 bnd (gD v8 false (some (x3, h8)) h8) fun v9 h9 =>
 bnd (gD v8 false (aD .lss v9 (.i .i64 (Int.ofNat 0)) h9) h9) fun v10 h10 =>
 bnd (aP v8 (.b true) v10 h10) fun v11 h11 =>
 bnd (gD v11 false (some (x3, h11)) h11) fun v12 h12 =>
 bnd (gD v11 false (aD .gtr v12 (.i .i64 (Int.ofNat 256)) h12) h12) fun v13 h13 =>
 bnd (aP v11 (.b true) v13 h13) fun v14 h14 =>
 aX v14 (
 some (.t [(.i .i64 (Int.ofNat 0)), (.i .i64 (Int.ofNat 1))], h14)) (
 bnd (rec 126 [x0] h14) fun v15 h15 =>
 bnd (aD .add x3 (.i .i64 (Int.ofNat 3)) h15) fun v16 h16 =>
 bnd (aD .lss v15 v16 h16) fun v17 h17 =>
 bnd (gD v17 false (some (x0, h17)) h17) fun v18 h18 =>
 bnd (gD v17 false (aY v18 h18) h18) fun v19 h19 =>
 bnd (gD v17 false (aB 2 v19 h19) h19) fun v20 h20 =>
 bnd (gD v17 false (aA v20 h20) h20) fun v21 h21 =>
 bnd (gD v17 false (aD .geq v21 (.i .i64 (Int.ofNat 1099511627776)) h21) h21) fun v22 h22 =>
 bnd (aP v17 (.b true) v22 h22) fun v23 h23 =>
 aX v23 (
 some (.t [(.i .i64 (Int.ofNat 0)), (.i .i64 (Int.ofNat 4))], h23)) (
 aEp rec x0 x1 x2 x3 h23))) := rfl
section
variable {m : Pos} {M : MemV} {h : Hp}
theorem bWa (H : ML m M h) {c : Nat} (hr : M.fin + (c + 3) ≤ M.n) (ha : 3 ≤ M.fin ∧ M.fin ≤ 131072) (n : Nat) :
  ∃ h1, aYv (fP CF1 (n + 11)) (.p m 0) (.i .i64 (Int.ofNat c)) (.i .i64 (Int.ofNat M.fin)) h = some (.t [.i .i64 (Int.ofNat (Nat.mul M.fin 2)), .i .i64 (Int.ofNat 0)], h1) ∧
   ML m { M with fin := M.fin + (c + 3), pl := M.pl.set M.fin 1 } h1 ∧ Oth m M.wb M.pb h h1 := by
 have hn := H.n_lt
 simp only [aYv, iH, eI, aJ, H.l1, bH c 3 _ (show c + 3 < 4611686018427387904 by omega), bH M.fin (c + 3) _ (show M.fin + (c + 3) < 4611686018427387904 by omega)]
 obtain ⟨h6, s6, H6, O6⟩ := H.st1 (x := M.fin + (c + 3)) hr
 simp only [s6, aJ, H6.l3]
 obtain ⟨h7, s7, H7, O7⟩ := H6.place (a := M.fin) (by omega)
 rw [show dQ (.int .i64) (.m M.pb) (.i .i64 (Int.ofNat M.fin)) (.b true) h6 = some (aR, h7) from s7]
 have hp : 3 ≤ Int.ofNat M.fin ∧ Int.ofNat M.fin ≤ 131072 := by simp only [Int.ofNat_eq_natCast]; omega
 have e2 : 2 * Int.ofNat M.fin = Int.ofNat (Nat.mul M.fin 2) := by
  have : Nat.mul M.fin 2 = M.fin * 2 := rfl
  rw [this]; simp only [Int.ofNat_eq_natCast]; omega
 have h75 := dMj (n + 9) (Int.ofNat M.fin) h7
 rw [if_pos hp, e2] at h75
 simp only [aJ, h75, oV, oY]
 exact ⟨h7, rfl, H7, O6.trans O7⟩
theorem bNt (H : ML m M h) {c : Nat} (hr : M.fin + (c + 3) ≤ M.n) (n : Nat) :
  ∃ h1, aWb (fP CF1 (n + 11)) (.p m 0) (.i .i64 (Int.ofNat c)) (.i .i64 (Int.ofNat M.fin)) h = aYv (fP CF1 (n + 11)) (.p m 0) (.i .i64 (Int.ofNat c)) (.i .i64 (Int.ofNat M.fin)) h1 ∧
   ML m { M with t := pO M.t c (M.fin + 3) } h1 ∧ Oth m M.wb M.pb h h1 := by
 have hn := H.n_lt
 obtain ⟨vv, h5, s5, s5', H5, O5⟩ := H.clear (a := M.fin + 3) (c := c) (show M.fin + 3 + c ≤ M.n by omega)
 refine ⟨h5, ?_, H5, O5⟩
 simp only [aWb, iH, eI, aJ, H.l0, bH M.fin 3 _ (show M.fin + 3 < 4611686018427387904 by omega), bH (M.fin + 3) c _ (show M.fin + 3 + c < 4611686018427387904 by omega), s5, s5']
theorem bQv (H : ML m M h) {cls : Int} {c f : Nat} (hcc : c ≤ 256) (hf : f ≤ 2) (hr : M.fin + (c + 3) ≤ M.n) (n : Nat) :
  ∃ h1, bAd (fP CF1 (n + 11)) (.p m 0) (.i .i64 cls) (.i .i64 (Int.ofNat f)) (.i .i64 (Int.ofNat c)) (.i .i64 (Int.ofNat M.fin)) h = aWb (fP CF1 (n + 11)) (.p m 0) (.i .i64 (Int.ofNat c)) (.i .i64 (Int.ofNat M.fin)) h1 ∧
   ML m { M with t := ((M.t.set M.fin (Int.ofNat (c * 4 + f))).set (M.fin + 1) cls).set (M.fin + 2) (Int.ofNat M.made) } h1 ∧ Oth m M.wb M.pb h h1 := by
 have hn := H.n_lt
 obtain ⟨h2, s2, H2, O2⟩ := H.put' (a := M.fin) (show M.fin < M.n by omega) (Int.ofNat (c * 4 + f))
 obtain ⟨h3, s3, H3, O3⟩ := H2.put' (a := M.fin + 1) (show M.fin + 1 < M.n by omega) cls
 obtain ⟨h4, s4, H4, O4⟩ := H3.put' (a := M.fin + 2) (show M.fin + 2 < M.n by omega) (Int.ofNat M.made)
 have i1 := H.ix' (a := M.fin) (by omega)
 have i2 : aE 1 (.l M.wb 0 M.n M.n) (.i .i64 (Int.ofNat (M.fin + 1))) h2 = some (.p M.wb (M.fin + 1), h2) := H2.ix' (a := M.fin + 1) (show M.fin + 1 < M.n by omega)
 have i3 : aE 1 (.l M.wb 0 M.n M.n) (.i .i64 (Int.ofNat (M.fin + 2))) h3 = some (.p M.wb (M.fin + 2), h3) := H3.ix' (a := M.fin + 2) (show M.fin + 2 < M.n by omega)
 have s3' : aH 1 (.p M.wb (M.fin + 1)) (.i .i64 cls) h2 = some (aR, h3) := s3
 have s4' : aH 1 (.p M.wb (M.fin + 2)) (.i .i64 (Int.ofNat M.made)) h3 = some (aR, h4) := s4
 refine ⟨h4, ?_, H4, (O2.trans O3).trans O4⟩
 simp only [bAd, iH, eI, aJ, H.l0, H.l2, bH M.fin 1 _ (show M.fin + 1 < 4611686018427387904 by omega), bH M.fin 2 _ (show M.fin + 2 < 4611686018427387904 by omega),
  cGp (Int.ofNat c) _ (show -2305843009213693952 ≤ Int.ofNat c ∧ Int.ofNat c ≤ 2305843009213693951 by simp only [Int.ofNat_eq_natCast]; omega), cQh c f _ hcc hf, i1, s2, i2, s3', i3, s4']
end
theorem bDf {m : Pos} {M : MemV} {h h' : Hp} (S : Sim false h h') (hM : sP m h = some M) {cls : Int} {c f : Nat} (hcc : c ≤ 256) (hf : f ≤ 2) (hr : M.fin + (c + 3) ≤ M.n) (ha : 3 ≤ M.fin ∧ M.fin ≤ 131072) (n : Nat) :
  ∃ h1, aEp (fP CF1 (n + 11)) (.p m 0) (.i .i64 cls) (.i .i64 (Int.ofNat f)) (.i .i64 (Int.ofNat c)) h' = some (.t [.i .i64 (Int.ofNat (Nat.mul M.fin 2)), .i .i64 (Int.ofNat 0)], h1) ∧
   Sim false ⟨h.next, Tr.set (.row .ex [.l M.wb 0 M.n M.n, .i .i64 (Int.ofNat (M.fin + (c + 3))), .i .i64 (Int.ofNat (M.made + 1)), .m M.pb]) m
    (Tr.set (.mi (M.pl.set M.fin 1)) M.pb
     (Tr.set (.big M.n (pO (((M.t.set M.fin (Int.ofNat (c * 4 + f))).set (M.fin + 1) cls).set (M.fin + 2) (Int.ofNat (M.made + 1))) c (M.fin + 3))) M.wb h.bl))⟩ h1 := by
 have H := fN hM S
 have hmd : M.made < 1000000 := (sX hM).2.2.2.2.2
 obtain ⟨h1, s1, H1, O1⟩ := H.st2 (x := M.made + 1) (by omega)
 obtain ⟨h2, s2, H2, O2⟩ := bQv H1 (cls := cls) hcc hf hr n
 obtain ⟨h3, s3, H3, O3⟩ := bNt H2 hr n
 obtain ⟨h4, s4, H4, O4⟩ := bWa H3 hr ha n
 have e : aEp (fP CF1 (n + 11)) (.p m 0) (.i .i64 cls) (.i .i64 (Int.ofNat f)) (.i .i64 (Int.ofNat c)) h' = bAd (fP CF1 (n + 11)) (.p m 0) (.i .i64 cls) (.i .i64 (Int.ofNat f)) (.i .i64 (Int.ofNat c)) (.i .i64 (Int.ofNat M.fin)) h1 := by
  simp only [aEp, iH, eI, aJ, H.l1, H.l2, bH M.made 1 _ (show M.made + 1 < 4611686018427387904 by omega), s1]
 refine ⟨h4, e.trans (s2.trans (s3.trans s4)), ?_⟩
 dsimp only at H4
 have H5 : ML m ⟨M.wb, M.n, M.fin + (c + 3), M.made + 1, M.pb, pO (((M.t.set M.fin (Int.ofNat (c * 4 + f))).set (M.fin + 1) cls).set (M.fin + 2) (Int.ofNat (M.made + 1))) c (M.fin + 3), M.pl.set M.fin 1⟩ h4 := H4
 exact cHg S hM H5 rfl rfl rfl (((O1.trans O2).trans O3).trans O4)
theorem bQp (n : Nat) (args : List DV) : SimP false (vF args) (fP CF1 (n + 12) 77 args) := fun h h' S v k e => by
 unfold vF at e
 split at e <;> (try (cases e; done))
 rename_i m cls fmt cnt
 split at e <;> (try (cases e; done))
 rename_i M hM
 have H := fN hM S
 have hn := H.n_lt
 have hfn := H.fin_le
 rw [cD 77 rfl, dHl, cZx]
 simp only [g0, g1, g2, g3, dFv H, aJ, vJ]
 have herr : ∀ er : Nat, err er h = some (v, k) → ∃ h1, (some (.t [.i .i64 (Int.ofNat 0), .i .i64 (Int.ofNat er)], h') : aG) = some (v, h1) ∧ Sim false k h1 := by
  intro er he
  simp only [err, aT, bF] at he
  obtain ⟨rfl, rfl⟩ := he
  exact ⟨h', rfl, S⟩
 cases hc : aCb cls M.pl with
 | false =>
  rw [hc] at e
  simp only [Bool.not_false, cond_true] at e
  simp only [Bool.not_false, dP, aJ, bQ, aZ]
  exact herr 1 e
 | true =>
  rw [hc] at e
  simp only [Bool.not_true, cond_false] at e
  simp only [Bool.not_true, eZ, aJ, bU, cH]
  cases fmt with
  | negSucc f =>
   have hlt : decide (Int.negSucc f < Int.ofNat 0) = true := decide_eq_true (Int.negSucc_lt_zero f)
   simp only [hlt, dP, aJ, bQ, aZ]
   exact herr 1 e
  | ofNat f =>
   have hlt : decide (Int.ofNat f < Int.ofNat 0) = false := by simp
   simp only [hlt, eZ, aJ, bU, eX]
   by_cases hf : f ≤ 2
   ·have hgt : decide (Int.ofNat f > Int.ofNat 2) = false := by simp only [decide_eq_false_iff_not, Int.ofNat_eq_natCast]; omega
    simp only [hgt, eZ, aJ, bU, cH]
    cases cnt with
    | negSucc c =>
     have hlt : decide (Int.negSucc c < Int.ofNat 0) = true := decide_eq_true (Int.negSucc_lt_zero c)
     simp only [hlt, dP, aJ, bQ, aZ]
     exact herr 1 e
    | ofNat c =>
     have hlt : decide (Int.ofNat c < Int.ofNat 0) = false := by simp
     simp only [hlt, eZ, aJ, bU, eX]
     dsimp only at e
     simp only [aFw, zH, hf, decide_true, Bool.true_and] at e
     by_cases hcc : c ≤ 256
     ·have hgt : decide (Int.ofNat c > Int.ofNat 256) = false := by simp only [decide_eq_false_iff_not, Int.ofNat_eq_natCast]; omega
      simp only [hgt, bO, dCc H, aJ, bH c 3 _ (by omega), cH]
      simp only [hcc, decide_true, cond_true] at e
      have hsub : Nat.sub M.n M.fin = M.n - M.fin := rfl
      have hadd : Nat.add c 3 = c + 3 := rfl
      rw [hsub, hadd] at e
      by_cases hr : M.n - M.fin < c + 3
      ·simp only [hr, decide_true, cond_true] at e
       have hl : decide (Int.ofNat (M.n - M.fin) < Int.ofNat (c + 3)) = true := by simp only [decide_eq_true_eq, Int.ofNat_eq_natCast]; omega
       simp only [hl, dP, aJ, bQ, aZ]
       exact herr 4 e
      ·simp only [hr, decide_false, cond_false] at e
       have hl : decide (Int.ofNat (M.n - M.fin) < Int.ofNat (c + 3)) = false := by simp only [decide_eq_false_iff_not, Int.ofNat_eq_natCast]; omega
       simp only [hl, eZ, aJ, bU, iH, eI, H.l2, nT]
       have hg : decide (Int.ofNat M.made ≥ Int.ofNat 1099511627776) = false := by
        have hmd : M.made < 1000000 := (sX hM).2.2.2.2.2
        simp only [decide_eq_false_iff_not, Int.ofNat_eq_natCast]; omega
       simp only [hg, bO]
       by_cases ha : 3 ≤ M.fin ∧ M.fin ≤ 131072
       ·simp only [ha.1, ha.2, decide_true, Bool.and_self, cond_true, aT, bF] at e
        obtain ⟨rfl, rfl⟩ := e
        exact bDf S hM hcc hf (by omega) ha n
       ·have : (decide (3 ≤ M.fin) && decide (M.fin ≤ 131072)) = false := by
         rw [← Bool.not_eq_true]
         simpa using ha
        rw [this] at e
        simp only [cond_false] at e
        cases e
     ·have hgt : decide (Int.ofNat c > Int.ofNat 256) = true := by simp only [decide_eq_true_eq, Int.ofNat_eq_natCast]; omega
      simp only [hcc, decide_false, cond_false] at e
      simp only [hgt, aZ]
      exact herr 1 e
   ·have hgt : decide (Int.ofNat f > Int.ofNat 2) = true := by simp only [decide_eq_true_eq, Int.ofNat_eq_natCast]; omega
    simp only [hgt, dP, aJ, bQ, aZ]
    cases cnt with
    | negSucc c => exact herr 1 e
    | ofNat c =>
     dsimp only at e
     simp only [aFw, hf, decide_false, Bool.false_and, cond_false] at e
     exact herr 1 e
theorem aPn (n : Nat) (args : List DV) : SimP false (aRh args) (fP CF1 (n + 12) 76 args) := fun h h' S v k e => by
 unfold aRh at e
 split at e <;> (try (cases e; done))
 ·rename_i w
  rw [cD 76 rfl, cOk]
  simp only [t41, g0, cH, aJ]
  simp only [zH] at e
  by_cases h1 : w < 16
  ·simp only [h1, decide_true, Bool.true_or, cond_true, aT, bF] at e
   obtain ⟨rfl, rfl⟩ := e
   have hl : decide (Int.ofNat w < Int.ofNat 16) = true := by simp only [decide_eq_true_eq, Int.ofNat_eq_natCast]; omega
   simp only [hl, dP, aJ, bQ, aZ]
   exact ⟨h', rfl, S⟩
  ·have hl : decide (Int.ofNat w < Int.ofNat 16) = false := by simp only [decide_eq_false_iff_not, Int.ofNat_eq_natCast]; omega
   simp only [hl, eZ, aJ, bU, eX]
   by_cases h2 : 131072 < w
   ·simp only [h2, decide_true, Bool.or_true, cond_true, aT, bF] at e
    obtain ⟨rfl, rfl⟩ := e
    have hg : decide (Int.ofNat w > Int.ofNat 131072) = true := by simp only [decide_eq_true_eq, Int.ofNat_eq_natCast]; omega
    simp only [hg, aZ]
    exact ⟨h', rfl, S⟩
   ·simp only [h1, h2, decide_false, Bool.or_self, cond_false, aT, bF] at e
    obtain ⟨rfl, rfl⟩ := e
    have hg : decide (Int.ofNat w > Int.ofNat 131072) = false := by simp only [decide_eq_false_iff_not, Int.ofNat_eq_natCast]; omega
    simp only [hg, bO]
    have hms : bR 1 8 [.i .i64 (Int.ofNat 0)] (.i .i64 (Int.ofNat w)) (.i .i64 (Int.ofNat w)) h' = some (.l h'.next 0 w w, ⟨h'.next.succ, Tr.set (.row .ex (iL w .e)) h'.next h'.bl⟩) := by
     have hc : (0 : Int) ≤ Int.ofNat w ∧ Int.ofNat w ≤ Int.ofNat w ∧ (Int.ofNat w).toNat * 8 ≤ 2 ^ 30 ∧ (Int.ofNat w).toNat * 1 ≤ 2 ^ 24 ∧ Int.ofNat w < 2 ^ 32 := by
      have : (Int.ofNat w).toNat = w := rfl
      rw [this]
      simp only [Int.ofNat_eq_natCast]
      omega
     have hz : (List.replicate (Int.ofNat w).toNat [DV.i .i64 (Int.ofNat 0)]).flatten = iL w .e := by
      have : (Int.ofNat w).toNat = w := rfl
      rw [this, zS]
      apply List.ext_getElem?
      intro j
      by_cases hj : j < w
      ·rw [lO hj, List.getElem?_replicate, if_pos hj]; rfl
      ·rw [List.getElem?_replicate, if_neg hj, List.getElem?_eq_none (by simp [iL]; omega)]
     simp only [bR, hc, and_self, if_true, hz]
     rfl
    simp only [hms, aJ, dU]
    have hb : ∀ x y h, bL [.l0, .i .i64 (Int.ofNat 0), .i .i64 (Int.ofNat 0), .m0] [(0, 1, .l x 0 w w), (1, 1, .i .i64 (Int.ofNat 3)), (3, 1, .m y)] h = some (.a [.l x 0 w w, .i .i64 (Int.ofNat 3), .i .i64 (Int.ofNat 0), .m y], h) := fun x y h => rfl
    simp only [hb, aJ, dB, dD, cJ]
    have hnx := S.next
    refine ⟨_, by rw [hnx]; rfl, ?_⟩
    refine ⟨rfl, fun b o hb => ?_⟩
    show ∃ o', (Tr.set _ (cK 2 h.next) (Tr.set _ (cK 1 h.next) (Tr.set _ h.next h'.bl))).get b = some o' ∧ _
    by_cases b1 : b = cK 2 h.next
    ·subst b1
     simp only [dQg, aT] at hb ⊢
     subst hb
     exact ⟨_, rfl, rfl⟩
    ·simp only [dQf _ _ _ _ b1] at hb ⊢
     by_cases b2 : b = cK 1 h.next
     ·subst b2
      simp only [dQg, aT] at hb ⊢
      subst hb
      exact ⟨_, rfl, by simp only [wN]; exact ⟨[], rfl, fun a => by simp [fL, WT.get_e]⟩⟩
     ·simp only [dQf _ _ _ _ b2] at hb ⊢
      by_cases b3 : b = h.next
      ·subst b3
       simp only [dQg, aT] at hb ⊢
       subst hb
       exact ⟨_, rfl, by simp [wN]⟩
      ·simp only [dQf _ _ _ _ b3] at hb ⊢
       exact S.get b o hb
 ·rename_i w
  simp only [aT, bF] at e
  obtain ⟨rfl, rfl⟩ := e
  rw [cD 76 rfl, cOk]
  have hl : decide (Int.negSucc w < Int.ofNat 16) = true := by simp only [decide_eq_true_eq]; have := Int.negSucc_lt_zero w; simp only [Int.ofNat_eq_natCast]; omega
  simp only [t41, g0, cH, aJ, hl, dP, bQ, aZ]
  exact ⟨h', rfl, S⟩
end Go.Dd

namespace Go.Dd
theorem cDr {gg : Bool} (args : List DV) : SimP gg (aOt args) (aOt args) := fun h h' S v k e => by
 unfold aOt at e ⊢
 split at e <;> (try (cases e; done))
 rename_i l c
 cases hc : Nat.blt c 256 with
 | false => rw [hc] at e; cases e
 | true =>
  rw [hc] at e
  simp only [cond_true, aT, bF] at e
  obtain ⟨rfl, rfl⟩ := e
  exact ⟨h', rfl, S⟩
theorem aRb {gg : Bool} (q : Pos) (l1 : DV) (cs : List DV) : SimP gg (kI q l1 cs) (kI q l1 cs) := fun h h' S v k e => by
 unfold kI at e ⊢
 split at e <;> (try (cases e; done))
 ·simp only [aT, bF] at e ⊢
  obtain ⟨rfl, rfl⟩ := e
  exact ⟨_, ⟨by rw [S.next], rfl⟩, by rw [S.next]; exact S.setR _ _ _ _⟩
 ·rename_i b o len cap
  cases hc : (Nat.ble cap len && !(nY b q)) with
  | false => rw [hc] at e; cases e
  | true =>
   rw [hc] at e
   simp only [cnd] at e ⊢
   split at e <;> (try (cases e; done))
   rename_i es l old hb hold
   rw [S.row hb, S.cellsAt hold]
   dsimp only
   split at e <;> (try (cases e; done))
   rename_i hr
   rw [if_pos hr]
   simp only [aT, bF] at e ⊢
   obtain ⟨rfl, rfl⟩ := e
   refine ⟨_, ⟨by rw [S.next], rfl⟩, ?_⟩
   rw [S.next]
   exact (S.setR .sp (bS o l) b h.next).setR _ _ _ _
theorem aRi {gg : Bool} (c q : Pos) : SimP gg (tM c q) (tM c q) := by
 intro h h' S
 unfold tM
 refine dQn (lY _ h h' S) fun l1 _ _ _ => ?_
 refine dQn (dQj (nS l1) h h' S) fun n _ _ _ => ?_
 refine dQn (mG _ _ h h' S) fun x _ _ _ => ?_
 split
 ·refine dRh id ?_
  have S2 : Sim gg ⟨h.next.succ.succ, h.bl⟩ ⟨h'.next.succ.succ, h'.bl⟩ := ⟨by show h'.next.succ.succ = _; rw [S.next], S.get⟩
  refine dQn (aRb _ _ _ _ _ S2) fun l2 h3 h3' T3 => ?_
  exact dQn (lN _ _ _ h3 h3' T3) fun u h4 h4' T4 => SimR.some T4 _
 ·exact SimR.none _
theorem cCp {gg : Bool} (n : Nat) (f : FuncId) (args : List DV) : SimP gg (mZ CF0 n f args) (mZ CF0 n f args) :=
 bRz (gg := gg) (P := Go.Proofs.Tryz.prog) (I2 := fun _ => none) (I1 := fun _ => none) 0 (fun _ _ => rfl) (fun _ _ h => by cases h) n f args
theorem cJh {gg : Bool} (args : List DV) : SimP gg (aRl args) (aRl args) := by
 unfold aRl
 intro h h' S
 split
 ·rename_i c lit
  dsimp only
  rw [show h'.next = h.next from S.next]
  refine dQn (aIp _ h h' S) fun b h1 h1' T1 => ?_
  refine dQn (lY _ h1 h1' T1) fun ls h2 h2' T2 => ?_
  refine dQn (cCp _ _ _ h2 h2' T2) fun i h3 h3' T3 => ?_
  refine dQn (dQj (yQ _ _ _) h3 h3' T3) fun t h4 h4' T4 => ?_
  exact aJe (aRi _ _ h4 h4' T4) (SimR.some T4 _)
 ·exact SimR.none _
theorem aCt {C : Cfg} {rec : FuncId → List DV → Hp → aG} {g : FuncId} (h : C.I g = none) (args : List DV) : cA C rec g args = rec g args := by
 funext k
 unfold cA
 rw [h]
theorem bRw {gg : Bool} (args : List DV) : SimP gg (aDo args) (aDo args) := fun h h' S v k e => by
 unfold aDo at e ⊢
 split at e <;> (try (cases e; done))
 rename_i s c new
 cases hc : Nat.blt c 256 with
 | false => rw [hc] at e; cases e
 | true =>
 rw [hc] at e
 cases hc2 : Nat.ble s.length 4000000000 with
 | false => rw [hc2] at e; cases e
 | true =>
 rw [hc2] at e
 cases hc3 : Nat.ble new.length 1000 with
 | false => rw [hc3] at e; cases e
 | true =>
  rw [hc3] at e
  simp only [cond_true, aT, bF] at e
  obtain ⟨rfl, rfl⟩ := e
  exact ⟨h', by simp only [hc3, cond_true], S⟩
theorem bWh {gg : Bool} (args : List DV) : SimP gg (kR args) (kR args) := fun h h' S v k e => by
 unfold kR at e ⊢
 split at e <;> (try (cases e; done))
 rename_i n
 cases hc : (decide (-9223372036854775808 ≤ n) && decide (n ≤ 9223372036854775807)) with
 | false => rw [hc] at e; cases e
 | true =>
  rw [hc] at e
  simp only [cond_true, aT, bF] at e
  obtain ⟨rfl, rfl⟩ := e
  exact ⟨h', by simp only [hc, cond_true], S⟩
theorem cEq {gg : Bool} (args : List DV) : SimP gg (uG args) (uG args) := fun h h' S v k e => by
 unfold uG at e ⊢
 split at e <;> (try (cases e; done))
 rename_i s c
 cases hc : Nat.blt c 256 with
 | false => rw [hc] at e; cases e
 | true =>
 cases hc2 : Nat.ble s.length 4000000000 with
 | false => rw [hc, hc2] at e; cases e
 | true =>
 cases hq : fK c s with
 | none =>
  rw [hc, hc2, hq] at e
  simp only [cond_true, aT, bF] at e
  obtain ⟨rfl, rfl⟩ := e
  exact ⟨h', by simp only [hc2, hq, cond_true], S⟩
 | some p =>
  obtain ⟨a, r⟩ := p
  rw [hc, hc2, hq] at e
  simp only [cond_true, aT, bF] at e
  obtain ⟨rfl, rfl⟩ := e
  exact ⟨h', by simp only [hc2, hq, cond_true], S⟩
theorem aPe {gg : Bool} (args : List DV) : SimP gg (gK args) (gK args) := fun h h' S v k e => by
 unfold gK at e ⊢
 split at e <;> (try (cases e; done))
 rename_i s
 cases hc2 : Nat.ble s.length 4000000000 with
 | false => rw [hc2] at e; cases e
 | true =>
 cases hq : eO s with
 | none =>
  rw [hc2, hq] at e
  simp only [cond_true, aT, bF] at e
  obtain ⟨rfl, rfl⟩ := e
  exact ⟨h', by simp only [hq, cond_true], S⟩
 | some n =>
  rw [hc2, hq] at e
  simp only [cond_true, aT, bF] at e
  obtain ⟨rfl, rfl⟩ := e
  exact ⟨h', by simp only [hq, cond_true], S⟩
theorem aSj {gg : Bool} (args : List DV) : SimP gg (iZ args) (iZ args) := fun h h' S v k e => by
 unfold iZ at e ⊢
 split at e <;> (try (cases e; done))
 rename_i s
 cases hc2 : Nat.ble s.length 100000 with
 | false => rw [hc2] at e; cases e
 | true =>
  rw [hc2] at e
  simp only [cond_true, aT, bF] at e
  obtain ⟨rfl, rfl⟩ := e
  exact ⟨h', by simp only [cond_true], S⟩
theorem bFt {gg : Bool} (args : List DV) : SimP gg (mV args) (mV args) := fun h h' S v k e => by
 unfold mV at e ⊢
 split at e <;> (try (cases e; done))
 rename_i s c
 cases hc : Nat.blt c 256 with
 | false => rw [hc] at e; cases e
 | true =>
 cases hc2 : Nat.ble s.length 4000000000 with
 | false => rw [hc, hc2] at e; cases e
 | true =>
  rw [hc, hc2] at e
  simp only [cond_true, aT, bF] at e
  obtain ⟨rfl, rfl⟩ := e
  exact ⟨⟨h.next.succ, Tr.set (.row .ex ((bM c s).map DV.s)) h.next h'.bl⟩, by simp only [hc2, cond_true, S.next], S.setR _ _ _ _⟩
theorem bIt {gg : Bool} (args : List DV) : SimP gg (rN args) (rN args) := fun h h' S v k e => by
 unfold rN at e ⊢
 split at e <;> (try (cases e; done))
 rename_i x sep _
 split at e <;> (try (cases e; done))
 rename_i n cells hs
 rw [S.src hs]
 cases hq : pA cells with
 | none => rw [hq] at e; cases e
 | some l =>
 rw [hq] at e
 dsimp only at e ⊢
 cases c1 : Nat.ble (jP sep l).length 100000000000 with
 | false => rw [c1] at e; cases e
 | true =>
 cases c2 : (Nat.ble n 100000000000 && bUi x) with
 | false => rw [c1, c2] at e; cases e
 | true =>
  rw [c1, c2] at e
  simp only [cond_true, aT, bF] at e
  obtain ⟨rfl, rfl⟩ := e
  exact ⟨h', by simp only [hq, c1, cond_true], S⟩
theorem aEj {gg : Bool} {g : FuncId} {F : List DV → Hp → aG} (hg : qN g = some F) (args : List DV) : SimP gg (F args) (F args) := by
 unfold qN at hg
 cases h1 : Nat.beq g 68 with
 | true => rw [h1] at hg; cases hg; exact cDr args
 | false =>
 cases h2 : Nat.beq g 351 with
 | true => rw [h1, h2] at hg; cases hg; exact cJh args
 | false =>
 cases h3 : Nat.beq g 24 with
 | true => rw [h1, h2, h3] at hg; cases hg; exact bWh args
 | false =>
 cases h4 : Nat.beq g 235 with
 | true => rw [h1, h2, h3, h4] at hg; cases hg; exact bRw args
 | false =>
 cases h5 : Nat.beq g 23 with
 | true => rw [h1, h2, h3, h4, h5] at hg; cases hg; exact bIt args
 | false =>
 cases h6 : Nat.beq g 32 with
 | true => rw [h1, h2, h3, h4, h5, h6] at hg; cases hg; exact bFt args
 | false =>
 cases h7 : Nat.beq g 33 with
 | true => rw [h1, h2, h3, h4, h5, h6, h7] at hg; cases hg; exact cEq args
 | false =>
 cases h8 : Nat.beq g 74 with
 | true => rw [h1, h2, h3, h4, h5, h6, h7, h8] at hg; cases hg; exact aPe args
 | false =>
 cases h9 : Nat.beq g 25 with
 | true => rw [h1, h2, h3, h4, h5, h6, h7, h8, h9] at hg; cases hg; exact aSj args
 | false =>
 rw [h1, h2, h3, h4, h5, h6, h7, h8, h9] at hg
 cases hg
theorem aLm {g : FuncId} (hg : CF.I g = none) : qN g = none ∧ aDw g = none := by
 change orI (qN g) (aDw g) = none at hg
 cases h : qN g with
 | none => rw [h] at hg; exact ⟨rfl, hg⟩
 | some F => rw [h] at hg; cases hg
theorem aAj {g : FuncId} {F : List DV → Hp → aG} (hg : CF.I g = some F) : qN g = some F ∨ (qN g = none ∧ aDw g = some F) := by
 change orI (qN g) (aDw g) = some F at hg
 cases h : qN g with
 | none => rw [h] at hg; exact .inr ⟨rfl, hg⟩
 | some F' => rw [h] at hg; cases hg; exact .inl rfl
theorem aLu (g : FuncId) (F : List DV → Hp → aG) (hg : aDw g = some F) (n : Nat) (args : List DV) : SimP false (F args) (fP CF1 (n + 12) g args) := by
 unfold aDw at hg
 have hb : ∀ k, Nat.beq g k = true → g = k := fun k h => Nat.eq_of_beq_eq_true h
 cases h1 : Nat.beq g 132 with
 | true => rw [h1] at hg; cases hg; rw [hb _ h1]; exact cFk n args
 | false =>
 cases h2 : Nat.beq g 196 with
 | true => rw [h1, h2] at hg; cases hg; rw [hb _ h2]; exact cQk n args
 | false =>
 cases h3 : Nat.beq g 108 with
 | true => rw [h1, h2, h3] at hg; cases hg; rw [hb _ h3]; exact bUq n args
 | false =>
 cases h4 : Nat.beq g 126 with
 | true => rw [h1, h2, h3, h4] at hg; cases hg; rw [hb _ h4]; exact bKi n args
 | false =>
 cases h5 : Nat.beq g 77 with
 | true => rw [h1, h2, h3, h4, h5] at hg; cases hg; rw [hb _ h5]; exact bQp n args
 | false =>
 cases h6 : Nat.beq g 76 with
 | true => rw [h1, h2, h3, h4, h5, h6] at hg; cases hg; rw [hb _ h6]; exact aPn n args
 | false =>
 cases h7 : Nat.beq g 80 with
 | true => rw [h1, h2, h3, h4, h5, h6, h7] at hg; cases hg; rw [hb _ h7]; exact aHk n args
 | false =>
 cases h8 : Nat.beq g 84 with
 | true => rw [h1, h2, h3, h4, h5, h6, h7, h8] at hg; cases hg; rw [hb _ h8]; exact cJm n args
 | false =>
 cases h9 : Nat.beq g 243 with
 | true => rw [h1, h2, h3, h4, h5, h6, h7, h8, h9] at hg; cases hg; rw [hb _ h9]; exact bFc n args
 | false =>
 cases h10 : Nat.beq g 136 with
 | true => rw [h1, h2, h3, h4, h5, h6, h7, h8, h9, h10] at hg; cases hg; rw [hb _ h10]; exact aUr n args
 | false =>
 cases h11 : Nat.beq g 201 with
 | true => rw [h1, h2, h3, h4, h5, h6, h7, h8, h9, h10, h11] at hg; cases hg; rw [hb _ h11]; exact aUf n args
 | false =>
 cases h12 : Nat.beq g 200 with
 | true => rw [h1, h2, h3, h4, h5, h6, h7, h8, h9, h10, h11, h12] at hg; cases hg; rw [hb _ h12]; exact aOl n args
 | false =>
 cases h13 : Nat.beq g 134 with
 | true => rw [h1, h2, h3, h4, h5, h6, h7, h8, h9, h10, h11, h12, h13] at hg; cases hg; rw [hb _ h13]; exact bHe n args
 | false =>
 cases h14 : Nat.beq g 216 with
 | true => rw [h1, h2, h3, h4, h5, h6, h7, h8, h9, h10, h11, h12, h13, h14] at hg; cases hg; rw [hb _ h14]; exact bFy n args
 | false =>
 cases h15 : Nat.beq g 245 with
 | true => rw [h1, h2, h3, h4, h5, h6, h7, h8, h9, h10, h11, h12, h13, h14, h15] at hg; cases hg; rw [hb _ h15]; exact cDt n args
 | false => rw [h1, h2, h3, h4, h5, h6, h7, h8, h9, h10, h11, h12, h13, h14, h15] at hg; cases hg
theorem aRz (n : Nat) (f : FuncId) (args : List DV) : SimP false (fP CF n f args) (fP CF1 (n + 12) f args) := by
 have key := aGq (I := itm) (q := rgB) (gg := false) (P := Go.Proofs.Tryz.prog) (I2 := CF.I) (I1 := CF1.I) 12 (fun g hg => (aLm hg).1) (fun g F hg n args => by
  have hcall : cA ⟨Go.Proofs.Tryz.prog, CF1.I⟩ (fP ⟨Go.Proofs.Tryz.prog, CF1.I⟩ (n + 12)) g args = fun h => match qN g with
   | some F => F args h
   | none => fP ⟨Go.Proofs.Tryz.prog, CF1.I⟩ (n + 12) g args h := rfl
  rw [hcall]
  rcases aAj hg with h1 | ⟨h1, h2⟩
  ·rw [h1]; exact aEj h1 args
  ·rw [h1]; exact aLu g F h2 n args) n f args
 exact key
end Go.Dd

namespace Go.Dd
open Go.Proofs
theorem aCs {m : Pos} {M : MemV} {h h' : Hp} (S : Sim true h h') (hm : sP m h = some M) : sP m h' = some M := by
 have hget : ∀ b o, h.bl.get b = some o → h'.bl.get b = some o := fun b o hb => by
  obtain ⟨o', h1, h2⟩ := S.get b o hb
  rw [h1, kY h2]
 unfold sP at hm ⊢
 split at hm <;> (try (cases hm; done))
 rename_i wb n c fin made pb hr
 split at hm <;> (try (cases hm; done))
 rename_i n' t pl h1 h2
 simp only [hget _ _ hr, hget _ _ h1, hget _ _ h2]
 exact hm
theorem fJ {args : List DV} {k : Hp → MemV → List DV → aG} (hk : ∀ M r, SimP true (fun h => k h M r) (fun h => k h M r)) : SimP true (fun h => sD args h (k h)) (fun h => sD args h (k h)) := fun h h' S v g e => by
 obtain ⟨m, rest, M, rfl, hM, e⟩ := eT e
 obtain ⟨g', e1, e2⟩ := hk M rest h h' S v g e
 refine ⟨g', ?_, e2⟩
 show (match sP m h' with
  | some M => k h' M rest
  | none => none) = some (v, g')
 rw [aCs S hM]
 exact e1
theorem mT {M : MemV} {o : Int} {k k' : Nat → aG} (h : ∀ n, SimR true (k n) (k' n)) : SimR true (nC M o k) (nC M o k') := by
 unfold nC
 cases Nat.blt (Nat.add (gN o M.pl) 1) M.n with
 | false => exact SimR.none _
 | true =>
  simp only [cond_true]
  cases M.t.get (gN o M.pl) with
  | negSucc a => exact SimR.none _
  | ofNat hd =>
   dsimp only
   cases Nat.blt hd 1000000000000 with
   | false => exact SimR.none _
   | true => exact h hd
theorem uY {M : MemV} {o i : Int} {b b' : Nat → aG} {k k' : Nat → Nat → aG} (hb : ∀ n, SimR true (b n) (b' n)) (h : ∀ n m, SimR true (k n m) (k' n m)) : SimR true (lG M o i b k) (lG M o i b' k') := by
 unfold lG
 cases Nat.beq (gN o M.pl) 0 with
 | true => exact hb 1
 | false =>
  simp only [cond_false]
  cases i with
  | negSucc i => exact hb 5
  | ofNat i =>
   dsimp only
   refine mT fun hd => ?_
   cases Nat.ble (Nat.div hd 4) i with
   | true => exact hb 5
   | false =>
    simp only [cond_false]
    cases Nat.blt (Nat.add (Nat.add (gN o M.pl) 3) i) M.n with
    | false => exact SimR.none _
    | true => exact h _ _
theorem kF {h h' : Hp} (S : Sim true h h') (o : Ob) (b n : Pos) : Sim true ⟨n, Tr.set o b h.bl⟩ ⟨n, Tr.set o b h'.bl⟩ := S.set (lQ o) b n
theorem oU {M : MemV} {a : Nat} {w : Int} : SimP true (rE M a w) (rE M a w) := fun h h' S v g e => by
 simp only [rE, aT, bF] at e ⊢
 obtain ⟨rfl, rfl⟩ := e
 exact ⟨_, ⟨rfl, rfl⟩, by rw [S.next]; exact kF S _ _ _⟩
theorem bWk (g : FuncId) (F : List DV → Hp → aG) (hg : aDw g = some F) (args : List DV) : SimP true (F args) (F args) := by
 have hmay : SimP true (bNs args) (bNs args) := fJ (k := fun h M r => match r with
  | [.i .i64 w] => some (.b (aEn w M.pl), h)
  | _ => none) fun M r h h' S => by dsimp only; split <;> first | exact SimR.some S _ | exact SimR.none _
 have his : SimP true (isF args) (isF args) := fJ (k := fun h M r => match r with
  | [.i .i64 w] => some (.b (!(Nat.beq (gN w M.pl) 0)), h)
  | _ => none) fun M r h h' S => by dsimp only; split <;> first | exact SimR.some S _ | exact SimR.none _
 have hsize : SimP true (aNz args) (aNz args) := fJ (k := fun h M r => match r with
  | [] => some (.i .i64 (.ofNat M.n), h)
  | _ => none) fun M r h h' S => by dsimp only; split <;> first | exact SimR.some S _ | exact SimR.none _
 have hroom : SimP true (bBf args) (bBf args) := fJ (k := fun h M r => match r with
  | [] => some (.i .i64 (.ofNat (Nat.sub M.n M.fin)), h)
  | _ => none) fun M r h h' S => by dsimp only; split <;> first | exact SimR.some S _ | exact SimR.none _
 have hclass : SimP true (tS args) (tS args) := fJ (k := fun h M r => match r with
  | [.i .i64 o] => nC M o fun _ => some (.i .i64 (M.t.get (Nat.add (gN o M.pl) 1)), h)
  | _ => none) fun M r h h' S => by dsimp only; split <;> first | exact mT (fun _ => SimR.some S _) | exact SimR.none _
 have hformat : SimP true (xC args) (xC args) := fJ (k := fun h M r => match r with
  | [.i .i64 o] => nC M o fun hd => some (.i .i64 (.ofNat (Nat.mod hd 4)), h)
  | _ => none) fun M r h h' S => by dsimp only; split <;> first | exact mT (fun _ => SimR.some S _) | exact SimR.none _
 have hfields : SimP true (rQ args) (rQ args) := fJ (k := fun h M r => match r with
  | [.i .i64 o] => nC M o fun hd => some (.i .i64 (.ofNat (Nat.div hd 4)), h)
  | _ => none) fun M r h h' S => by dsimp only; split <;> first | exact mT (fun _ => SimR.some S _) | exact SimR.none _
 have hget : SimP true (bLw args) (bLw args) := fJ (k := fun h M r => match r with
  | [.i .i64 o, .i .i64 i] => lG M o i (fun e => err e h) fun _ a => some (.t [.i .i64 (M.t.get a), .i .i64 (.ofNat 0)], h)
  | _ => none) fun M r h h' S => by dsimp only; split <;> first | exact uY (fun _ => SimR.some S _) (fun _ _ => SimR.some S _) | exact SimR.none _
 have hput : SimP true (aOb args) (aOb args) := fJ (k := fun h M r => match r with
  | [.i .i64 o, .i .i64 i, .i .i64 w] => lG M o i (fun e => some (.i .i64 (.ofNat e), h)) fun hd a =>
   match Nat.mod hd 4 with
   | 0 => bif aEn w M.pl then rE M a w h else some (.i .i64 (.ofNat 6), h)
   | 2 => (match w with
    | .ofNat c => bif Nat.ble c 255 then rE M a w h else some (.i .i64 (.ofNat 6), h)
    | .negSucc _ => some (.i .i64 (.ofNat 6), h))
   | _ => rE M a w h
  | _ => none) fun M r h h' S => by
   dsimp only
   split
   ·rename_i o i w
    refine uY (fun _ => SimR.some S _) fun hd a => ?_
    split
    ·cases aEn w M.pl with
     | true => exact oU h h' S
     | false => exact SimR.some S _
    ·cases w with
     | negSucc c => exact SimR.some S _
     | ofNat c =>
      dsimp only
      cases Nat.ble c 255 with
      | true => exact oU h h' S
      | false => exact SimR.some S _
    ·exact oU h h' S
   ·exact SimR.none _
 have hsetc : SimP true (lZ args) (lZ args) := fJ (k := fun h M r => match r with
  | [.i .i64 o, .i .i64 c] => bif Nat.beq (gN o M.pl) 0 || !(aCb c M.pl) then some (.i .i64 (.ofNat 1), h) else
   (bif Nat.blt (Nat.add (gN o M.pl) 1) M.n then rE M (Nat.add (gN o M.pl) 1) c h else none)
  | _ => none) fun M r h h' S => by
   dsimp only
   split
   ·rename_i o c
    cases Nat.beq (gN o M.pl) 0 || !(aCb c M.pl) with
    | true => exact SimR.some S _
    | false =>
     simp only [cond_false]
     cases Nat.blt (Nat.add (gN o M.pl) 1) M.n with
     | true => exact oU h h' S
     | false => exact SimR.none _
   ·exact SimR.none _
 have hmake : SimP true (vF args) (vF args) := fun h h' S => by
  unfold vF
  split
  ·rename_i m cls fmt cnt
   intro v g e
   split at e
   ·cases e
   ·rename_i M hM
    rw [aCs S hM]
    dsimp only
    revert e
    have herr : ∀ n, SimR true (err n h) (err n h') := fun n => SimR.some S _
    suffices hs : SimR true _ _ from fun e => hs v g e
    cases !(aCb cls M.pl) with
    | true => exact herr 1
    | false =>
     simp only [cond_false]
     cases fmt with
     | negSucc f => exact herr 1
     | ofNat f =>
      cases cnt with
      | negSucc c => exact herr 1
      | ofNat c =>
       dsimp only
       cases Nat.ble f 2 && Nat.ble c 256 with
       | false => exact herr 1
       | true =>
        simp only [cond_true]
        cases Nat.blt (Nat.sub M.n M.fin) (Nat.add c 3) with
        | true => exact herr 4
        | false =>
         simp only [cond_false]
         cases Nat.ble 3 M.fin && Nat.ble M.fin 131072 with
         | false => exact SimR.none _
         | true =>
          simp only [cond_true]
          intro v g e
          simp only [aT, bF] at e ⊢
          obtain ⟨rfl, rfl⟩ := e
          refine ⟨_, ⟨rfl, rfl⟩, ?_⟩
          rw [S.next]
          exact kF (kF (kF S _ _ h.next) _ _ h.next) _ _ h.next
  ·exact SimR.none _
 have hnew : SimP true (aRh args) (aRh args) := fun h h' S => by
  unfold aRh
  split
  ·rename_i n
   cases Nat.blt n 16 || Nat.blt 131072 n with
   | true => exact SimR.some S _
   | false =>
    simp only [cond_false]
    intro v g e
    simp only [aT, bF] at e ⊢
    obtain ⟨rfl, rfl⟩ := e
    rw [S.next]
    exact ⟨_, ⟨rfl, rfl⟩, kF (kF (kF S _ _ h.next) _ _ h.next) _ _ _⟩
  ·exact SimR.some S _
  ·exact SimR.none _
 have hpure : ∀ F : Hp → aG, (∀ h h', Sim true h h' → SimR true (F h) (F h')) → SimP true F F := fun F hF => hF
 have hsm : SimP true (kK args) (kK args) := fun h h' S => by unfold kK; split <;> first | exact SimR.some S _ | exact SimR.none _
 have hva : SimP true (uJ args) (uJ args) := fun h h' S => by
  unfold uJ
  split
  ·rename_i w
   cases iP w <;> exact SimR.some S _
  ·exact SimR.none _
 have hsl : SimP true (qS args) (qS args) := fun h h' S => by
  unfold qS
  split
  ·rename_i n; cases Nat.blt n 1073741824 <;> exact SimR.some S _
  ·rename_i n; cases Nat.blt n 1073741824 <;> exact SimR.some S _
  ·exact SimR.none _
 unfold aDw at hg
 cases h1 : Nat.beq g 132 with
 | true => rw [h1] at hg; cases hg; exact hmay
 | false =>
 cases h2 : Nat.beq g 196 with
 | true => rw [h1, h2] at hg; cases hg; exact his
 | false =>
 cases h3 : Nat.beq g 108 with
 | true => rw [h1, h2, h3] at hg; cases hg; exact hsize
 | false =>
 cases h4 : Nat.beq g 126 with
 | true => rw [h1, h2, h3, h4] at hg; cases hg; exact hroom
 | false =>
 cases h5 : Nat.beq g 77 with
 | true => rw [h1, h2, h3, h4, h5] at hg; cases hg; exact hmake
 | false =>
 cases h6 : Nat.beq g 76 with
 | true => rw [h1, h2, h3, h4, h5, h6] at hg; cases hg; exact hnew
 | false =>
 cases h7 : Nat.beq g 80 with
 | true => rw [h1, h2, h3, h4, h5, h6, h7] at hg; cases hg; exact hsetc
 | false =>
 cases h8 : Nat.beq g 84 with
 | true => rw [h1, h2, h3, h4, h5, h6, h7, h8] at hg; cases hg; exact hput
 | false =>
 cases h9 : Nat.beq g 243 with
 | true => rw [h1, h2, h3, h4, h5, h6, h7, h8, h9] at hg; cases hg; exact hclass
 | false =>
 cases h10 : Nat.beq g 136 with
 | true => rw [h1, h2, h3, h4, h5, h6, h7, h8, h9, h10] at hg; cases hg; exact hformat
 | false =>
 cases h11 : Nat.beq g 201 with
 | true => rw [h1, h2, h3, h4, h5, h6, h7, h8, h9, h10, h11] at hg; cases hg; exact hfields
 | false =>
 cases h12 : Nat.beq g 200 with
 | true => rw [h1, h2, h3, h4, h5, h6, h7, h8, h9, h10, h11, h12] at hg; cases hg; exact hsm
 | false =>
 cases h13 : Nat.beq g 134 with
 | true => rw [h1, h2, h3, h4, h5, h6, h7, h8, h9, h10, h11, h12, h13] at hg; cases hg; exact hsl
 | false =>
 cases h14 : Nat.beq g 216 with
 | true => rw [h1, h2, h3, h4, h5, h6, h7, h8, h9, h10, h11, h12, h13, h14] at hg; cases hg; exact hva
 | false =>
 cases h15 : Nat.beq g 245 with
 | true => rw [h1, h2, h3, h4, h5, h6, h7, h8, h9, h10, h11, h12, h13, h14, h15] at hg; cases hg; exact hget
 | false => rw [h1, h2, h3, h4, h5, h6, h7, h8, h9, h10, h11, h12, h13, h14, h15] at hg; cases hg
theorem aMg (g : FuncId) (F : List DV → Hp → aG) (hg : CF.I g = some F) (args : List DV) : SimP true (F args) (F args) := by
 rcases aAj hg with h1 | ⟨_, h2⟩
 ·exact aEj h1 args
 ·exact bWk g F h2 args
theorem bFv (n : Nat) (f : FuncId) (args : List DV) : SimP true (dA n f args) (dA n f args) := by
 rw [aAm]
 exact aGq (I := itm) (q := rgB) (gg := true) (P := Tryz.prog) (I2 := CF.I) (I1 := CF.I) 0 (fun g h => h) (fun g F hg n args => by
  have : cA ⟨Tryz.prog, CF.I⟩ (fP ⟨Tryz.prog, CF.I⟩ (n + 0)) g args = F args := by
   funext h
   unfold cA
   rw [show (⟨Tryz.prog, CF.I⟩ : Cfg).I g = some F from hg]
  rw [this]
  exact aMg g F hg args) n f args
theorem bGc (n : Nat) (g : FuncId) (args : List DV) : SimP true (cA CF (dA n) g args) (cA CF (dA n) g args) := by
 unfold cA
 cases hg : CF.I g with
 | none => exact bFv n g args
 | some F => exact aMg g F hg args
end Go.Dd

namespace Go.Dd
open Go.Proofs
abbrev K4T := DV → DV → DV → DV → Hp → aG
noncomputable abbrev R9 : RT := dA 899
noncomputable def XL : Nat → K := xs x0 7 (fun env h => fG R9 899 (env 5) h)
noncomputable def krN : K := aQ CF Tryz.f55
noncomputable def bRo : Code := cL (cL (cR (cL (cR (cR (cR (cR (cR (cR (cf Tryz.f55))))))))))
noncomputable def kb (kk : K4T) : K := fun env h => kk (env 5) (env 155) (env 156) (env 157) h
noncomputable def aMa (a b c d : DV) : bC := fun t => bif Nat.beq t 5 then a else bif Nat.beq t 155 then b else bif Nat.beq t 156 then c else bif Nat.beq t 157 then d else .u
theorem aKm (kk : K4T) (a b c d : DV) (h : Hp) : lI R9 899 kk a b c d h = aM CF R9 179 899 bRo XL krN (kb kk) (aMa a b c d) h :=
 (congrFun (congrFun (aZo R9 899 kk) (aMa a b c d)) h).symm
theorem aSr (e : bC) (h : Hp) : krN e h = some (.t [e 2, e 3], h) := by kernel_rfl
def dNo (r : aG) : Prop := ∃ a b c d h, r = some (.t [a, b, c, d], h)
theorem bRc (a b c d : DV) (h : Hp) : (∃ a' b' c' d' h', ∀ kk : K4T, lI R9 899 kk a b c d h = kk a' b' c' d' h') ∨ (∃ r, ¬ dNo r ∧ ∀ kk : K4T, lI R9 899 kk a b c d h = r) := by
 obtain ⟨O, hO⟩ := aLy (C := CF) (rec := R9) (nt := 179) 899 bRo
 have key : ∀ kk : K4T, lI R9 899 kk a b c d h = dRs (O (aMa a b c d) h) XL krN (kb kk) := fun kk => (aKm kk a b c d h).trans (hO _ _ _ _ _)
 cases ho : O (aMa a b c d) h with
 | none => exact .inr ⟨none, (by rintro ⟨_, _, _, _, _, e⟩; cases e), fun kk => by rw [key kk, ho]; rfl⟩
 | some o =>
  cases o with
  | n e h' => exact .inl ⟨e 5, e 155, e 156, e 157, h', fun kk => by rw [key kk, ho]; rfl⟩
  | r e h' => exact .inr ⟨some (.t [e 2, e 3], h'), (by rintro ⟨_, _, _, _, _, q⟩; cases q), fun kk => by rw [key kk, ho]; exact aSr e h'⟩
  | x i e h' =>
   refine .inr ⟨XL i e h', ?_, fun kk => by rw [key kk, ho]; rfl⟩
   rintro ⟨_, _, _, _, _, q⟩
   unfold XL xs at q
   cases hi : Nat.beq i 7 with
   | true => rw [hi] at q; cases q
   | false => rw [hi] at q; cases q
theorem yJ (n : Nat) (kk : K4T) : itN (n + 1) kk = lI R9 899 (itN n kk) := rfl
theorem bSa : ∀ (n : Nat) (a b c d : DV) (h : Hp) (a' b' c' d' : DV) (h' : Hp), itN n bOa a b c d h = some (.t [a', b', c', d'], h') → ∀ kk : K4T, itN n kk a b c d h = kk a' b' c' d' h'
 | 0, a, b, c, d, h, a', b', c', d', h', e, kk => by
  have e' : (some (.t [a, b, c, d], h) : aG) = some (.t [a', b', c', d'], h') := e
  simp only [aT, bF, DV.t.injEq, List.cons.injEq, and_true] at e'
  obtain ⟨⟨rfl, rfl, rfl, rfl⟩, rfl⟩ := e'
  rfl
 | n + 1, a, b, c, d, h, a', b', c', d', h', e, kk => by
  rw [yJ] at e ⊢
  rcases bRc a b c d h with ⟨a1, b1, c1, d1, h1, hs⟩ | ⟨r, hr, hs⟩
  ·rw [hs] at e ⊢
   exact bSa n a1 b1 c1 d1 h1 a' b' c' d' h' e kk
  ·rw [hs] at e
   exact absurd ⟨_, _, _, _, _, e⟩ hr
theorem bTt (kk : K4T) (hk : ∀ a b c d, SimP true (kk a b c d) (kk a b c d)) : ∀ (n : Nat) (a b c d : DV), SimP true (itN n kk a b c d) (itN n kk a b c d)
 | 0, a, b, c, d => hk a b c d
 | n + 1, a, b, c, d => by
  have ih := bTt kk hk n
  rw [yJ]
  have hX : ∀ j, SimK true (XL j) (XL j) := by
   intro j env h h' S
   unfold XL xs
   cases Nat.beq j 7 with
   | true => exact SimR.some S _
   | false => exact SimR.none _
  have hR : SimK true krN krN := fun env h h' S => by rw [aSr, aSr]; exact SimR.some S _
  have hK : SimK true (kb (itN n kk)) (kb (itN n kk)) := fun env => ih _ _ _ _
  have hc := gH (gg := true) (P := Tryz.prog) (I2 := CF.I) (I1 := CF.I) (rec2 := R9) (rec1 := R9) (fun g args => bGc 899 g args) 179 899 0 bRo XL XL krN krN (kb (itN n kk)) (kb (itN n kk)) hX hR hK (aMa a b c d)
  intro h h' S
  rw [aKm, aKm]
  exact hc h h' S
theorem yY (m : Nat) : ∀ n, lK R9 899 (m + n) = itN n (lK R9 899 m)
 | 0 => rfl
 | n + 1 => by
  rw [yJ, ← yY m n]
  rfl
theorem kQ {k n nx nx' : Nat} {L L' : List (Pos × Ob)} (hc : mJ (oX k n (jH nx L)) (mC (k + n)) nx' L' = true) (m : Nat) {h : Hp} (S : Sim true (jH nx L) h) :
  ∃ h', Sim true (jH nx' L') h' ∧ lK R9 899 (m + n) (.p (cV 7) 0) (.l (cV 431) 0 75 75) (.i .i64 (.ofNat 75)) (.i .i64 (.ofNat k)) h =
   lK R9 899 m (.p (cV 7) 0) (.l (cV 431) 0 75 75) (.i .i64 (.ofNat 75)) (.i .i64 (.ofNat (k + n))) h' := by
 obtain ⟨g, e1, e2⟩ := bBt hc
 obtain ⟨g', f1, f2⟩ := bTt bOa (fun a b c d h h' S => SimR.some S _) n _ _ _ _ (jH nx L) h S _ _ e1
 refine ⟨g', e2.trans f2, ?_⟩
 rw [yY]
 exact bSa n _ _ _ _ _ _ _ _ _ _ f1 _
theorem bDx (k : K) : aM CF R9 179 899 (cf Tryz.f55) x0 krN k = aM CF R9 179 899 cCz x0 krN (aM CF R9 179 899 bKu x0 krN (aM CF R9 179 899 dFp x0 krN k)) := by kernel_rfl
theorem cPz : aM CF R9 179 899 dFp x0 krN krN = fun env h => fG R9 899 (env 5) h := bHz R9 899
theorem cGa : aM CF R9 179 899 bKu x0 krN (fun env h => fG R9 899 (env 5) h) = fun env h => aXs R9 899 (env 5) (env 155) (env 156) (env 157) h :=
 (by kernel_rfl : aM CF R9 179 899 bKu x0 krN (fun env h => fG R9 899 (env 5) h) = D55 R9 899 (cL (cR (cL (cR (cR (cR (cR (cR (cR (cf Tryz.f55)))))))))) (xs x0 7 (fun (env : bC) (h : Hp) => fG R9 899 (env 5) h)) (fun (env : bC) (h : Hp) => fG R9 899 (env 5) h)).trans (bXn R9 899)
theorem cUe (x : DV) (h : Hp) : aF CF R9 899 55 [x] h = aM CF R9 179 899 (cf Tryz.f55) x0 krN krN (aI [x]) h := by kernel_rfl
theorem cEr : ∃ e h', Sim true (jH 432 (oK 30000 553 84 18 [1076, 1096, 6, 24, 42, 60, 78, 96, 114, 132, 150, 168, 186, 204, 222, 240, 258, 276] [(10, 0), (19, 0), (46, 0), (55, 0), (64, 0), (91, 0), (100, 0), (109, 0), (118, 0), (127, 0), (145, 0)] 0)) h' ∧ e 5 = .p (cV 7) 0 ∧ e 155 = .l (cV 431) 0 75 75 ∧ e 156 = .i .i64 (.ofNat 75) ∧ e 157 = .i .i64 (.ofNat 0) ∧
  ∀ X kr k, aM CF R9 179 899 cCz X kr k (aI [.i .i64 (.ofNat 30000)]) hS = k e h' := by
 obtain ⟨O, hO⟩ := aLy (C := CF) (rec := R9) (nt := 179) 899 cCz
 obtain ⟨g, e1, e2⟩ := bBt he0
 have e1' : dRs (O (aI [.i .i64 (.ofNat 30000)]) hS) (fun _ _ _ => none) (fun _ _ => none) dJf = some (.t (mC 0), g) := (hO _ _ _ _ _).symm.trans e1
 cases ho : O (aI [.i .i64 (.ofNat 30000)]) hS with
 | none => rw [ho] at e1'; cases e1'
 | some o =>
  rw [ho] at e1'
  cases o with
  | x i e h' => cases e1'
  | r e h' => cases e1'
  | n e h' =>
   have q : (some (.t [e 5, e 155, e 156, e 157], h') : aG) = some (.t (mC 0), g) := e1'
   simp only [mC, aT, bF, DV.t.injEq, List.cons.injEq, and_true] at q
   obtain ⟨⟨q1, q2, q3, q4⟩, q5⟩ := q
   exact ⟨e, h', by rw [q5]; exact e2, q1, q2, q3, q4, fun X kr k => by rw [hO, ho]; rfl⟩
theorem cTh : ∃ g, dA 900 55 [.i .i64 (.ofNat 30000)] hS = some (.t [.p (cV 7) 0, .i .i64 (.ofNat 0)], g) ∧ Sim true (jH 26855 (oK 30000 4321 583 80 [8370, 1096, 6, 24, 42, 60, 78, 96, 114, 132, 150, 168, 186, 204, 222, 240, 258, 276] [] 75)) g := by
 obtain ⟨e, h0, S0, p1, p2, p3, p4, hpre⟩ := cEr
 obtain ⟨h1, S1, c1⟩ := kQ hc0 894 S0
 obtain ⟨h2, S2, c2⟩ := kQ hc5 889 S1
 obtain ⟨h3, S3, c3⟩ := kQ dKp 884 S2
 obtain ⟨h4, S4, c4⟩ := kQ dPb 879 S3
 obtain ⟨h5, S5, c5⟩ := kQ dMa 874 S4
 obtain ⟨h6, S6, c6⟩ := kQ dOb 869 S5
 obtain ⟨h7, S7, c7⟩ := kQ dNd 864 S6
 obtain ⟨h8, S8, c8⟩ := kQ dPs 859 S7
 obtain ⟨h9, S9, c9⟩ := kQ dLk 854 S8
 obtain ⟨h10, S10, c10⟩ := kQ dPz 849 S9
 obtain ⟨h11, S11, c11⟩ := kQ dKn 844 S10
 obtain ⟨h12, S12, c12⟩ := kQ dLx 839 S11
 obtain ⟨h13, S13, c13⟩ := kQ dNj 834 S12
 obtain ⟨h14, S14, c14⟩ := kQ dMf 829 S13
 obtain ⟨h15, S15, c15⟩ := kQ dPr 824 S14
 refine ⟨h15, ?_, S15⟩
 have e0 : dA 900 55 [.i .i64 (.ofNat 30000)] hS = aF CF R9 899 55 [.i .i64 (.ofNat 30000)] hS := cS 55 rfl 899 _ _
 rw [e0, cUe, bDx, cPz, cGa, hpre]
 show aXs R9 899 (e 5) (e 155) (e 156) (e 157) h0 = _
 rw [p1, p2, p3, p4]
 show lK R9 899 899 _ _ _ _ h0 = _
 refine c1.trans ?_
 refine c2.trans ?_
 refine c3.trans ?_
 refine c4.trans ?_
 refine c5.trans ?_
 refine c6.trans ?_
 refine c7.trans ?_
 refine c8.trans ?_
 refine c9.trans ?_
 refine c10.trans ?_
 refine c11.trans ?_
 refine c12.trans ?_
 refine c13.trans ?_
 refine c14.trans ?_
 refine c15.trans ?_
 rw [show (824 : Nat) = 823 + 1 from rfl]
 show lI R9 899 (lK R9 899 823) _ _ _ _ h15 = _
 unfold lI
 have hl : decide (Int.ofNat 75 < Int.ofNat 75) = false := rfl
 simp only [cH, aJ, hl, bO]
 rfl
end Go.Dd

namespace Go.Dd
open Go.Proofs
noncomputable def HLN : List (Pos × Ob) := oK 30000 4321 583 80 [8370, 1096, 6, 24, 42, 60, 78, 96, 114, 132, 150, 168, 186, 204, 222, 240, 258, 276] [] 75
noncomputable def hN : Hp := jH 26855 HLN
noncomputable def iK (l : List (Pos × Ob)) (t : Tr Ob) : Tr Ob := List.rec (motive := fun _ => Tr Ob) t (fun x _ ih => Tr.set x.2 x.1 ih) l
noncomputable def aPq (p : List DV → Bool) (v0 : DV) (nx0 : Nat) (HL : List (Pos × Ob)) (args : List DV) (h : Hp) : aG :=
 bif p args && nY h.next (cV 1) then some (v0, ⟨cV nx0, iK HL h.bl⟩) else none
noncomputable def bAq (args : List DV) : Bool := match args with
 | [.i .i64 (.ofNat m)] => Nat.beq m 30000
 | _ => false
noncomputable def cSe : List DV → Hp → aG := aPq bAq (.t [.p (cV 7) 0, .i .i64 (.ofNat 0)]) 26855 HLN
noncomputable def aOn (n : Nat) : RT := fun g args h => bif Nat.beq g 55 then cSe args h else dA n g args h
noncomputable def okB (r : aG) : Bool := match r with
 | some (.b x, _) => x
 | _ => false
noncomputable def aEb : RT := fun g args h => bif Nat.beq g 36 then s36 (aOn 900) 900 (args.getD 0 aR) h else aOn 900 g args h
noncomputable def aLv : RT := fun g args h => bif Nat.beq g 22 then s22 aEb 900 (args.getD 0 aR) (args.getD 1 aR) h else aEb g args h
theorem cWv : okB (s11 aLv 900 ⟨cWj 24 998, .e⟩) = true := by kernel_rfl
end Go.Dd

namespace Go.Dd
open Go.Proofs
section
end
end Go.Dd

namespace Go.Dd
open Go.Proofs
section
end
end Go.Dd

namespace Go.Dd
open Go.Proofs
section
end
end Go.Dd

namespace Go.Dd
open Go.Proofs
section
end
end Go.Dd

namespace Go.Dd
open Go.Proofs
end Go.Dd

namespace Go.Dd
open Go.Proofs
theorem rg0 (rec : FuncId → List DV → Hp → aG) (k : K) (env : bC) (h : Hp) : gY CF0 rec 49 (fQ (cL (cf Tryz.f351))) (fQ (cL (cf Tryz.f351))).toList k env h = (
 bnd (dB (env 1) h) fun v1 h1 =>
 k (bN (bN env (some 3) v1) (some 4) (.i .i64 (Int.ofNat 0))) h1) := by kernel_rfl
theorem rg1 (rec : FuncId → List DV → Hp → aG) (k : K) (env : bC) (h : Hp) : gY CF0 rec 49 (fQ (cL (cR (cf Tryz.f351)))) (fQ (cL (cR (cf Tryz.f351)))).toList k env h = (
 bnd (aY (env 0) h) fun v1 h1 =>
 bnd (aB 0 v1 h1) fun v2 h2 =>
 bnd (aB 4 v2 h2) fun v3 h3 =>
 bnd (aA v3 h3) fun v4 h4 =>
 bnd (rec 425 [v4, (.f 426 [] [(env 3)])] h4) fun v5 h5 =>
 k (bN (bN (bN (bN (bN (bN (bN (bN env (some 6) (env 0)) (some 7) v1) (some 8) v2) (some 9) v3) (some 10) v4) (some 11) (.f 426 [] [(env 3)])) (some 12) v5) (some 5) v5) h5) := by kernel_rfl
theorem rg2 (rec : FuncId → List DV → Hp → aG) (k : K) (env : bC) (h : Hp) : gY CF0 rec 49 (fQ (cL (cL (cR (cR (cf Tryz.f351)))))) (fQ (cL (cL (cR (cR (cf Tryz.f351)))))).toList k env h = (
 bnd (aD .lss (env 5) (.i .i64 (Int.ofNat 0)) h) fun v1 h1 =>
 k (bN (bN env (some 13) (env 5)) (some 14) v1) h1) := by kernel_rfl
theorem rg3 (rec : FuncId → List DV → Hp → aG) (k : K) (env : bC) (h : Hp) : gY CF0 rec 49 (fQ (cL (cL (cR (cL (cR (cR (cf Tryz.f351)))))))) (fQ (cL (cL (cR (cL (cR (cR (cf Tryz.f351)))))))).toList k env h = (
 bnd (aY (env 0) h) fun v1 h1 =>
 bnd (aB 0 v1 h1) fun v2 h2 =>
 bnd (aB 4 v2 h2) fun v3 h3 =>
 bnd (aA v3 h3) fun v4 h4 =>
 bnd (cQ v4 h4) fun v5 h5 =>
 k (bN (bN (bN (bN (bN (bN (bN env (some 15) (env 0)) (some 16) v1) (some 17) v2) (some 18) v3) (some 19) v4) (some 20) v5) (some 5) v5) h5) := by kernel_rfl
theorem rg5 (rec : FuncId → List DV → Hp → aG) (k : K) (env : bC) (h : Hp) : gY CF0 rec 49 (fQ (cL (cL (cR (cR (cL (cR (cL (cR (cR (cf Tryz.f351))))))))))) (fQ (cL (cL (cR (cR (cL (cR (cL (cR (cR (cf Tryz.f351))))))))))).toList k env h = (
 bnd (aY (env 0) h) fun v1 h1 =>
 bnd (aB 0 v1 h1) fun v2 h2 =>
 bnd (aB 4 v2 h2) fun v3 h3 =>
 bnd (aA v3 h3) fun v4 h4 =>
 bnd (cQ v4 h4) fun v5 h5 =>
 bnd (aN [(.i .i64 (Int.ofNat 0)), (.s []), (.i .i64 (Int.ofNat 0)), .l0] 1 [(0, 4, (.a [(.i .i64 (Int.ofNat 0)), (.s []), (.i .i64 (Int.ofNat 0)), .l0]))] h5) fun v6 h6 =>
 bnd (bK 4 56 v4 v6 h6) fun v7 h7 =>
 bnd (aY (env 0) h7) fun v8 h8 =>
 bnd (aB 0 v8 h8) fun v9 h9 =>
 bnd (aB 4 v9 h9) fun v10 h10 =>
 bnd (aH 1 v10 v7 h10) fun _ h11 =>
 k (bN (bN (bN (bN (bN (bN (bN (bN (bN (bN (bN env (some 23) (env 0)) (some 24) v1) (some 25) v2) (some 26) v3) (some 27) v4) (some 28) v5) (some 29) v6) (some 30) v7) (some 31) v8) (some 32) v9) (some 33) v10) h11) := by kernel_rfl
theorem rg6 (rec : FuncId → List DV → Hp → aG) (k : K) (env : bC) (h : Hp) : gY CF0 rec 49 (fQ (cR (cL (cR (cR (cL (cR (cL (cR (cR (cf Tryz.f351))))))))))) (fQ (cR (cL (cR (cR (cL (cR (cL (cR (cR (cf Tryz.f351))))))))))).toList k env h = (
 bnd (aK 4 (env 3) h) fun v1 h1 =>
 bnd (aE 4 (env 30) (env 28) h1) fun v2 h2 =>
 bnd (aH 4 v2 v1 h2) fun _ h3 =>
 k (bN (bN env (some 34) v1) (some 35) v2) h3) := by kernel_rfl
theorem rg7 (rec : FuncId → List DV → Hp → aG) (k : K) (env : bC) (h : Hp) : iN CF0 rec 49 (fQ (cR (cR (cR (cL (cR (cL (cR (cR (cf Tryz.f351)))))))))) k env h = (
 bnd (aY (env 0) (resv 1 h)) fun v1 h1 =>
 bnd (aB 0 v1 h1) fun v2 h2 =>
 bnd (aB 4 v2 h2) fun v3 h3 =>
 bnd (aA v3 h3) fun v4 h4 =>
 bnd (aK 4 (env 3) h4) fun v5 h5 =>
 bnd (cG (cK 0 h.next) [(.i .i64 (Int.ofNat 0)), (.s []), (.i .i64 (Int.ofNat 0)), .l0] 1 [(0, 4, v5)] h5) fun v6 h6 =>
 bnd (bK 4 56 v4 v6 h6) fun v7 h7 =>
 bnd (aY (env 0) h7) fun v8 h8 =>
 bnd (aB 0 v8 h8) fun v9 h9 =>
 bnd (aB 4 v9 h9) fun v10 h10 =>
 bnd (aH 1 v10 v7 h10) fun v11 h11 =>
 k (bN (bN (bN (bN (bN (bN (bN (bN (bN (bN (bN (bN env (some 36) (env 0)) (some 37) (env 0)) (some 38) v1) (some 39) v2) (some 40) v3) (some 41) v4) (some 42) v5) (some 43) v6) (some 44) v7) (some 45) v8) (some 46) v9) (some 47) v10) h11) := by kernel_rfl
theorem rg8 (rec : FuncId → List DV → Hp → aG) (k : K) (env : bC) (h : Hp) : gY CF0 rec 49 (fQ (cL (cR (cR (cR (cf Tryz.f351)))))) (fQ (cL (cR (cR (cR (cf Tryz.f351)))))).toList k env h = (
 k (bN (bN env (some 48) (env 5)) (some 4) (env 5)) h) := by kernel_rfl
end Go.Dd

namespace Go.Dd
open Go.Proofs
theorem HR.sub {G : Gd} {ρ : Ren} {h h' : Hp} {w : World} (S : Sim true h h') (H : HR G ρ h' w) : HR G ρ h w := by
 have hg : ∀ b o, h.bl.get b = some o → h'.bl.get b = some o := fun b o hb => by
  obtain ⟨o', h1, h2⟩ := S.get b o hb
  rw [h1, kY h2]
 have hc : ∀ b a, Claims ρ h b a → Claims ρ h' b a := fun b a ⟨k, l, L, h1, h2, h3⟩ => ⟨k, l, L, hg _ _ h1, h2, h3⟩
 have hro : ∀ b a, Claims ρ h b a → ¬ isRo h b → ¬ isRo h' b := fun b a ⟨k, l, L, h1, h2, h3⟩ hn ⟨l', hl⟩ => by
  rw [hg _ _ h1] at hl
  simp only [aT, Ob.row.injEq] at hl
  exact hn ⟨l, by rw [h1, hl.1]⟩
 exact ⟨H.gl, H.sz, by rw [← S.next]; exact H.nx, fun b a h1 ⟨l, h2⟩ => H.ro b a (hc b a h1) ⟨l, hg _ _ h2⟩, fun b o hb => H.dom b o (hg b o hb), fun b L hb => by rw [← S.next]; exact H.lt b L hb,
  fun b k l L i v h1 => H.cell b k l L i v (hg _ _ h1), fun b l L es j h1 => H.spare b l L es j (hg _ _ h1), fun b a h1 h2 => H.free b a (hc b a h1) (hro b a h1 h2),
  fun b b' a h1 h2 h3 => H.inj b b' a (hc b a h1) (hc b' a h2) (hro b a h1 h3),
  fun b l L h1 => H.ex b l L (h1.elim (fun q => .inl (hg _ _ q)) (fun q => .inr (hg _ _ q))), fun b es l i v h1 => H.grone b es l i v (hg _ _ h1),
  fun b o L h1 h2 => H.itr b o L h1 (hg _ _ h2), fun b o b' o' L L' h1 h2 h3 h4 => H.itj b o b' o' L L' h1 h2 (hg _ _ h3) (hg _ _ h4)⟩
theorem sV : ∀ p : Pos, nY p p = true
 | .h => rfl
 | .o p => sV p
 | .i p => sV p
theorem aYh {p q : Pos} (h : nY p q = false) : p ≠ q := fun e => by subst e; rw [sV] at h; cases h
open Classical in
noncomputable def kk (N : bC → Hp → Prop) : K := fun env h => if N env h then some (aR, h) else none
theorem vM {N : bC → Hp → Prop} {env : bC} {h : Hp} (hn : N env h) : ∃ r, kk N env h = some r := ⟨_, if_pos hn⟩
theorem cPm {N : bC → Hp → Prop} {env : bC} {h : Hp} {r} (hn : kk N env h = some r) : N env h := by
 unfold kk at hn
 split at hn
 ·assumption
 ·cases hn
section
variable {C : Cfg} {rec : FuncId → List DV → Hp → aG} {nt : Nat} {X : Nat → bC → Hp → Prop} {R N : bC → Hp → Prop} {env : bC} {h : Hp}
theorem wpS {a b : Code} (H : sT C rec nt a X R (sT C rec nt b X R N) env h) : sT C rec nt (.seq a b) X R N env h := H
theorem aTi {id : Nat} {ops : Array Oper} (H : ∃ r, gY C rec nt ops ops.toList (kk fun e h => pJ h → N e h) env h = some r) : sT C rec nt (.region id ops false) X R N env h := by
 obtain ⟨r, hr⟩ := H
 obtain ⟨env', h', h1, h2⟩ := nX _ _ _ _ _ hr
 simp only [sT, Bool.false_eq_true, if_false]
 exact ⟨env', h', h1, cPm h2⟩
theorem dKc {id : Nat} {ops : Array Oper} (hd : eW C.P ops = true) (H : ∃ r, iN C rec nt ops (kk fun e h => pJ h → N e h) env h = some r) : sT C rec nt (.region id ops true) X R N env h := by
 obtain ⟨r, hr⟩ := H
 simp only [sT, if_true]
 exact .inr ⟨hd, _, r, hr, fun env' h' h1 h2 => cPm h1 h2⟩
theorem dKm {id : Nat} {ops : Array Oper} (H : aNl C rec nt ops (fun e h => pJ h → N e h) ops.size (Array.replicate ops.size false) env h) : sT C rec nt (.region id ops true) X R N env h := by
 simp only [sT, if_true]
 exact .inl H
theorem wpC {c : Operand} {a b : Code} {t : Bool} (hc : opr env c = .b t) (H : (t = true → sT C rec nt a X R N env h) ∧ (t = false → sT C rec nt b X R N env h)) : sT C rec nt (.cond c a b) X R N env h := by
 cases t with
 | true => exact .inl ⟨hc, H.1 rfl⟩
 | false => exact .inr ⟨hc, H.2 rfl⟩
end
noncomputable def dOh : Code := cL (cR (cL (cR (cL (cR (cR (cf Tryz.f351)))))))
noncomputable def R4 : Array Oper := fQ dOh
theorem dDq : cf Tryz.f351 = .seq (.region 0 (fQ (cL (cf Tryz.f351))) false) (.seq (.region 1 (fQ (cL (cR (cf Tryz.f351)))) false) (.seq (.seq (.region 2 (fQ (cL (cL (cR (cR (cf Tryz.f351)))))) false)
 (.cond (.tmp 14) (.seq (.region 3 (fQ (cL (cL (cR (cL (cR (cR (cf Tryz.f351)))))))) false) (.seq (.region 4 R4 true) (.cond (.tmp 22)
  (.seq (.region 5 (fQ (cL (cL (cR (cR (cL (cR (cL (cR (cR (cf Tryz.f351))))))))))) false) (.region 6 (fQ (cR (cL (cR (cR (cL (cR (cL (cR (cR (cf Tryz.f351))))))))))) false))
  (.region 7 (fQ (cR (cR (cR (cL (cR (cL (cR (cR (cf Tryz.f351)))))))))) true)))) .skip)) (.seq (.region 8 (fQ (cL (cR (cR (cR (cf Tryz.f351)))))) false) .ret))) := by kernel_rfl
noncomputable def o4 (i : Nat) : Oper := (R4.toList[i]?).getD (Oper.mk none (.move (.tmp 0)) 0 "" #[] none)
theorem dJz : R4[0]? = some (o4 0) := by kernel_rfl
theorem dGq : R4[1]? = some (o4 1) := by kernel_rfl
theorem dBy : R4[2]? = some (o4 2) := by kernel_rfl
theorem dPe : R4[3]? = some (o4 3) := by kernel_rfl
theorem dLg (rec : FuncId → List DV → Hp → aG) (env : bC) (h : Hp) : bJ CF0 rec R4 (o4 0) env h = cJ [.b false] h := by kernel_rfl
theorem dHh (rec : FuncId → List DV → Hp → aG) (env : bC) (h : Hp) : bJ CF0 rec R4 (o4 1) env h = aH 1 (env 21) (.b true) h := by kernel_rfl
theorem dJl (rec : FuncId → List DV → Hp → aG) (env : bC) (h : Hp) : bJ CF0 rec R4 (o4 2) env h = aH 1 (env 21) (.b false) h := by kernel_rfl
theorem dPk (rec : FuncId → List DV → Hp → aG) (env : bC) (h : Hp) : bJ CF0 rec R4 (o4 3) env h = aA (env 21) h := by kernel_rfl
theorem dCm : (o4 0).dst = some 21 := by kernel_rfl
theorem cEm : (o4 1).dst = none := by kernel_rfl
theorem cDn : (o4 2).dst = none := by kernel_rfl
theorem dIm : (o4 3).dst = some 22 := by kernel_rfl
theorem z4 : Array.replicate R4.size false = #[false, false, false, false] := by kernel_rfl
theorem y4 : R4.size = 4 := by kernel_rfl
theorem dMv : Region.ready .any R4 #[false, false, false, false] = [0] := by kernel_rfl
theorem dBt : Region.ready .any R4 #[true, false, false, false] = [1, 2] := by kernel_rfl
theorem dOq : Region.ready .any R4 #[true, true, false, false] = [2] := by kernel_rfl
theorem dPn : Region.ready .any R4 #[true, false, true, false] = [1] := by kernel_rfl
theorem dKe : Region.ready .any R4 #[true, true, true, false] = [3] := by kernel_rfl
theorem dOu : Region.ready .any R4 #[true, true, true, true] = [] := by kernel_rfl
theorem dQb : (#[false, false, false, false] : Array Bool).setIfInBounds 0 true = #[true, false, false, false] := by kernel_rfl
theorem dNx : (#[true, false, false, false] : Array Bool).setIfInBounds 1 true = #[true, true, false, false] := by kernel_rfl
theorem dNu : (#[true, false, false, false] : Array Bool).setIfInBounds 2 true = #[true, false, true, false] := by kernel_rfl
theorem dNl : (#[true, true, false, false] : Array Bool).setIfInBounds 2 true = #[true, true, true, false] := by kernel_rfl
theorem dOi : (#[true, false, true, false] : Array Bool).setIfInBounds 1 true = #[true, true, true, false] := by kernel_rfl
theorem dNf : (#[true, true, true, false] : Array Bool).setIfInBounds 3 true = #[true, true, true, true] := by kernel_rfl
theorem cBr {C : Cfg} {rec : FuncId → List DV → Hp → aG} {nt f i : Nat} {ops : Array Oper} {kV : bC → Hp → Prop} {listed l' : Array Bool} {env : bC} {h h' : Hp} {o : Oper} {v : DV} (hr : Region.ready .any ops listed = [i])
  (ho : ops[i]? = some o) (hf : dI nt o.dst = true) (hs : bJ C rec ops o env h = some (v, h')) (hl : listed.setIfInBounds i true = l') (hn : aNl C rec nt ops kV f l' (bN env o.dst v) h') : aNl C rec nt ops kV (f + 1) listed env h := by
 refine ⟨fun e => ?_, fun j hj => ?_⟩
 ·rw [hr] at e; cases e
 ·rw [hr] at hj
  simp only [List.mem_singleton] at hj
  subst hj
  exact ⟨o, v, h', ho, hf, hs, by rw [hl]; exact hn⟩
structure After (h h' : Hp) : Prop where
 next : h'.next = h.next.succ
 get : ∀ b, b ≠ h.next → h'.bl.get b = h.bl.get b
theorem dKl {rec : FuncId → List DV → Hp → aG} {kV : bC → Hp → Prop} {env : bC} {h : Hp} (H : ∀ x h', After h h' → kV (bN (bN env (some 21) (.p h.next 0)) (some 22) (.b x)) h') :
  aNl CF0 rec 49 R4 kV R4.size (Array.replicate R4.size false) env h := by
 rw [z4, y4]
 have st : ∀ (n : Pos) (bl : Tr Ob) (x y : Bool), bl.get h.next = some (.row .ex [.b y]) → aH 1 (.p h.next 0) (.b x) ⟨n, bl⟩ = some (aR, ⟨n, Tr.set (.row .ex [.b x]) h.next bl⟩) := fun n bl x y e => by
  simp only [aH, dD, cP, e, Kind.writable, List.length_singleton, if_true, fT, jY, DV.one, Bool.and_self, Option.map_some]
 have ld : ∀ (n : Pos) (bl : Tr Ob) (x : Bool), bl.get h.next = some (.row .ex [.b x]) → aA (.p h.next 0) ⟨n, bl⟩ = some (.b x, ⟨n, bl⟩) := fun n bl x e => by
  simp only [aA, cellD, rowOf, e, List.getElem?_cons_zero, DV.one, if_true]
 have g0 : ∀ (t : Tr Ob) (x : Bool), (Tr.set (.row .ex [.b x]) h.next t).get h.next = some (.row .ex [.b x]) := fun t x => dQg _ _ _
 have go : ∀ (t : Tr Ob) (x : Bool) (b : Pos), b ≠ h.next → (Tr.set (.row .ex [.b x]) h.next t).get b = t.get b := fun t x b e => dQf _ _ _ _ e
 have fin : ∀ (t : Tr Ob) (x : Bool), (∀ b, b ≠ h.next → t.get b = h.bl.get b) → t.get h.next = some (.row .ex [.b x]) →
   aNl CF0 rec 49 R4 kV 1 #[true, true, true, false] (bN env (some 21) (.p h.next 0)) ⟨h.next.succ, t⟩ := fun t x e1 e2 => by
  refine cBr dKe dPe (by rw [dIm]; rfl) ((dPk _ _ _).trans (ld _ _ x e2)) dNf ?_
  rw [dIm]
  exact ⟨dOu, H x _ ⟨rfl, e1⟩⟩
 refine cBr dMv dJz (by rw [dCm]; rfl) (dLg _ _ _) dQb ?_
 rw [dCm]
 refine ⟨fun e => (by rw [dBt] at e; cases e), fun j hj => ?_⟩
 rw [dBt] at hj
 simp only [List.mem_cons, List.not_mem_nil, or_false] at hj
 rcases hj with rfl | rfl
 ·refine ⟨_, _, _, dGq, by rw [cEm]; rfl, (dHh _ _ _).trans (st _ _ true false (g0 _ _)), ?_⟩
  rw [dNx, cEm]
  refine cBr dOq dBy (by rw [cDn]; rfl) ((dJl _ _ _).trans (st _ _ false true (g0 _ _))) dNl ?_
  rw [cDn]
  exact fin _ false (fun b e => by rw [go _ _ _ e, go _ _ _ e, go _ _ _ e]) (g0 _ _)
 ·refine ⟨_, _, _, dBy, by rw [cDn]; rfl, (dJl _ _ _).trans (st _ _ false false (g0 _ _)), ?_⟩
  rw [dNu, cDn]
  refine cBr dPn dGq (by rw [cEm]; rfl) ((dHh _ _ _).trans (st _ _ true false (g0 _ _))) dOi ?_
  rw [cEm]
  exact fin _ true (fun b e => by rw [go _ _ _ e, go _ _ _ e, go _ _ _ e]) (g0 _ _)
end Go.Dd

namespace Go.Dd
open Go.Proofs
theorem bSe {h h' g : Hp} {x v : DV} (hg : ∀ b o, h.bl.get b = some o → h'.bl.get b = some o) (e : aA x h = some (v, g)) : aA x h' = some (v, h') := by
 have S : Sim true ⟨h'.next, h.bl⟩ h' := ⟨rfl, fun b o hb => ⟨o, hg b o hb, lQ o⟩⟩
 have e' : aA x ⟨h'.next, h.bl⟩ = some (v, ⟨h'.next, h.bl⟩) := by
  unfold aA at e ⊢
  split at e <;> (try (cases e; done))
  rename_i b o
  change (match cellD b o ⟨h'.next, h.bl⟩ with
   | some v => some (v, (⟨h'.next, h.bl⟩ : Hp))
   | none => none) = _
  change (match cellD b o ⟨h'.next, h.bl⟩ with
   | some v => some (v, h)
   | none => none) = _ at e
  split at e <;> (try (cases e; done))
  rename_i u hu
  simp only [aT, bF] at e
  rw [e.1]
 obtain ⟨k, e1, e2⟩ := lY x _ _ S v _ e'
 obtain ⟨rfl, _⟩ := (show k = h' ∧ True by
  unfold aA at e1
  split at e1 <;> (try (cases e1; done))
  split at e1 <;> (try (cases e1; done))
  simp only [aT, bF] at e1
  exact ⟨e1.2.symm, trivial⟩)
 exact e1
theorem bPt {h h' g : Hp} {n : Nat} {x v : DV} (hg : ∀ b o, h.bl.get b = some o → h'.bl.get b = some o) (e : aK n x h = some (v, g)) : aK n x h' = some (v, h') := by
 have S : Sim true ⟨h'.next, h.bl⟩ h' := ⟨rfl, fun b o hb => ⟨o, hg b o hb, lQ o⟩⟩
 have e' : aK n x ⟨h'.next, h.bl⟩ = some (v, ⟨h'.next, h.bl⟩) := by
  unfold aK at e ⊢
  split at e <;> (try (cases e; done))
  rename_i b o
  change (match cellsAt b o n ⟨h'.next, h.bl⟩ with
   | some v => some (DV.a v, (⟨h'.next, h.bl⟩ : Hp))
   | none => none) = _
  change (match cellsAt b o n ⟨h'.next, h.bl⟩ with
   | some v => some (DV.a v, h)
   | none => none) = _ at e
  split at e <;> (try (cases e; done))
  rename_i u hu
  simp only [aT, bF] at e
  rw [← e.1]
 obtain ⟨k, e1, e2⟩ := mG n x _ _ S v _ e'
 obtain ⟨rfl, _⟩ := (show k = h' ∧ True by
  unfold aK at e1
  split at e1 <;> (try (cases e1; done))
  split at e1 <;> (try (cases e1; done))
  simp only [aT, bF] at e1
  exact ⟨e1.2.symm, trivial⟩)
 exact e1
theorem bMt {q : Pos} {l1 v : DV} {cs : List DV} {h k : Hp} (e : kI q l1 cs h = some (v, k)) : ∃ (n : Nat) (old : List DV) (t : Tr Ob), v = .l h.next 0 (n + 1) (n + 1) ∧ (∀ g, cQ l1 g = some (.i .i64 (n : Int), g)) ∧
  old.length = n * 4 ∧ (∀ v ∈ old, v.one = true) ∧ k = ⟨h.next.succ, Tr.set (.row (.gr 4) (old ++ cs)) h.next t⟩ ∧ t.get q = h.bl.get q ∧ (∀ b, t.get b ≠ none → h.bl.get b ≠ none) ∧
  ∀ zs, kI q l1 zs h = some (v, ⟨h.next.succ, Tr.set (.row (.gr 4) (old ++ zs)) h.next t⟩) := by
 unfold kI at e
 split at e <;> (try (cases e; done))
 ·simp only [aT, bF] at e
  obtain ⟨rfl, rfl⟩ := e
  exact ⟨0, [], h.bl, rfl, fun g => rfl, rfl, by simp, rfl, rfl, fun b hb => hb, fun zs => rfl⟩
 ·rename_i b o len cap
  cases hc : (Nat.ble cap len && !(nY b q)) with
  | false => rw [hc] at e; cases e
  | true =>
   rw [hc] at e
   simp only [cnd] at e
   split at e <;> (try (cases e; done))
   rename_i es l old hb hold
   split at e <;> (try (cases e; done))
   rename_i hr
   simp only [aT, bF] at e
   obtain ⟨rfl, rfl⟩ := e
   have hq : q ≠ b := by
    simp only [Bool.and_eq_true, Bool.not_eq_true'] at hc
    exact Ne.symm (aYh hc.2)
   have hl : old.length = len * 4 ∧ ∀ v ∈ old, v.one = true := by
    unfold cellsAt at hold
    split at hold <;> (try (cases hold; done))
    obtain ⟨h1, _, _, h4⟩ := mK _ _ _ hold
    exact ⟨h1, h4⟩
   refine ⟨len, old, Tr.set (.row .sp (bS o l)) b h.bl, rfl, fun g => rfl, hl.1, hl.2, rfl, dQf _ _ _ _ hq, fun x hx => ?_, fun zs => ?_⟩
   ·by_cases e : x = b
    ·rw [e, hb]; simp
    ·rwa [dQf _ _ _ _ e] at hx
   ·unfold kI
    dsimp only
    rw [hc]
    simp only [cnd, hb, hold, if_pos hr]
theorem aYe {q : Pos} {l1 x v : DV} {cs : List DV} {h h' k : Hp} (S : Sim true h h') (hx : kW 4 x h' = some (1, cs)) (e : kI q l1 cs h = some (v, k)) : ∃ k', bK 4 56 l1 x h' = some (v, k') ∧ Sim true k k' := by
 unfold kI at e
 split at e <;> (try (cases e; done))
 ·simp only [aT, bF] at e
  obtain ⟨rfl, rfl⟩ := e
  refine ⟨⟨h'.next.succ, Tr.set (.row (.gr 4) cs) h'.next h'.bl⟩, ?_, ?_⟩
  ·unfold bK
   rw [hx]
   dsimp only
   rw [if_neg (by simp), if_pos (by decide), S.next]
  ·rw [S.next]; exact S.setR _ _ _ _
 ·rename_i b o len cap
  cases hc : (Nat.ble cap len && !(nY b q)) with
  | false => rw [hc] at e; cases e
  | true =>
   rw [hc] at e
   simp only [cnd] at e
   split at e <;> (try (cases e; done))
   rename_i es l old hb hold
   split at e <;> (try (cases e; done))
   rename_i hr
   simp only [aT, bF] at e
   obtain ⟨rfl, rfl⟩ := e
   have hle : cap ≤ len := by
    simp only [Bool.and_eq_true] at hc
    exact Nat.le_of_ble_eq_true hc.1
   refine ⟨⟨h'.next.succ, Tr.set (.row (.gr 4) (old ++ cs)) h'.next (Tr.set (.row .sp (bS o l)) b h'.bl)⟩, ?_, ?_⟩
   ·unfold bK
    rw [hx]
    dsimp only
    rw [if_neg (by omega), S.row hb, S.cellsAt hold]
    dsimp only
    rw [if_pos hr.2.2, if_pos ⟨hr.1, hr.2.1⟩, S.next]
   ·rw [S.next]
    exact (S.setR .sp (bS o l) b h.next).setR _ _ _ _
theorem aVe : ∀ (old zs cs : List DV), zs.length = cs.length → (∀ v ∈ zs, v.one = true) → (∀ v ∈ cs, v.one = true) → fT old.length (old ++ zs) cs = some (old ++ cs)
 | [], zs, cs, hl, hz, hc => by
  show jY zs cs = some cs
  induction cs generalizing zs with
  | nil => cases zs with
   | nil => rfl
   | cons z zs => simp at hl
  | cons c cs ih => cases zs with
   | nil => simp at hl
   | cons z zs =>
    simp only [jY, hz z (by simp), hc c (by simp), Bool.and_self, if_true]
    rw [ih zs (by simpa using hl) (fun v hv => hz v (by simp [hv])) (fun v hv => hc v (by simp [hv]))]
    rfl
 | x :: old, zs, cs, hl, hz, hc => by
  show (fT old.length (old ++ zs) cs).map (x :: ·) = _
  rw [aVe old zs cs hl hz hc]
  rfl
end Go.Dd

namespace Go.Dd
open Go.Proofs
theorem bGq : (Tryz.prog.funcs.toList.all fun fn => !(fn.name == "runtime.NumGoroutine")) = true := by kernel_rfl
theorem Try_ok : POk Tryz.prog where
 mixed := by kernel_rfl
 names := by
  intro f fn hf
  have h := List.all_eq_true.1 bGq fn (by
   obtain ⟨hlt, rfl⟩ := Array.getElem?_eq_some_iff.1 hf
   simp)
  simpa using h
theorem KC0 : OkC CF0 (mZ CF0 60) := ⟨fun G g F h => (by cases h), fun G g => aGy (C := CF0) Try_ok (fun G g F h => (by cases h)) 60 G g⟩
theorem cUz (e : bC) (h : Hp) : aQ CF0 Tryz.f351 e h = some (e 4, h) := by kernel_rfl
theorem dCt : Tryz.f351.ntmps = 49 := by kernel_rfl
theorem dFy : Tryz.prog.funcs[351]? = some Tryz.f351 := by kernel_rfl
theorem cMf : Tryz.f351.body = some (cf Tryz.f351) := by kernel_rfl
theorem dJh : eW CF0.P (fQ (cR (cR (cR (cL (cR (cL (cR (cR (cf Tryz.f351)))))))))) = true := by kernel_rfl
theorem bAo {X : Nat → bC → Hp → Prop} {N : bC → Hp → Prop} {env : bC} {v : DV} {h h1 : Hp} (he : env 5 = v) (S : Sim true h1 h) :
  sT CF0 (mZ CF0 60) 49 (.seq (.region 8 (fQ (cL (cR (cR (cR (cf Tryz.f351)))))) false) .ret) X (fun env h' => ∃ h2, aQ CF0 Tryz.f351 env h' = some (v, h2) ∧ Le h2 h1) N env h := by
 refine wpS (aTi ?_)
 rw [rg8]
 refine vM fun _ => ?_
 exact ⟨h, (cUz _ _).trans (by rw [show (bN (bN env (some 48) (env 5)) (some 4) (env 5)) 4 = env 5 from rfl, he]), fun G ρ w H => H.sub S⟩
theorem aAg {F : Hp → aG} (hF : PureP F) {h g : Hp} {v : DV} (e : F h = some (v, g)) : g = h ∧ ∀ h', F h' = some (v, h') := hF h v g e
theorem uK {h g : Hp} {c : Pos} {o : Nat} {v : DV} (e : aA (.p c o) h = some (v, g)) : g = h ∧ ∃ u, h.bl.get c = some u := by
 change (match cellD c o h with
  | some v => some (v, h)
  | none => none) = _ at e
 split at e <;> (try (cases e; done))
 rename_i u hu
 simp only [aT, bF] at e
 refine ⟨e.2.symm, ?_⟩
 unfold cellD rowOf at hu
 cases hc : h.bl.get c with
 | none => rw [hc] at hu; cases hu
 | some u => exact ⟨u, rfl⟩
theorem tF {h g : Hp} {c : Pos} {o n : Nat} {v : DV} (e : aK n (.p c o) h = some (v, g)) : g = h ∧ (∃ u, h.bl.get c = some u) ∧ ∃ cs, v = .a cs ∧ cs.length = n ∧ ∀ x ∈ cs, x.one = true := by
 change (match cellsAt c o n h with
  | some cs => some (DV.a cs, h)
  | none => none) = _ at e
 split at e <;> (try (cases e; done))
 rename_i u hu
 simp only [aT, bF] at e
 refine ⟨e.2.symm, ?_⟩
 unfold cellsAt rowOf at hu
 cases hc : h.bl.get c with
 | none => rw [hc] at hu; cases hu
 | some ob =>
  refine ⟨⟨ob, rfl⟩, u, e.1.symm, ?_⟩
  rw [hc] at hu
  split at hu <;> (try (cases hu; done))
  obtain ⟨h1, _, _, h4⟩ := mK _ _ _ hu
  exact ⟨h1, h4⟩
theorem Sim.of_get {h h' : Hp} (e : h'.next = h.next) (g : ∀ b o, h.bl.get b = some o → h'.bl.get b = some o) : Sim true h h' := ⟨e, fun b o hb => ⟨o, g b o hb, lQ o⟩⟩
theorem bIf (c : Pos) (h : Hp) : aY (.p c 0) h = some (.p c 0, h) := rfl
theorem cYf (c : Pos) (h : Hp) : aB 0 (.p c 0) h = some (.p c 0, h) := rfl
theorem cWn (c : Pos) (h : Hp) : aB 4 (.p c 0) h = some (.p c 4, h) := rfl
theorem aNw (env : bC) (i : Nat) (v : DV) (j : Nat) (h : Nat.beq j i = false) : bN env (some i) v j = env j := by
 show (bif Nat.beq j i then v else env j) = _
 rw [h]; rfl
theorem bQc (env : bC) (i : Nat) (v : DV) : bN env (some i) v i = v := by
 show (bif Nat.beq i i then v else env i) = _
 rw [Nat.beq_refl]; rfl
theorem kP : ∀ cs : List DV, (∀ v ∈ cs, v.one = true) → kN cs.length cs = some cs
 | [], _ => rfl
 | c :: cs, h => by
  show (if c.one then (kN cs.length cs).map (c :: ·) else none) = _
  rw [if_pos (h c (by simp)), kP cs fun v hv => h v (by simp [hv])]
  rfl
theorem bAs {cs : List DV} (h4 : cs.length = 4) (ho : ∀ v ∈ cs, v.one = true) (p n : Pos) (t : Tr Ob) : kW 4 (.l p 0 1 1) ⟨n, Tr.set (.row .ex cs) p t⟩ = some (1, cs) := by
 have e : cellsAt p 0 (1 * 4) ⟨n, Tr.set (.row .ex cs) p t⟩ = some cs := by
  unfold cellsAt rowOf
  simp only [dQg, List.drop_zero]
  rw [show 1 * 4 = cs.length by rw [h4]]
  exact kP cs ho
 simp only [kW, e]
theorem bSd {h h' : Hp} {n o : Nat} {q : Pos} {v : DV} (hg : h'.bl.get q = h.bl.get q) (e : aK n (.p q o) h = some (v, h)) : aK n (.p q o) h' = some (v, h') := by
 have e1 : cellsAt q o n h' = cellsAt q o n h := by
  unfold cellsAt rowOf
  rw [hg]
 change (match cellsAt q o n h with
  | some cs => some (DV.a cs, h)
  | none => none) = _ at e
 show (match cellsAt q o n h' with
  | some cs => some (DV.a cs, h')
  | none => none) = _
 rw [e1]
 split at e <;> (try (cases e; done))
 simp only [aT, bF] at e
 rw [e.1]
structure Way (g3 h5 : Hp) (c q : Pos) (l1 l2 n u : DV) (cs : List DV) (k3 k4 : Hp) (env : bC) : Prop where
 fr : pJ g3
 af : After g3 h5
 hl : aA (.p c 4) g3 = some (l1, g3)
 hx : aK 4 (.p q 0) g3 = some (.a cs, g3)
 ne : c ≠ q
 hn : cQ l1 g3 = some (n, g3)
 ap : kI q l1 cs ⟨g3.next.succ.succ, g3.bl⟩ = some (l2, k3)
 st : aH 1 (.p c 4) l2 k3 = some (u, k4)
 e0 : env 0 = .p c 0
 e3 : env 3 = .p q 0
 e5 : env 5 = n
section
theorem Way.up {g3 h5 : Hp} {c q : Pos} {l1 l2 n u : DV} {cs : List DV} {k3 k4 : Hp} {env : bC} (W : Way g3 h5 c q l1 l2 n u cs k3 k4 env) : ∀ b o, g3.bl.get b = some o → h5.bl.get b = some o := fun b o hb => by
 rw [W.af.get b (fun e => ?_)]
 ·exact hb
 ·subst e; exact Nat.lt_irrefl _ (W.fr _ _ hb)
theorem Way.c5 {g3 h5 : Hp} {c q : Pos} {l1 l2 n u : DV} {cs : List DV} {k3 k4 : Hp} {env : bC} (W : Way g3 h5 c q l1 l2 n u cs k3 k4 env) (n' : Pos) : aA (.p c 4) ⟨n', h5.bl⟩ = some (l1, ⟨n', h5.bl⟩) := bSe W.up W.hl
theorem Way.q5 {g3 h5 : Hp} {c q : Pos} {l1 l2 n u : DV} {cs : List DV} {k3 k4 : Hp} {env : bC} (W : Way g3 h5 c q l1 l2 n u cs k3 k4 env) (n' : Pos) : aK 4 (.p q 0) ⟨n', h5.bl⟩ = some (.a cs, ⟨n', h5.bl⟩) := bPt W.up W.hx
theorem Way.len {g3 h5 : Hp} {c q : Pos} {l1 l2 n u : DV} {cs : List DV} {k3 k4 : Hp} {env : bC} (W : Way g3 h5 c q l1 l2 n u cs k3 k4 env) (h : Hp) : cQ l1 h = some (n, h) := (aAg (nS l1) W.hn).2 h
theorem Way.base {g3 h5 : Hp} {c q : Pos} {l1 l2 n u : DV} {cs : List DV} {k3 k4 : Hp} {env : bC} (W : Way g3 h5 c q l1 l2 n u cs k3 k4 env) (o : Ob) : Sim true ⟨g3.next.succ.succ, g3.bl⟩ ⟨h5.next.succ, Tr.set o h5.next h5.bl⟩ := Sim.of_get (by rw [W.af.next]) fun b ob hb => by
 show (Tr.set o h5.next h5.bl).get b = _
 rw [dQf, W.up b ob hb]
 intro e
 have h1 := W.fr b ob hb
 have s1 := dQh g3.next
 rw [e, W.af.next] at h1
 omega
theorem Way.app {g3 h5 : Hp} {c q : Pos} {l1 l2 n u : DV} {cs : List DV} {k3 k4 : Hp} {env : bC} (W : Way g3 h5 c q l1 l2 n u cs k3 k4 env) {hh : Hp} (S : Sim true ⟨g3.next.succ.succ, g3.bl⟩ hh) {y : DV} (hy : kW 4 y hh = some (1, cs)) : ∃ k', bK 4 56 l1 y hh = some (l2, k') ∧ ∃ k'', aH 1 (.p c 4) l2 k' = some (u, k'') ∧ Sim true k4 k'' := by
 obtain ⟨k', h1, h2⟩ := aYe S hy W.ap
 obtain ⟨k'', h3, h4⟩ := lN 1 _ _ _ _ h2 _ _ W.st
 exact ⟨k', h1, k'', h3, h4⟩
theorem Way.one {g3 h5 : Hp} {c q : Pos} {l1 l2 n u : DV} {cs : List DV} {k3 k4 : Hp} {env : bC} (W : Way g3 h5 c q l1 l2 n u cs k3 k4 env) : cs.length = 4 ∧ ∀ v ∈ cs, v.one = true := by
 obtain ⟨_, _, cs', e, h1, h2⟩ := tF W.hx
 cases e
 exact ⟨h1, h2⟩
theorem Way.B {g3 h5 : Hp} {c q : Pos} {l1 l2 n u : DV} {cs : List DV} {k3 k4 : Hp} {env : bC} (W : Way g3 h5 c q l1 l2 n u cs k3 k4 env) {X : Nat → bC → Hp → Prop} {R N : bC → Hp → Prop} (hN : ∀ env' h', env' 5 = n → Sim true k4 h' → N env' h') : sT CF0 (mZ CF0 60) 49 (.region 7 (fQ (cR (cR (cR (cL (cR (cL (cR (cR (cf Tryz.f351)))))))))) true) X R N env h5 := by
 obtain ⟨k', h1, k'', h2, h3⟩ := W.app (W.base (.row .ex cs)) (bAs W.one.1 W.one.2 h5.next h5.next.succ h5.bl)
 have fl : cG (cK 0 h5.next) [(.i .i64 (Int.ofNat 0)), (.s []), (.i .i64 (Int.ofNat 0)), .l0] 1 [(0, 4, .a cs)] ⟨h5.next.succ, h5.bl⟩ = some (.l h5.next 0 1 1, ⟨h5.next.succ, Tr.set (.row .ex cs) h5.next h5.bl⟩) := by
  simp only [cG, jQ, dD, W.one.1]
  simp [cK]
 refine dKc dJh ?_
 rw [rg7]
 simp only [W.e0, W.e3, bIf, aJ, cYf, cWn, show resv 1 h5 = ⟨h5.next.succ, h5.bl⟩ from rfl, W.c5, W.q5, fl, h1, h2]
 refine vM fun _ => hN _ _ ?_ h3
 simp only [aNw, Nat.beq]
 exact W.e5
theorem Way.A {g3 h5 : Hp} {c q : Pos} {l1 l2 n u : DV} {cs : List DV} {k3 k4 : Hp} {env : bC} (W : Way g3 h5 c q l1 l2 n u cs k3 k4 env) {X : Nat → bC → Hp → Prop} {R N : bC → Hp → Prop} (hN : ∀ env' h', env' 5 = n → Sim true k4 h' → N env' h') : sT CF0 (mZ CF0 60) 49 (.seq (.region 5 (fQ (cL (cL (cR (cR (cL (cR (cL (cR (cR (cf Tryz.f351))))))))))) false)
  (.region 6 (fQ (cR (cL (cR (cR (cL (cR (cL (cR (cR (cf Tryz.f351))))))))))) false)) X R N env h5 := by
 obtain ⟨m, old, t, hl2, hm, hol, hoo, hk3, htq, htd, hz⟩ := bMt W.ap
 have hzz := hz [.i .i64 (Int.ofNat 0), .s [], .i .i64 (Int.ofNat 0), .l0]
 have hn : n = .i .i64 (m : Int) := by
  have e1 := W.len g3
  rw [hm] at e1
  simp only [aT, bF, and_true] at e1
  exact e1.symm
 dsimp only at hl2 hk3 htq htd hzz
 obtain ⟨_, uc, huc⟩ := uK W.hl
 have hcs : c ≠ g3.next.succ.succ := fun e => by
  have h1 := W.fr _ _ huc
  have s1 := dQh g3.next
  have s2 := dQh g3.next.succ
  rw [e] at h1
  omega
 obtain ⟨_, ⟨uq, huq⟩, _⟩ := tF W.hx
 have hqs : q ≠ g3.next.succ.succ := fun e => by
  have h1 := W.fr _ _ huq
  have s1 := dQh g3.next
  have s2 := dQh g3.next.succ
  rw [e] at h1
  omega
 have hst := W.st
 rw [hk3] at hst
 have hst2 : ∃ kd l l', t.get c = some (.row kd l) ∧ k4 = ⟨g3.next.succ.succ.succ, Tr.set (.row kd l') c (Tr.set (.row (.gr 4) (old ++ cs)) g3.next.succ.succ t)⟩ ∧
   ∀ zs, aH 1 (.p c 4) l2 ⟨g3.next.succ.succ.succ, Tr.set (.row (.gr 4) zs) g3.next.succ.succ t⟩ = some (u, ⟨g3.next.succ.succ.succ, Tr.set (.row kd l') c (Tr.set (.row (.gr 4) zs) g3.next.succ.succ t)⟩) := by
  rw [hl2] at hst ⊢
  simp only [aH, dD, List.length_singleton, if_true, cP, dQf _ _ _ _ hcs] at hst ⊢
  cases htc : t.get c with
  | none => rw [htc] at hst; cases hst
  | some o =>
   rw [htc] at hst
   cases o with
   | row kd l =>
    dsimp only at hst ⊢
    cases hw : kd.writable with
    | false => rw [hw] at hst; cases hst
    | true =>
     rw [hw, if_pos rfl] at hst
     cases hp : fT 4 l [.l g3.next.succ.succ 0 (m + 1) (m + 1)] with
     | none => rw [hp] at hst; cases hst
     | some l' =>
      rw [hp] at hst
      simp only [aT, bF] at hst
      exact ⟨kd, l, l', rfl, hst.2.symm, fun zs => by simp only [hw, if_true, hp, hst.1]⟩
   | it s p => cases hst
   | mp es => cases hst
   | big n t => cases hst
   | mi t => cases hst
 obtain ⟨kd, l, l', htc, hk4, hstz⟩ := hst2
 obtain ⟨k6, h6, S6⟩ := aYe (W.base (.row .ex [.i .i64 (Int.ofNat 0), .s [], .i .i64 (Int.ofNat 0), .l0])) (bAs rfl (by simp [DV.one]) h5.next h5.next.succ h5.bl) hzz
 obtain ⟨k7, h7, S7⟩ := lN 1 _ _ _ _ S6 _ _ (hstz _)
 have hqz := bSd (h' := ⟨g3.next.succ.succ.succ, Tr.set (.row kd l') c (Tr.set (.row (.gr 4) (old ++ [.i .i64 (Int.ofNat 0), .s [], .i .i64 (Int.ofNat 0), .l0])) g3.next.succ.succ t)⟩) (by
  show (Tr.set _ c (Tr.set _ _ t)).get q = _
  rw [dQf _ _ _ _ (Ne.symm W.ne), dQf _ _ _ _ hqs, htq]) W.hx
 obtain ⟨k8, h8, S8⟩ := mG 4 _ _ _ S7 _ _ hqz
 have hfin : aH 4 (.p g3.next.succ.succ (0 + m * 4)) (.a cs) ⟨g3.next.succ.succ.succ, Tr.set (.row kd l') c (Tr.set (.row (.gr 4) (old ++ [.i .i64 (Int.ofNat 0), .s [], .i .i64 (Int.ofNat 0), .l0])) g3.next.succ.succ t)⟩ =
   some (aR, ⟨g3.next.succ.succ.succ, Tr.set (.row (.gr 4) (old ++ cs)) g3.next.succ.succ (Tr.set (.row kd l') c (Tr.set (.row (.gr 4) (old ++ [.i .i64 (Int.ofNat 0), .s [], .i .i64 (Int.ofNat 0), .l0])) g3.next.succ.succ t))⟩) := by
  have hp := aVe old [.i .i64 (Int.ofNat 0), .s [], .i .i64 (Int.ofNat 0), .l0] cs (by rw [W.one.1]; rfl) (by simp [DV.one]) W.one.2
  simp only [aH, dD, W.one.1, if_true, cP, dQf _ _ _ _ (Ne.symm hcs), dQg, Kind.writable, Nat.zero_add, ← hol, hp]
 obtain ⟨k9, h9, S9⟩ := lN 4 _ _ _ _ S8 _ _ hfin
 have S10 : Sim true k4 k9 := by
  refine Sim.trans ?_ S9
  rw [hk4]
  refine Sim.of_get rfl fun b o hb => ?_
  change (Tr.set (.row kd l') c (Tr.set _ g3.next.succ.succ t)).get b = some o at hb
  show (Tr.set _ g3.next.succ.succ (Tr.set (.row kd l') c (Tr.set _ g3.next.succ.succ t))).get b = some o
  by_cases e1 : b = g3.next.succ.succ
  ·rw [e1] at hb ⊢
   rw [dQf _ _ _ _ (Ne.symm hcs), dQg] at hb
   rw [dQg, hb]
  ·rw [dQf _ _ _ _ e1]
   by_cases e2 : b = c
   ·rw [e2] at hb ⊢
    rw [dQg] at hb ⊢
    exact hb
   ·rw [dQf _ _ _ _ e2, dQf _ _ _ _ e1] at hb ⊢
    exact hb
 have fl : aN [(.i .i64 (Int.ofNat 0)), (.s []), (.i .i64 (Int.ofNat 0)), .l0] 1 [(0, 4, (.a [(.i .i64 (Int.ofNat 0)), (.s []), (.i .i64 (Int.ofNat 0)), .l0]))] h5 = some (.l h5.next 0 1 1, ⟨h5.next.succ, Tr.set (.row .ex [.i .i64 (Int.ofNat 0), .s [], .i .i64 (Int.ofNat 0), .l0]) h5.next h5.bl⟩) := by
  simp [aN, jQ, dD]
 refine wpS (aTi ?_)
 rw [rg5]
 have c5 : aA (.p c 4) h5 = some (l1, h5) := W.c5 h5.next
 have ix : aE 4 l2 n k8 = some (.p g3.next.succ.succ (0 + m * 4), k8) := by
  rw [hl2, hn]
  show (if (0 : Int) ≤ (m : Int) ∧ (m : Int) < ((m + 1 : Nat) : Int) then some (DV.p g3.next.succ.succ (0 + (m : Int).toNat * 4), k8) else none) = _
  rw [if_pos (by omega)]
  simp
 simp only [W.e0, W.e3, bIf, aJ, cYf, cWn, c5, W.len, fl, h6, h7]
 refine vM fun _ => aTi ?_
 rw [rg6]
 simp only [aNw, bQc, Nat.beq, W.e3, h8, aJ, ix, h9]
 refine vM fun _ => hN _ _ ?_ S10
 simp only [aNw, Nat.beq]
 exact W.e5
end
theorem cCl {h h1 : Hp} {c q : Pos} {v : DV} (hr : tM c q h = some (v, h1)) (hf : pJ h) {env : bC} (e0 : env 0 = .p c 0) (e3 : env 3 = .p q 0)
  {X : Nat → bC → Hp → Prop} {R N : bC → Hp → Prop} (hN : ∀ env' h', env' 5 = v → Sim true h1 h' → N env' h') :
  sT CF0 (mZ CF0 60) 49 (.seq (.region 3 (fQ (cL (cL (cR (cL (cR (cR (cf Tryz.f351)))))))) false) (.seq (.region 4 R4 true) (.cond (.tmp 22)
   (.seq (.region 5 (fQ (cL (cL (cR (cR (cL (cR (cL (cR (cR (cf Tryz.f351))))))))))) false) (.region 6 (fQ (cR (cL (cR (cR (cL (cR (cL (cR (cR (cf Tryz.f351))))))))))) false))
   (.region 7 (fQ (cR (cR (cR (cL (cR (cL (cR (cR (cf Tryz.f351)))))))))) true)))) X R N env h := by
 unfold tM at hr
 obtain ⟨l1, g1, hl1, hr⟩ := cY hr
 obtain ⟨n, g2, hn, hr⟩ := cY hr
 obtain ⟨x, g3, hx, hr⟩ := cY hr
 obtain ⟨rfl, uc, huc⟩ := uK hl1
 have hn0 := hn
 obtain ⟨rfl, hn⟩ := aAg (nS l1) hn
 obtain ⟨rfl, ⟨uq, huq⟩, cs, rfl, hcl, hco⟩ := tF hx
 dsimp only at hr
 cases hcq : nY c q with
 | true => rw [hcq] at hr; cases hr
 | false =>
 rw [hcq] at hr
 have hcq' : c ≠ q := aYh hcq
 simp only [cnd, Bool.not_false] at hr
 obtain ⟨l2, k3, ha, hr⟩ := cY hr
 obtain ⟨u, k4, hs, hr⟩ := cY hr
 simp only [aT, bF] at hr
 obtain ⟨rfl, rfl⟩ := hr
 refine wpS (aTi ?_)
 rw [rg3]
 rw [show aY (env 0) g3 = some (.p c 0, g3) from by rw [e0]; rfl]
 show ∃ r, bnd (aA (.p c 4) g3) _ = some r
 rw [hl1]
 show ∃ r, bnd (cQ l1 g3) _ = some r
 rw [hn0, aJ]
 refine vM fun _ => ?_
 refine wpS (dKm (dKl fun x h5 A F5 => ?_))
 have W : Way g3 h5 c q l1 l2 n u cs k3 k4 (bN (bN (bN (bN (bN (bN (bN (bN (bN env (some 15) (env 0)) (some 16) (DV.p c 0)) (some 17) (DV.p c (0 + 0))) (some 18) (DV.p c (0 + 0 + 4))) (some 19) l1) (some 20) n) (some 5) n) (some 21) (DV.p g3.next 0)) (some 22) (DV.b x)) :=
  ⟨hf, A, hl1, hx, hcq', hn0, ha, hs, e0, e3, rfl⟩
 refine wpC (t := x) rfl ⟨fun _ => ?_, fun _ => ?_⟩
 ·exact W.A hN
 ·exact W.B hN
theorem bHa (c : Pos) (lit : List DV) (h : Hp) : dB (aI [.p c 0, .a lit] 1) h = some (.p h.next 0, ⟨h.next.succ, Tr.set (.row .ex lit) h.next h.bl⟩) := rfl
theorem cZg (G : Gd) : gF Tryz.prog G 351 aRl := by
 refine cZe (C := CF0) (rec := mZ CF0 60) KC0 Try_ok dFy cMf fun args h v h1 hr hf => ?_
 unfold aRl at hr
 split at hr <;> (try (cases hr; done))
 rename_i c lit
 obtain ⟨vb, hb, h0, hr⟩ := cY hr
 simp only [cJ, aT, bF] at h0
 obtain ⟨rfl, rfl⟩ := h0
 obtain ⟨ls, h2, hl, hr⟩ := cY hr
 obtain ⟨rfl, _⟩ := uK hl
 obtain ⟨i, h3, hi, hr⟩ := cY hr
 obtain ⟨tt, h4, ht, hif⟩ := cY hr
 clear hr
 obtain ⟨rfl, hlt⟩ := aAg (yQ _ _ _) ht
 rw [dDq, dCt]
 refine wpS (aTi ?_)
 rw [rg0, bHa, aJ]
 refine vM fun _ => ?_
 refine wpS (aTi ?_)
 rw [rg1]
 simp only [aNw, bQc, Nat.beq, show aI [.p c 0, .a lit] 0 = .p c 0 from rfl, bIf, aJ, cYf, cWn, hl, hi]
 refine vM fun F4 => ?_
 refine wpS (wpS (aTi ?_))
 rw [rg2]
 simp only [aNw, bQc, Nat.beq, ht, aJ]
 refine vM fun _ => ?_
 unfold aX at hif
 split at hif <;> (try (cases hif; done))
 ·refine wpC (t := true) rfl ⟨fun _ => ?_, fun e => (by cases e)⟩
  refine cCl hif F4 ?_ ?_ ?_
  ·rfl
  ·rfl
  ·intro env' h' e5 S
   exact bAo e5 S
 ·simp only [aT, bF] at hif
  obtain ⟨rfl, rfl⟩ := hif
  refine wpC (t := false) rfl ⟨fun e => (by cases e), fun _ => ?_⟩
  exact bAo rfl (Sim.refl _)
end Go.Dd

namespace Go.Dd
open Go.Proofs
theorem cAw : (itm.ops.toList.all fV) = true := by kernel_rfl
theorem bLt : Tryz.f414.body = some itm.code := by kernel_rfl
theorem cYm : ItOk Tryz.prog itm where
 pre := by kernel_rfl
 test := by kernel_rfl
 after := by kernel_rfl
 post := by kernel_rfl
 step := by kernel_rfl
 ops := List.all_eq_true.1 cAw
 dst := by kernel_rfl
 guard := by kernel_rfl
 op := ⟨#[3], by kernel_rfl⟩
 fn := ⟨Tryz.f414, Tryz.func414, bLt, by kernel_rfl, by kernel_rfl, by kernel_rfl⟩
theorem dKi : gO (cf Tryz.f495) = true := by kernel_rfl
theorem dFj : gO (cf Tryz.f283) = true := by kernel_rfl
theorem aZn {fn : Func} {c : Code} (h : fn.body = some c) : cf fn = c := by unfold cf; rw [h]
theorem cUn (f : FuncId) (hf : rgB f = true) (fn : Func) (c : Code) (h1 : Tryz.prog.funcs[f]? = some fn) (h2 : fn.body = some c) : gO c = true := by
 unfold rgB at hf
 simp only [Bool.or_eq_true] at hf
 rcases hf with hf | hf <;> (have e := Nat.eq_of_beq_eq_true hf; subst e)
 ·rw [Tryz.func495] at h1
  cases h1
  rw [← aZn h2]
  exact dKi
 ·rw [Tryz.func283] at h1
  cases h1
  rw [← aZn h2]
  exact dFj
end Go.Dd

namespace Go.Dd
open Go.RowKit (Below)
theorem HR.later {G : Gd} {ρ : Ren} {h : Hp} {w w' : World} (H : HR G ρ h w) (e : Below w.heap.size w w') : HR G ρ h w' where
 gl := fun k hk => (e.block k (Nat.lt_of_lt_of_le hk H.sz.1)).trans (H.gl k hk)
 sz := ⟨Nat.le_trans H.sz.1 e.size, fun k hk => Nat.lt_of_lt_of_le (H.sz.2 k hk) e.size⟩
 nx := H.nx
 ro := H.ro
 dom := H.dom
 lt := H.lt
 cell := fun b k l L i v h1 h2 h3 h4 => by
  obtain ⟨v', h5, h6⟩ := H.cell b k l L i v h1 h2 h3 h4
  exact ⟨v', by rw [e.cell (eE h5)]; exact h5, h6⟩
 spare := fun b l L es j h1 h2 h3 => by
  obtain ⟨v', h5⟩ := H.spare b l L es j h1 h2 h3
  exact ⟨v', by rw [e.cell (eE h5)]; exact h5⟩
 free := fun b a h1 h2 => by
  obtain ⟨v, hv⟩ := H.lt_cell h1
  rw [e.frozen (eE hv)]
  exact H.free b a h1 h2
 inj := H.inj
 ex := H.ex
 grone := H.grone
 itr := fun b o L h1 h2 h3 => by
  obtain ⟨a, b, x, c, d⟩ := H.itr b o L h1 h2 h3
  refine ⟨a, b, x, ?_, d⟩
  rw [e.block _ (Array.getElem?_eq_some_iff.1 c).1]
  exact c
 itj := H.itj
theorem Kp.later {G : Gd} {ρ : Ren} {h : Hp} {w w' : World} (H : HR G ρ h w) (e : Below w.heap.size w w') : Kp G w w' :=
 ⟨e.mono H.sz.1, fun k hk => e.block k (H.sz.2 k hk)⟩
def mD (ρ ρ2 : Ren) : Ren := fun b => match ρ b with
 | some L => some L
 | none => ρ2 b
section
variable {G G2 : Gd} {ρ ρ2 : Ren} {h g : Hp} {w w' : World} {J : Tr Ob}
theorem HR.join (H : HR G ρ h w) (hb : Below w.heap.size w w') (H2 : HR G2 ρ2 g w') (hG2 : G2.B = w.heap.size) (low : ∀ b L, ρ2 b = some L → h.next.toNat ≤ b.toNat)
  (hk : ∀ b o, g.bl.get b = some o → o.sg = true ∨ ∃ l, o = .row .ex l) (hn : h.next.toNat ≤ g.next.toNat)
  (hJ : ∀ b, J.get b = match h.bl.get b with
   | some o => some o
   | none => g.bl.get b) : HR G (mD ρ ρ2) ⟨g.next, J⟩ w' ∧ Ex G ρ (mD ρ ρ2) ∧ Ext ρ2 (mD ρ ρ2) := by
 have H' := H.later hb
 have e1 : Ext ρ (mD ρ ρ2) := fun b L hL => by unfold mD; rw [hL]
 have no : ∀ b, h.next.toNat ≤ b.toNat → ρ b = none := fun b hb => by
  cases e : ρ b with
  | none => rfl
  | some L => have := H.lt b L e; omega
 have e2 : Ext ρ2 (mD ρ ρ2) := fun b L hL => by unfold mD; rw [no b (low b L hL)]; exact hL
 have two : ∀ b o, J.get b = some o → (h.bl.get b = some o ∧ ∃ L, ρ b = some L ∧ mD ρ ρ2 b = some L) ∨ (g.bl.get b = some o ∧ ∃ L, ρ2 b = some L ∧ mD ρ ρ2 b = some L) := fun b o ho => by
  rw [hJ] at ho
  cases hh : h.bl.get b with
  | some o' =>
   rw [hh] at ho
   cases ho
   obtain ⟨L, hL⟩ := H.dom b _ hh
   exact .inl ⟨rfl, L, hL, e1 _ _ hL⟩
  | none =>
   rw [hh] at ho
   obtain ⟨L, hL⟩ := H2.dom b o ho
   exact .inr ⟨ho, L, hL, e2 _ _ hL⟩
 have cl : ∀ {b a}, Claims (mD ρ ρ2) ⟨g.next, J⟩ b a → (Claims ρ h b a ∧ ∀ l, J.get b = some (.row .ro l) → h.bl.get b = some (.row .ro l)) ∨ (Claims ρ2 g b a ∧ ¬ isRo g b ∧ ∀ l, J.get b ≠ some (.row .ro l)) := by
  rintro b a ⟨k, l, L, q1, q2, q3⟩
  change J.get b = some (.row k l) at q1
  rcases two b _ q1 with ⟨c1, L', c2, c3⟩ | ⟨c1, L', c2, c3⟩
  ·have c3' := c3.symm.trans q2
   cases c3'
   exact .inl ⟨⟨k, l, L, c1, c2, q3⟩, fun l' hl' => by rw [q1] at hl'; rw [c1]; exact hl'⟩
  ·have c3' := c3.symm.trans q2
   cases c3'
   refine .inr ⟨⟨k, l, L, c1, c2, q3⟩, ?_, ?_⟩
   ·rintro ⟨l', hl'⟩
    rw [c1] at hl'
    cases hl'
    rcases hk b _ c1 with hs | ⟨_, hs⟩ <;> cases hs
   ·intro l' hl'
    rw [q1] at hl'
    cases hl'
    rcases hk b _ c1 with hs | ⟨_, hs⟩ <;> cases hs
 have old : ∀ {b a}, Claims ρ h b a → a.block < w.heap.size := fun hc => by
  obtain ⟨v, hv⟩ := H.lt_cell hc
  exact eE hv
 have own2 : ∀ {k}, Own G2 k → Own G k ∧ w.heap.size ≤ k := fun {k} ho => by
  have h1 := ho.1
  rw [hG2] at h1
  exact ⟨⟨Nat.le_trans H.sz.1 h1, fun hX => by have := H.sz.2 k hX; omega⟩, h1⟩
 refine ⟨⟨H'.gl, H'.sz, Nat.le_trans H.nx hn, ?_, ?_, ?_, ?_, ?_, ?_, ?_, ?_, ?_, ?_, ?_⟩, ⟨e1, fun b L hL => ?_⟩, e2⟩
 ·rintro b a hc ⟨l, hl⟩
  rcases cl hc with ⟨c, hr⟩ | ⟨_, _, hr⟩
  ·exact H'.ro b a c ⟨l, hr l hl⟩
  ·exact absurd hl (hr l)
 ·intro b o ho
  rcases two b o ho with ⟨_, L, _, c⟩ | ⟨_, L, _, c⟩
  ·exact ⟨L, c⟩
  ·exact ⟨L, c⟩
 ·intro b L hL
  unfold mD at hL
  cases e : ρ b with
  | some L' => have := H.lt b L' e; show b.toNat < g.next.toNat; omega
  | none => rw [e] at hL; exact H2.lt b L hL
 ·intro b k l L i v ho hL hi hv
  rcases two b _ ho with ⟨c1, L', c2, c3⟩ | ⟨c1, L', c2, c3⟩
  ·have c3' := c3.symm.trans hL
   cases c3'
   obtain ⟨v', q1, q2⟩ := H'.cell b k l L i v c1 c2 hi hv
   exact ⟨v', q1, q2.mono e1⟩
  ·have c3' := c3.symm.trans hL
   cases c3'
   obtain ⟨v', q1, q2⟩ := H2.cell b k l L i v c1 c2 hi hv
   exact ⟨v', q1, q2.mono e2⟩
 ·intro b l L es j ho hL hj
  rcases two b _ ho with ⟨c1, L', c2, c3⟩ | ⟨c1, L', c2, c3⟩
  ·have c3' := c3.symm.trans hL
   cases c3'
   exact H'.spare b l L es j c1 c2 hj
  ·have c3' := c3.symm.trans hL
   cases c3'
   exact H2.spare b l L es j c1 c2 hj
 ·intro b a hc hr
  rcases cl hc with ⟨c, hro⟩ | ⟨c, hnr, _⟩
  ·refine H'.free b a c fun ⟨l, hl⟩ => hr ⟨l, ?_⟩
   show J.get b = _
   rw [hJ, hl]
  ·obtain ⟨q1, q2⟩ := H2.free b a c hnr
   exact ⟨q1, (own2 q2).1⟩
 ·intro b b' a hc hc' hr
  rcases cl hc with ⟨c, _⟩ | ⟨c, hnr, _⟩
  ·rcases cl hc' with ⟨c', _⟩ | ⟨c', hnr', _⟩
   ·refine H'.inj b b' a c c' fun ⟨l, hl⟩ => hr ⟨l, ?_⟩
    show J.get b = _
    rw [hJ, hl]
   ·have h1 := old c
    have h2 := (own2 (H2.free b' a c' hnr').2).2
    omega
  ·rcases cl hc' with ⟨c', _⟩ | ⟨c', hnr', _⟩
   ·have h1 := old c'
    have h2 := (own2 (H2.free b a c hnr).2).2
    omega
   ·exact H2.inj b b' a c c' hnr
 ·intro b l L ho hL
  have key : ∀ o, J.get b = some o → (o = .row .ro l ∨ o = .row .ex l) → L.sp = 0 := fun o ho' hor => by
   rcases two b o ho' with ⟨c1, L', c2, c3⟩ | ⟨c1, L', c2, c3⟩
   ·have c3' := c3.symm.trans hL
    cases c3'
    rcases hor with rfl | rfl
    ·exact H'.ex b l L (.inl c1) c2
    ·exact H'.ex b l L (.inr c1) c2
   ·have c3' := c3.symm.trans hL
    cases c3'
    rcases hor with rfl | rfl
    ·exact H2.ex b l L (.inl c1) c2
    ·exact H2.ex b l L (.inr c1) c2
  rcases ho with ho | ho
  ·exact key _ ho (.inl rfl)
  ·exact key _ ho (.inr rfl)
 ·intro b es l i v ho hi
  rcases two b _ ho with ⟨c1, _⟩ | ⟨c1, _⟩
  ·exact H'.grone b es l i v c1 hi
  ·exact H2.grone b es l i v c1 hi
 ·intro b o L h0 ho hL
  rcases two b o ho with ⟨c1, L', c2, c3⟩ | ⟨c1, L', c2, c3⟩
  ·have c3' := c3.symm.trans hL
   cases c3'
   obtain ⟨q1, q2, x, q3, q4⟩ := H'.itr b o L h0 c1 c2
   exact ⟨q1, q2, x, q3, q4.mono e1⟩
  ·have c3' := c3.symm.trans hL
   cases c3'
   obtain ⟨q1, q2, x, q3, q4⟩ := H2.itr b o L h0 c1 c2
   exact ⟨(own2 q1).1, q2, x, q3, q4.mono e2⟩
 ·intro b o b' o' L L' h0 h0' ho ho' hL hL' he
  have lo : ∀ {b o L}, o.sg = true → h.bl.get b = some o → ρ b = some L → L.bl < w.heap.size := fun {b o L} s1 s2 s3 => by
   obtain ⟨_, _, x, q, _⟩ := H.itr b o L s1 s2 s3
   exact (Array.getElem?_eq_some_iff.1 q).1
  rcases two b o ho with ⟨c1, K, c2, c3⟩ | ⟨c1, K, c2, c3⟩ <;> (have c3' := c3.symm.trans hL; cases c3') <;>
   rcases two b' o' ho' with ⟨d1, K', d2, d3⟩ | ⟨d1, K', d2, d3⟩ <;> (have d3' := d3.symm.trans hL'; cases d3')
  ·exact H'.itj b o b' o' L L' h0 h0' c1 d1 c2 d2 he
  ·have q1 := lo h0 c1 c2
   have q2 := (own2 (H2.itr b' o' L' h0' d1 d2).1).2
   omega
  ·have q1 := lo h0' d1 d2
   have q2 := (own2 (H2.itr b o L h0 c1 c2).1).2
   omega
  ·exact H2.itj b o b' o' L L' h0 h0' c1 d1 c2 d2 he
 ·unfold mD at hL
  cases e : ρ b with
  | some L' => rw [e] at hL; exact .inl hL
  | none =>
   rw [e] at hL
   exact .inr (Nat.le_trans H.nx (low b L hL))
end
end Go.Dd

namespace Go.Proofs
open Go.Shelf
def Tryz.lays156_ren : Go.Shelf.Ren := ⟨fun | 156 => 23 | 165 => 38 | 166 => 39 | 169 => 40 | 240 => 63 | 241 => 64 | 276 => 110 | 277 => 111 | n => n, fun | 31 => 40 | 9 => 9 | 3 => 3 | 4 => 4 | 0 => 0 | 20 => 20 | 72 => 68 | 76 => 72 | 70 => 66 | 37 => 29 | 75 => 71 | 127 => 90 | 164 => 166 | 5 => 5 | 80 => 74 | n => n, fun | n => n⟩
theorem Tryz.lays156 : Go.Proofs.Lays.n156 Tryz.prog Tryz.lays156_ren := {
 mixed := by kernel_rfl
 f156 := Tryz.func23.trans (congrArg some (by kernel_rfl))
 f165 := Tryz.func38.trans (congrArg some (by kernel_rfl))
 f166 := Tryz.func39.trans (congrArg some (by kernel_rfl))
 f169 := Tryz.func40.trans (congrArg some (by kernel_rfl))
 f240 := Tryz.func63.trans (congrArg some (by kernel_rfl))
 f241 := Tryz.func64.trans (congrArg some (by kernel_rfl))
 f276 := Tryz.func110.trans (congrArg some (by kernel_rfl))
 f277 := Tryz.func111.trans (congrArg some (by kernel_rfl))
 t0 := Tryz.underlying0
 a0 := Tryz.isAgg0
 z0 := Tryz.sizeOf0
 v0 := Tryz.zeroValue0
 t3 := Tryz.underlying3
 a3 := Tryz.isAgg3
 z3 := Tryz.sizeOf3
 v3 := Tryz.zeroValue3
 t4 := Tryz.underlying4
 a4 := Tryz.isAgg4
 z4 := Tryz.sizeOf4
 v4 := Tryz.zeroValue4
 t9 := Tryz.underlying9
 a9 := Tryz.isAgg9
 z9 := Tryz.sizeOf9
 v9 := Tryz.zeroValue9
 t20 := Tryz.underlying20
 a20 := Tryz.isAgg20
 z20 := Tryz.sizeOf20
 v20 := Tryz.zeroValue20
 t31 := Tryz.underlying40
 a31 := Tryz.isAgg40
 z31 := Tryz.sizeOf40
 v31 := Tryz.zeroValue40
 t37 := Tryz.underlying29
 a37 := Tryz.isAgg29
 z37 := Tryz.sizeOf29
 v37 := Tryz.zeroValue29
 t70 := Tryz.underlying66
 a70 := Tryz.isAgg66
 z70 := Tryz.sizeOf66
 v70 := Tryz.zeroValue66
 t72 := Tryz.underlying68
 a72 := Tryz.isAgg68
 z72 := Tryz.sizeOf68
 v72 := Tryz.zeroValue68
 t75 := Tryz.underlying71
 a75 := Tryz.isAgg71
 z75 := Tryz.sizeOf71
 v75 := Tryz.zeroValue71
 t76 := Tryz.underlying72
 a76 := Tryz.isAgg72
 z76 := Tryz.sizeOf72
 v76 := Tryz.zeroValue72
 t127 := Tryz.underlying90
 a127 := Tryz.isAgg90
 z127 := Tryz.sizeOf90
 v127 := Tryz.zeroValue90
 t164 := Tryz.underlying166
 a164 := Tryz.isAgg166
 z164 := Tryz.sizeOf166
 v164 := Tryz.zeroValue166 }
theorem Tryz.Builder_Extra_156 : Builder.Extra Tryz.prog Tryz.lays156_ren := {
 sizeBuilder := by kernel_rfl
 liesBuilder := by kernel_rfl
 t5 := Tryz.underlying5
 a5 := Tryz.isAgg5
 z5 := Tryz.sizeOf5
 v5 := Tryz.zeroValue5
 infoByte := by kernel_rfl
 cellsByte := by kernel_rfl
 sizeByte := by kernel_rfl
 neB5 := by decide }
open Go.RowKit in
theorem Tryz.strings_Join_none (a : Option Addr) (c : Nat) (sep : ByteArray) (w : World) :
  Calls Tryz.prog 23 #[.slice a 0 c, .string sep] w fun e w' => e = .returned (.string ⟨#[]⟩) ∧ w' = w := Any.strings_Join_none Tryz.lays156 Tryz.Builder_Extra_156 a c sep w
open Go.RowKit in
theorem Tryz.strings_Join (bk o c : Nat) (xs : List ByteArray) (sep : ByteArray) (w : World) (hcells : ∀ (j : Nat) x, xs[j]? = some x → w.cell? ⟨bk, o + j, none⟩ = some (.string x)) (hbk : bk < w.heap.size) (hN : xs.length ≤ 140737488355328) (hcap : xs.length ≤ c) (hlen : (Lib.join (xs.map (·.data.toList)) sep.data.toList).length ≤ 140737488355328) :
  Calls Tryz.prog 23 #[.slice (some ⟨bk, o, none⟩) xs.length c, .string sep] w fun e w' => e = .returned (.string ⟨(Lib.join (xs.map (·.data.toList)) sep.data.toList).toArray⟩) ∧ Below w.heap.size w w' := Any.strings_Join Tryz.lays156 Tryz.Builder_Extra_156 bk o c xs sep w hcells hbk hN hcap hlen
def Tryz.laysM171_ren : Go.Shelf.Ren := ⟨fun | 171 => 24 | 243 => 41 | 246 => 65 | 283 => 112 | 284 => 113 | 285 => 114 | 286 => 115 | 129 => 182 | 317 => 181 | 318 => 183 | 319 => 184 | 320 => 185 | 337 => 261 | 338 => 262 | n => n, fun | 3 => 3 | 9 => 9 | 2 => 2 | 4 => 4 | 171 => 169 | 0 => 0 | 53 => 170 | 37 => 29 | 5 => 5 | 173 => 173 | 212 => 242 | 51 => 95 | 20 => 20 | 213 => 243 | 46 => 177 | 232 => 392 | 233 => 393 | n => n, fun | 17 => 1 | 18 => 4 | 19 => 5 | n => n⟩
theorem Tryz.laysM171 : Go.Proofs.LaysM.n171 Tryz.prog Tryz.laysM171_ren := {
 mixed := by kernel_rfl
 f129 := Tryz.func182.trans (congrArg some (by kernel_rfl))
 f171 := Tryz.func24.trans (congrArg some (by kernel_rfl))
 f243 := Tryz.func41.trans (congrArg some (by kernel_rfl))
 f246 := Tryz.func65.trans (congrArg some (by kernel_rfl))
 f283 := Tryz.func112.trans (congrArg some (by kernel_rfl))
 f284 := Tryz.func113.trans (congrArg some (by kernel_rfl))
 f285 := Tryz.func114.trans (congrArg some (by kernel_rfl))
 f286 := Tryz.func115.trans (congrArg some (by kernel_rfl))
 f317 := Tryz.func181.trans (congrArg some (by kernel_rfl))
 f318 := Tryz.func183.trans (congrArg some (by kernel_rfl))
 f319 := Tryz.func184.trans (congrArg some (by kernel_rfl))
 f320 := Tryz.func185.trans (congrArg some (by kernel_rfl))
 f337 := Tryz.func261.trans (congrArg some (by kernel_rfl))
 f338 := Tryz.func262.trans (congrArg some (by kernel_rfl))
 t0 := Tryz.underlying0
 a0 := Tryz.isAgg0
 z0 := Tryz.sizeOf0
 v0 := Tryz.zeroValue0
 t2 := Tryz.underlying2
 a2 := Tryz.isAgg2
 z2 := Tryz.sizeOf2
 v2 := Tryz.zeroValue2
 t3 := Tryz.underlying3
 a3 := Tryz.isAgg3
 z3 := Tryz.sizeOf3
 v3 := Tryz.zeroValue3
 t4 := Tryz.underlying4
 a4 := Tryz.isAgg4
 z4 := Tryz.sizeOf4
 v4 := Tryz.zeroValue4
 t5 := Tryz.underlying5
 a5 := Tryz.isAgg5
 z5 := Tryz.sizeOf5
 v5 := Tryz.zeroValue5
 t9 := Tryz.underlying9
 a9 := Tryz.isAgg9
 z9 := Tryz.sizeOf9
 v9 := Tryz.zeroValue9
 t20 := Tryz.underlying20
 a20 := Tryz.isAgg20
 z20 := Tryz.sizeOf20
 v20 := Tryz.zeroValue20
 t37 := Tryz.underlying29
 a37 := Tryz.isAgg29
 z37 := Tryz.sizeOf29
 v37 := Tryz.zeroValue29
 t46 := Tryz.underlying177
 a46 := Tryz.isAgg177
 z46 := Tryz.sizeOf177
 v46 := Tryz.zeroValue177
 t51 := Tryz.underlying95
 a51 := Tryz.isAgg95
 z51 := Tryz.sizeOf95
 v51 := Tryz.zeroValue95
 t53 := Tryz.underlying170
 a53 := Tryz.isAgg170
 z53 := Tryz.sizeOf170
 v53 := Tryz.zeroValue170
 t171 := Tryz.underlying169
 a171 := Tryz.isAgg169
 z171 := Tryz.sizeOf169
 v171 := Tryz.zeroValue169
 t173 := Tryz.underlying173
 a173 := Tryz.isAgg173
 z173 := Tryz.sizeOf173
 v173 := Tryz.zeroValue173
 t212 := Tryz.underlying242
 a212 := Tryz.isAgg242
 z212 := Tryz.sizeOf242
 v212 := Tryz.zeroValue242
 t213 := Tryz.underlying243
 a213 := Tryz.isAgg243
 z213 := Tryz.sizeOf243
 t232 := Tryz.underlying392
 a232 := Tryz.isAgg392
 z232 := Tryz.sizeOf392
 v232 := Tryz.zeroValue392
 t233 := Tryz.underlying393
 a233 := Tryz.isAgg393
 z233 := Tryz.sizeOf393
 v233 := Tryz.zeroValue393
 g17 := by kernel_rfl
 g18 := by kernel_rfl
 g19 := by kernel_rfl
 i0 := by kernel_rfl
 i2 := by kernel_rfl
 i3 := by kernel_rfl
 i4 := by kernel_rfl
 i5 := by kernel_rfl
 i9 := by kernel_rfl
 i20 := by kernel_rfl
 i37 := by kernel_rfl
 i46 := by kernel_rfl
 i51 := by kernel_rfl
 i53 := by kernel_rfl
 i171 := by kernel_rfl
 i173 := by kernel_rfl
 i212 := by kernel_rfl
 i232 := by kernel_rfl
 i233 := by kernel_rfl
 m17 := by kernel_rfl
 m18 := by kernel_rfl
 m19 := by kernel_rfl }
open Go.RowKit Go.Sort Go.Lib in
theorem Tryz.strconv_Itoa (n : Int) (h0 : -9223372036854775808 ≤ n) (h1 : n ≤ 9223372036854775807) (w : World) (htab : Lib.TabIs Tryz.prog w "internal/strconv.uint64pow10" .u64 Lib.pow10Tab) :
  Calls Tryz.prog 24 #[.int .i64 n] w fun e w' => e = .returned (.string ⟨(Lib.itoa n).toArray⟩) ∧ ∃ k os, w' = grow (w.drewN k) os := Any.strconv_Itoa Tryz.laysM171 n h0 h1 w htab
def Tryz.laysC172_ren : Go.Shelf.Ren := ⟨fun | 172 => 124 | 244 => 194 | 245 => 195 | 247 => 269 | 279 => 270 | 280 => 271 | 281 => 272 | 282 => 273 | 287 => 330 | 316 => 331 | 171 => 24 | 205 => 332 | 321 => 402 | 322 => 403 | 243 => 41 | 246 => 65 | 283 => 112 | 284 => 113 | 285 => 114 | 286 => 115 | 129 => 182 | 317 => 181 | 318 => 183 | 319 => 184 | 320 => 185 | 337 => 261 | 338 => 262 | n => n, fun | 9 => 9 | 3 => 3 | 75 => 71 | 76 => 72 | 4 => 4 | 5 => 5 | 167 => 340 | 37 => 29 | 0 => 0 | 85 => 341 | 2 => 2 | 168 => 343 | 53 => 170 | 175 => 403 | 46 => 177 | 210 => 406 | 127 => 90 | 145 => 451 | 143 => 449 | 21 => 21 | 171 => 169 | 173 => 173 | 212 => 242 | 51 => 95 | 20 => 20 | 213 => 243 | 232 => 392 | 233 => 393 | 80 => 74 | n => n, fun | 15 => 6 | 16 => 7 | 17 => 1 | 18 => 4 | 19 => 5 | n => n⟩
theorem Tryz.laysC172 : Go.Proofs.LaysC.n172 Tryz.prog Tryz.laysC172_ren := {
 mixed := by kernel_rfl
 f129 := Tryz.func182.trans (congrArg some (by kernel_rfl))
 f171 := Tryz.func24.trans (congrArg some (by kernel_rfl))
 f172 := Tryz.func124.trans (congrArg some (by kernel_rfl))
 f205 := Tryz.func332.trans (congrArg some (by kernel_rfl))
 f243 := Tryz.func41.trans (congrArg some (by kernel_rfl))
 f244 := Tryz.func194.trans (congrArg some (by kernel_rfl))
 f245 := Tryz.func195.trans (congrArg some (by kernel_rfl))
 f246 := Tryz.func65.trans (congrArg some (by kernel_rfl))
 f247 := Tryz.func269.trans (congrArg some (by kernel_rfl))
 f279 := Tryz.func270.trans (congrArg some (by kernel_rfl))
 f280 := Tryz.func271.trans (congrArg some (by kernel_rfl))
 f281 := Tryz.func272.trans (congrArg some (by kernel_rfl))
 f282 := Tryz.func273.trans (congrArg some (by kernel_rfl))
 f283 := Tryz.func112.trans (congrArg some (by kernel_rfl))
 f284 := Tryz.func113.trans (congrArg some (by kernel_rfl))
 f285 := Tryz.func114.trans (congrArg some (by kernel_rfl))
 f286 := Tryz.func115.trans (congrArg some (by kernel_rfl))
 f287 := Tryz.func330.trans (congrArg some (by kernel_rfl))
 f316 := Tryz.func331.trans (congrArg some (by kernel_rfl))
 f317 := Tryz.func181.trans (congrArg some (by kernel_rfl))
 f318 := Tryz.func183.trans (congrArg some (by kernel_rfl))
 f319 := Tryz.func184.trans (congrArg some (by kernel_rfl))
 f320 := Tryz.func185.trans (congrArg some (by kernel_rfl))
 f321 := Tryz.func402.trans (congrArg some (by kernel_rfl))
 f322 := Tryz.func403.trans (congrArg some (by kernel_rfl))
 f337 := Tryz.func261.trans (congrArg some (by kernel_rfl))
 f338 := Tryz.func262.trans (congrArg some (by kernel_rfl))
 t0 := Tryz.underlying0
 a0 := Tryz.isAgg0
 z0 := Tryz.sizeOf0
 v0 := Tryz.zeroValue0
 t2 := Tryz.underlying2
 a2 := Tryz.isAgg2
 z2 := Tryz.sizeOf2
 v2 := Tryz.zeroValue2
 t3 := Tryz.underlying3
 a3 := Tryz.isAgg3
 z3 := Tryz.sizeOf3
 v3 := Tryz.zeroValue3
 t4 := Tryz.underlying4
 a4 := Tryz.isAgg4
 z4 := Tryz.sizeOf4
 v4 := Tryz.zeroValue4
 t5 := Tryz.underlying5
 a5 := Tryz.isAgg5
 z5 := Tryz.sizeOf5
 v5 := Tryz.zeroValue5
 t9 := Tryz.underlying9
 a9 := Tryz.isAgg9
 z9 := Tryz.sizeOf9
 v9 := Tryz.zeroValue9
 t20 := Tryz.underlying20
 a20 := Tryz.isAgg20
 z20 := Tryz.sizeOf20
 v20 := Tryz.zeroValue20
 t21 := Tryz.underlying21
 a21 := Tryz.isAgg21
 z21 := Tryz.sizeOf21
 v21 := Tryz.zeroValue21
 t37 := Tryz.underlying29
 a37 := Tryz.isAgg29
 z37 := Tryz.sizeOf29
 v37 := Tryz.zeroValue29
 t46 := Tryz.underlying177
 a46 := Tryz.isAgg177
 z46 := Tryz.sizeOf177
 v46 := Tryz.zeroValue177
 t51 := Tryz.underlying95
 a51 := Tryz.isAgg95
 z51 := Tryz.sizeOf95
 v51 := Tryz.zeroValue95
 t53 := Tryz.underlying170
 a53 := Tryz.isAgg170
 z53 := Tryz.sizeOf170
 v53 := Tryz.zeroValue170
 t75 := Tryz.underlying71
 a75 := Tryz.isAgg71
 z75 := Tryz.sizeOf71
 v75 := Tryz.zeroValue71
 t76 := Tryz.underlying72
 a76 := Tryz.isAgg72
 z76 := Tryz.sizeOf72
 v76 := Tryz.zeroValue72
 t85 := Tryz.underlying341
 a85 := Tryz.isAgg341
 z85 := Tryz.sizeOf341
 v85 := Tryz.zeroValue341
 t127 := Tryz.underlying90
 a127 := Tryz.isAgg90
 z127 := Tryz.sizeOf90
 v127 := Tryz.zeroValue90
 t143 := Tryz.underlying449
 a143 := Tryz.isAgg449
 z143 := Tryz.sizeOf449
 v143 := Tryz.zeroValue449
 t145 := Tryz.underlying451
 a145 := Tryz.isAgg451
 z145 := Tryz.sizeOf451
 v145 := Tryz.zeroValue451
 t167 := Tryz.underlying340
 a167 := Tryz.isAgg340
 z167 := Tryz.sizeOf340
 v167 := Tryz.zeroValue340
 t168 := Tryz.underlying343
 a168 := Tryz.isAgg343
 z168 := Tryz.sizeOf343
 v168 := Tryz.zeroValue343
 t171 := Tryz.underlying169
 a171 := Tryz.isAgg169
 z171 := Tryz.sizeOf169
 v171 := Tryz.zeroValue169
 t173 := Tryz.underlying173
 a173 := Tryz.isAgg173
 z173 := Tryz.sizeOf173
 v173 := Tryz.zeroValue173
 t175 := Tryz.underlying403
 a175 := Tryz.isAgg403
 z175 := Tryz.sizeOf403
 v175 := Tryz.zeroValue403
 t210 := Tryz.underlying406
 a210 := Tryz.isAgg406
 z210 := Tryz.sizeOf406
 v210 := Tryz.zeroValue406
 t212 := Tryz.underlying242
 a212 := Tryz.isAgg242
 z212 := Tryz.sizeOf242
 v212 := Tryz.zeroValue242
 t213 := Tryz.underlying243
 a213 := Tryz.isAgg243
 z213 := Tryz.sizeOf243
 t232 := Tryz.underlying392
 a232 := Tryz.isAgg392
 z232 := Tryz.sizeOf392
 v232 := Tryz.zeroValue392
 t233 := Tryz.underlying393
 a233 := Tryz.isAgg393
 z233 := Tryz.sizeOf393
 v233 := Tryz.zeroValue393
 g15 := by kernel_rfl
 g16 := by kernel_rfl
 g17 := by kernel_rfl
 g18 := by kernel_rfl
 g19 := by kernel_rfl
 t80 := Tryz.underlying74
 a80 := Tryz.isAgg74
 z80 := Tryz.sizeOf74
 v80 := Tryz.zeroValue74
 i0 := by kernel_rfl
 i2 := by kernel_rfl
 i3 := by kernel_rfl
 i4 := by kernel_rfl
 i5 := by kernel_rfl
 i9 := by kernel_rfl
 i20 := by kernel_rfl
 i21 := by kernel_rfl
 i37 := by kernel_rfl
 i46 := by kernel_rfl
 i51 := by kernel_rfl
 i53 := by kernel_rfl
 i75 := by kernel_rfl
 i76 := by kernel_rfl
 i80 := by kernel_rfl
 i85 := by kernel_rfl
 i127 := by kernel_rfl
 i143 := by kernel_rfl
 i145 := by kernel_rfl
 i167 := by kernel_rfl
 i168 := by kernel_rfl
 i171 := by kernel_rfl
 i173 := by kernel_rfl
 i175 := by kernel_rfl
 i210 := by kernel_rfl
 i212 := by kernel_rfl
 i232 := by kernel_rfl
 i233 := by kernel_rfl
 m15 := by kernel_rfl
 m16 := by kernel_rfl
 m17 := by kernel_rfl
 m18 := by kernel_rfl
 m19 := by kernel_rfl
 c0 := by kernel_rfl
 c2 := by kernel_rfl
 c3 := by kernel_rfl
 c4 := by kernel_rfl
 c5 := by kernel_rfl
 c9 := by kernel_rfl
 c20 := by kernel_rfl
 c21 := by kernel_rfl
 c37 := by kernel_rfl
 c46 := by kernel_rfl
 c51 := by kernel_rfl
 c53 := by kernel_rfl
 c75 := by kernel_rfl
 c76 := by kernel_rfl
 c80 := by kernel_rfl
 c85 := by kernel_rfl
 c127 := by kernel_rfl
 c143 := by kernel_rfl
 c145 := by kernel_rfl
 c167 := by kernel_rfl
 c168 := by kernel_rfl
 c171 := by kernel_rfl
 c173 := by kernel_rfl
 c175 := by kernel_rfl
 c210 := by kernel_rfl
 c212 := by kernel_rfl
 c213 := by kernel_rfl
 c232 := by kernel_rfl
 c233 := by kernel_rfl }
open Go.RowKit in
theorem Tryz.strconv_Atoi_ok (s : ByteArray) (hmax : s.size ≤ 9223372036854775806) (v : Int) (h : Lib.atoiAll s.data.toList = .ok v) (w : World) :
  Calls Tryz.prog 124 #[.string s] w fun e w' => e = .returned (.tuple #[.int .i64 v, .nilIface]) ∧ (w' = w ∨ ∃ t, w' = Lib.bytesWorld w 5 t) := Any.strconv_Atoi_ok Tryz.laysC172 s hmax v h w
open Go.RowKit in
theorem Tryz.strconv_Atoi_syntax (s : ByteArray) (hlim : s.size ≤ 281474976710656) (h : Lib.atoiAll s.data.toList = Lib.NumEnd.syntax) (ev : Value) (w : World) (hv : w.cell? ⟨6, 0, none⟩ = some ev) (hev : ev = .nilIface ∨ ∃ te pe, ev = .iface te pe) :
  Calls Tryz.prog 124 #[.string s] w fun e w' => ∃ N, e = .returned (.tuple #[.int .i64 (0), .iface 343 (.pointer (some ⟨N, 0, none⟩))]) ∧ w.heap.size ≤ N ∧ w'.heap[N]? = some (.cells #[.string ⟨#[65, 116, 111, 105]⟩, .string s, ev] 406 (0, 0)) ∧ Below w.heap.size w w' := Any.strconv_Atoi_syntax Tryz.laysC172 s hlim h ev w hv hev
open Go.RowKit in
theorem Tryz.strconv_Atoi_range (s : ByteArray) (hlim : s.size ≤ 281474976710656) (h : Lib.atoiAll s.data.toList = .range) (ev : Value) (w : World) (hv : w.cell? ⟨7, 0, none⟩ = some ev) (hev : ev = .nilIface ∨ ∃ te pe, ev = .iface te pe) :
  Calls Tryz.prog 124 #[.string s] w fun e w' => ∃ N, e = .returned (.tuple #[.int .i64 (Lib.atoiSat s.data.toList), .iface 343 (.pointer (some ⟨N, 0, none⟩))]) ∧ w.heap.size ≤ N ∧ w'.heap[N]? = some (.cells #[.string ⟨#[65, 116, 111, 105]⟩, .string s, ev] 406 (0, 0)) ∧ Below w.heap.size w w' := Any.strconv_Atoi_range Tryz.laysC172 s hlim h ev w hv hev
def Tryz.lays145_ren : Go.Shelf.Ren := ⟨fun | 145 => 33 | 220 => 49 | 219 => 72 | 217 => 45 | 225 => 120 | 224 => 121 | 267 => 122 | 266 => 68 | 314 => 192 | n => n, fun | 9 => 9 | 4 => 4 | 59 => 56 | 3 => 3 | 5 => 5 | 46 => 177 | 146 => 262 | 51 => 95 | n => n, fun | 1 => 0 | n => n⟩
theorem Tryz.lays145 : Go.Proofs.Lays.n145 Tryz.prog Tryz.lays145_ren := {
 mixed := by kernel_rfl
 f145 := Tryz.func33.trans (congrArg some (by kernel_rfl))
 f217 := Tryz.func45.trans (congrArg some (by kernel_rfl))
 f219 := Tryz.func72.trans (congrArg some (by kernel_rfl))
 f220 := Tryz.func49.trans (congrArg some (by kernel_rfl))
 f224 := Tryz.func121.trans (congrArg some (by kernel_rfl))
 f225 := Tryz.func120.trans (congrArg some (by kernel_rfl))
 f266 := Tryz.func68.trans (congrArg some (by kernel_rfl))
 f267 := Tryz.func122.trans (congrArg some (by kernel_rfl))
 f314 := Tryz.func192.trans (congrArg some (by kernel_rfl))
 t3 := Tryz.underlying3
 a3 := Tryz.isAgg3
 z3 := Tryz.sizeOf3
 v3 := Tryz.zeroValue3
 t4 := Tryz.underlying4
 a4 := Tryz.isAgg4
 z4 := Tryz.sizeOf4
 v4 := Tryz.zeroValue4
 t5 := Tryz.underlying5
 a5 := Tryz.isAgg5
 z5 := Tryz.sizeOf5
 v5 := Tryz.zeroValue5
 t9 := Tryz.underlying9
 a9 := Tryz.isAgg9
 z9 := Tryz.sizeOf9
 v9 := Tryz.zeroValue9
 t46 := Tryz.underlying177
 a46 := Tryz.isAgg177
 z46 := Tryz.sizeOf177
 v46 := Tryz.zeroValue177
 t51 := Tryz.underlying95
 a51 := Tryz.isAgg95
 z51 := Tryz.sizeOf95
 v51 := Tryz.zeroValue95
 t59 := Tryz.underlying56
 a59 := Tryz.isAgg56
 z59 := Tryz.sizeOf56
 v59 := Tryz.zeroValue56
 t146 := Tryz.underlying262
 a146 := Tryz.isAgg262
 z146 := Tryz.sizeOf262
 v146 := Tryz.zeroValue262
 g1 := by kernel_rfl }
open Go.RowKit Go.Lib in
theorem Tryz.strings_Cut (s sep : ByteArray) (m : Int) (w : World) (hs : s.size < 4294967281) (hm : w.cell? ⟨0, 0, none⟩ = some (.int .i64 m)) :
  Calls Tryz.prog 33 #[.string s, .string sep] w fun e w' => e = .returned (.tuple #[.string ⟨(Lib.cut s.data.toList sep.data.toList).1.toArray⟩, .string ⟨(Lib.cut s.data.toList sep.data.toList).2.1.toArray⟩, .bool (Lib.cut s.data.toList sep.data.toList).2.2]) ∧ ∃ n, w' = w.drewN n := Any.strings_Cut Tryz.lays145 s sep m w hs hm
def Tryz.lays138_ren : Go.Shelf.Ren := ⟨fun | 138 => 47 | 195 => 69 | 218 => 71 | 143 => 48 | 219 => 72 | 217 => 45 | 225 => 120 | 224 => 121 | 267 => 122 | 266 => 68 | 314 => 192 | n => n, fun | 9 => 9 | 3 => 3 | 4 => 4 | 5 => 5 | 0 => 0 | 46 => 177 | 146 => 262 | 51 => 95 | n => n, fun | 1 => 0 | n => n⟩
theorem Tryz.lays138 : Go.Proofs.Lays.n138 Tryz.prog Tryz.lays138_ren := {
 mixed := by kernel_rfl
 f138 := Tryz.func47.trans (congrArg some (by kernel_rfl))
 f143 := Tryz.func48.trans (congrArg some (by kernel_rfl))
 f195 := Tryz.func69.trans (congrArg some (by kernel_rfl))
 f217 := Tryz.func45.trans (congrArg some (by kernel_rfl))
 f218 := Tryz.func71.trans (congrArg some (by kernel_rfl))
 f219 := Tryz.func72.trans (congrArg some (by kernel_rfl))
 f224 := Tryz.func121.trans (congrArg some (by kernel_rfl))
 f225 := Tryz.func120.trans (congrArg some (by kernel_rfl))
 f266 := Tryz.func68.trans (congrArg some (by kernel_rfl))
 f267 := Tryz.func122.trans (congrArg some (by kernel_rfl))
 f314 := Tryz.func192.trans (congrArg some (by kernel_rfl))
 t0 := Tryz.underlying0
 a0 := Tryz.isAgg0
 z0 := Tryz.sizeOf0
 v0 := Tryz.zeroValue0
 t3 := Tryz.underlying3
 a3 := Tryz.isAgg3
 z3 := Tryz.sizeOf3
 v3 := Tryz.zeroValue3
 t4 := Tryz.underlying4
 a4 := Tryz.isAgg4
 z4 := Tryz.sizeOf4
 v4 := Tryz.zeroValue4
 t5 := Tryz.underlying5
 a5 := Tryz.isAgg5
 z5 := Tryz.sizeOf5
 v5 := Tryz.zeroValue5
 t9 := Tryz.underlying9
 a9 := Tryz.isAgg9
 z9 := Tryz.sizeOf9
 v9 := Tryz.zeroValue9
 t46 := Tryz.underlying177
 a46 := Tryz.isAgg177
 z46 := Tryz.sizeOf177
 v46 := Tryz.zeroValue177
 t51 := Tryz.underlying95
 a51 := Tryz.isAgg95
 z51 := Tryz.sizeOf95
 v51 := Tryz.zeroValue95
 t146 := Tryz.underlying262
 a146 := Tryz.isAgg262
 z146 := Tryz.sizeOf262
 v146 := Tryz.zeroValue262
 g1 := by kernel_rfl }
open Go.RowKit Go.Lib in
theorem Tryz.strings_Count_one (s : ByteArray) (c : UInt8) (w : World) :
  Calls Tryz.prog 47 #[.string s, .string ⟨#[c]⟩] w fun e w' => e = .returned (.int .i64 (Lib.countByte s.data.toList c)) ∧ w' = w := Any.strings_Count_one Tryz.lays138 s c w
def Tryz.laysM143_ren : Go.Shelf.Ren := ⟨fun | 143 => 48 | 219 => 72 | 217 => 45 | 225 => 120 | 224 => 121 | 267 => 122 | 266 => 68 | 314 => 192 | n => n, fun | 9 => 9 | 3 => 3 | 4 => 4 | 5 => 5 | 46 => 177 | 146 => 262 | 51 => 95 | n => n, fun | 1 => 0 | n => n⟩
theorem Tryz.laysM143 : Go.Proofs.LaysM.n143 Tryz.prog Tryz.laysM143_ren := {
 mixed := by kernel_rfl
 f143 := Tryz.func48.trans (congrArg some (by kernel_rfl))
 f217 := Tryz.func45.trans (congrArg some (by kernel_rfl))
 f219 := Tryz.func72.trans (congrArg some (by kernel_rfl))
 f224 := Tryz.func121.trans (congrArg some (by kernel_rfl))
 f225 := Tryz.func120.trans (congrArg some (by kernel_rfl))
 f266 := Tryz.func68.trans (congrArg some (by kernel_rfl))
 f267 := Tryz.func122.trans (congrArg some (by kernel_rfl))
 f314 := Tryz.func192.trans (congrArg some (by kernel_rfl))
 t3 := Tryz.underlying3
 a3 := Tryz.isAgg3
 z3 := Tryz.sizeOf3
 v3 := Tryz.zeroValue3
 t4 := Tryz.underlying4
 a4 := Tryz.isAgg4
 z4 := Tryz.sizeOf4
 v4 := Tryz.zeroValue4
 t5 := Tryz.underlying5
 a5 := Tryz.isAgg5
 z5 := Tryz.sizeOf5
 v5 := Tryz.zeroValue5
 t9 := Tryz.underlying9
 a9 := Tryz.isAgg9
 z9 := Tryz.sizeOf9
 v9 := Tryz.zeroValue9
 t46 := Tryz.underlying177
 a46 := Tryz.isAgg177
 z46 := Tryz.sizeOf177
 v46 := Tryz.zeroValue177
 t51 := Tryz.underlying95
 a51 := Tryz.isAgg95
 z51 := Tryz.sizeOf95
 v51 := Tryz.zeroValue95
 t146 := Tryz.underlying262
 a146 := Tryz.isAgg262
 z146 := Tryz.sizeOf262
 v146 := Tryz.zeroValue262
 g1 := by kernel_rfl
 i3 := by kernel_rfl
 i4 := by kernel_rfl
 i5 := by kernel_rfl
 i9 := by kernel_rfl
 i46 := by kernel_rfl
 i51 := by kernel_rfl
 i146 := by kernel_rfl
 m1 := by kernel_rfl
 s1_3 := fun w h => Go.Proofs.cell_of_shapedOpen_int (zero := #[.int .i64 0]) (t := 3) h (of_decide_eq_true (by kernel_rfl)) (by kernel_rfl) rfl (by kernel_rfl) (by kernel_rfl) Tryz.underlying3 }
def Tryz.lays221_ren : Go.Shelf.Ren := ⟨fun | 221 => 32 | 268 => 46 | 138 => 47 | 143 => 48 | 195 => 69 | 197 => 70 | 218 => 71 | 219 => 72 | 260 => 119 | 217 => 45 | 225 => 120 | 224 => 121 | 267 => 122 | 266 => 68 | 314 => 192 | n => n, fun | 9 => 9 | 3 => 3 | 31 => 40 | 4 => 4 | 0 => 0 | 105 => 109 | 21 => 21 | 5 => 5 | 46 => 177 | 119 => 252 | 139 => 261 | 138 => 260 | 146 => 262 | 51 => 95 | n => n, fun | 1 => 0 | 3 => 2 | 4 => 3 | n => n⟩
theorem Tryz.lays221 : Go.Proofs.Lays.n221 Tryz.prog Tryz.lays221_ren := {
 mixed := by kernel_rfl
 f138 := Tryz.func47.trans (congrArg some (by kernel_rfl))
 f143 := Tryz.func48.trans (congrArg some (by kernel_rfl))
 f195 := Tryz.func69.trans (congrArg some (by kernel_rfl))
 f197 := Tryz.func70.trans (congrArg some (by kernel_rfl))
 f217 := Tryz.func45.trans (congrArg some (by kernel_rfl))
 f218 := Tryz.func71.trans (congrArg some (by kernel_rfl))
 f219 := Tryz.func72.trans (congrArg some (by kernel_rfl))
 f221 := Tryz.func32.trans (congrArg some (by kernel_rfl))
 f224 := Tryz.func121.trans (congrArg some (by kernel_rfl))
 f225 := Tryz.func120.trans (congrArg some (by kernel_rfl))
 f260 := Tryz.func119.trans (congrArg some (by kernel_rfl))
 f266 := Tryz.func68.trans (congrArg some (by kernel_rfl))
 f267 := Tryz.func122.trans (congrArg some (by kernel_rfl))
 f268 := Tryz.func46.trans (congrArg some (by kernel_rfl))
 f314 := Tryz.func192.trans (congrArg some (by kernel_rfl))
 t0 := Tryz.underlying0
 a0 := Tryz.isAgg0
 z0 := Tryz.sizeOf0
 v0 := Tryz.zeroValue0
 t3 := Tryz.underlying3
 a3 := Tryz.isAgg3
 z3 := Tryz.sizeOf3
 v3 := Tryz.zeroValue3
 t4 := Tryz.underlying4
 a4 := Tryz.isAgg4
 z4 := Tryz.sizeOf4
 v4 := Tryz.zeroValue4
 t5 := Tryz.underlying5
 a5 := Tryz.isAgg5
 z5 := Tryz.sizeOf5
 v5 := Tryz.zeroValue5
 t9 := Tryz.underlying9
 a9 := Tryz.isAgg9
 z9 := Tryz.sizeOf9
 v9 := Tryz.zeroValue9
 t21 := Tryz.underlying21
 a21 := Tryz.isAgg21
 z21 := Tryz.sizeOf21
 v21 := Tryz.zeroValue21
 t31 := Tryz.underlying40
 a31 := Tryz.isAgg40
 z31 := Tryz.sizeOf40
 v31 := Tryz.zeroValue40
 t46 := Tryz.underlying177
 a46 := Tryz.isAgg177
 z46 := Tryz.sizeOf177
 v46 := Tryz.zeroValue177
 t51 := Tryz.underlying95
 a51 := Tryz.isAgg95
 z51 := Tryz.sizeOf95
 v51 := Tryz.zeroValue95
 t105 := Tryz.underlying109
 a105 := Tryz.isAgg109
 z105 := Tryz.sizeOf109
 v105 := Tryz.zeroValue109
 t119 := Tryz.underlying252
 a119 := Tryz.isAgg252
 z119 := Tryz.sizeOf252
 t138 := Tryz.underlying260
 a138 := Tryz.isAgg260
 z138 := Tryz.sizeOf260
 v138 := Tryz.zeroValue260
 t139 := Tryz.underlying261
 a139 := Tryz.isAgg261
 z139 := Tryz.sizeOf261
 v139 := Tryz.zeroValue261
 t146 := Tryz.underlying262
 a146 := Tryz.isAgg262
 z146 := Tryz.sizeOf262
 v146 := Tryz.zeroValue262
 g1 := by kernel_rfl
 g3 := by kernel_rfl
 g4 := by kernel_rfl }
open Go.RowKit Go.Lib in
theorem Tryz.strings_genSplit (s sep : ByteArray) (sv : Nat) (n : Int) (N : Nat) (m : Int) (w : World) (hs : s.size < 4294967281) (hm : w.cell? ⟨0, 0, none⟩ = some (.int .i64 m)) (h1 : 1 ≤ sep.size) (hsv : sv ≤ sep.size) (hn0 : n ≠ 0) (hn63 : n ≤ 9223372036854775807) (hN : (N : Int) = min (if n < 0 then (Lib.countB s sep : Int) + 1 else n) ((s.size : Int) + 1)) :
  Calls Tryz.prog 32 #[.string s, .string sep, .int .i64 sv, .int .i64 n] w fun e w' =>
   e = .returned (.slice (some ⟨w.heap.size, 0, none⟩) (Lib.splitB sep sv (N - 1) s).length N) ∧ w' = w.alloc (.cells (Lib.cellsOf (Lib.splitB sep sv (N - 1) s) N) 9) := Any.strings_genSplit Tryz.lays221 (by kernel_rfl) s sep sv n N m w hs hm h1 hsv hn0 hn63 hN
def Tryz.lays155_ren : Go.Shelf.Ren := ⟨fun | 155 => 235 | 154 => 315 | 138 => 47 | 165 => 38 | 143 => 48 | 166 => 39 | 197 => 70 | 169 => 40 | 195 => 69 | 218 => 71 | 240 => 63 | 241 => 64 | 219 => 72 | 260 => 119 | 276 => 110 | 277 => 111 | 217 => 45 | 225 => 120 | 224 => 121 | 267 => 122 | 266 => 68 | 314 => 192 | n => n, fun | 9 => 9 | 3 => 3 | 4 => 4 | 72 => 68 | 0 => 0 | 76 => 72 | 105 => 109 | 21 => 21 | 5 => 5 | 70 => 66 | 20 => 20 | 37 => 29 | 75 => 71 | 127 => 90 | 164 => 166 | 46 => 177 | 119 => 252 | 139 => 261 | 138 => 260 | 146 => 262 | 51 => 95 | 80 => 74 | n => n, fun | 1 => 0 | 3 => 2 | 4 => 3 | n => n⟩
theorem Tryz.lays155 : Go.Proofs.Lays.n155 Tryz.prog Tryz.lays155_ren := {
 mixed := by kernel_rfl
 f138 := Tryz.func47.trans (congrArg some (by kernel_rfl))
 f143 := Tryz.func48.trans (congrArg some (by kernel_rfl))
 f154 := Tryz.func315.trans (congrArg some (by kernel_rfl))
 f155 := Tryz.func235.trans (congrArg some (by kernel_rfl))
 f165 := Tryz.func38.trans (congrArg some (by kernel_rfl))
 f166 := Tryz.func39.trans (congrArg some (by kernel_rfl))
 f169 := Tryz.func40.trans (congrArg some (by kernel_rfl))
 f195 := Tryz.func69.trans (congrArg some (by kernel_rfl))
 f197 := Tryz.func70.trans (congrArg some (by kernel_rfl))
 f217 := Tryz.func45.trans (congrArg some (by kernel_rfl))
 f218 := Tryz.func71.trans (congrArg some (by kernel_rfl))
 f219 := Tryz.func72.trans (congrArg some (by kernel_rfl))
 f224 := Tryz.func121.trans (congrArg some (by kernel_rfl))
 f225 := Tryz.func120.trans (congrArg some (by kernel_rfl))
 f240 := Tryz.func63.trans (congrArg some (by kernel_rfl))
 f241 := Tryz.func64.trans (congrArg some (by kernel_rfl))
 f260 := Tryz.func119.trans (congrArg some (by kernel_rfl))
 f266 := Tryz.func68.trans (congrArg some (by kernel_rfl))
 f267 := Tryz.func122.trans (congrArg some (by kernel_rfl))
 f276 := Tryz.func110.trans (congrArg some (by kernel_rfl))
 f277 := Tryz.func111.trans (congrArg some (by kernel_rfl))
 f314 := Tryz.func192.trans (congrArg some (by kernel_rfl))
 t0 := Tryz.underlying0
 a0 := Tryz.isAgg0
 z0 := Tryz.sizeOf0
 v0 := Tryz.zeroValue0
 t3 := Tryz.underlying3
 a3 := Tryz.isAgg3
 z3 := Tryz.sizeOf3
 v3 := Tryz.zeroValue3
 t4 := Tryz.underlying4
 a4 := Tryz.isAgg4
 z4 := Tryz.sizeOf4
 v4 := Tryz.zeroValue4
 t5 := Tryz.underlying5
 a5 := Tryz.isAgg5
 z5 := Tryz.sizeOf5
 v5 := Tryz.zeroValue5
 t9 := Tryz.underlying9
 a9 := Tryz.isAgg9
 z9 := Tryz.sizeOf9
 v9 := Tryz.zeroValue9
 t20 := Tryz.underlying20
 a20 := Tryz.isAgg20
 z20 := Tryz.sizeOf20
 v20 := Tryz.zeroValue20
 t21 := Tryz.underlying21
 a21 := Tryz.isAgg21
 z21 := Tryz.sizeOf21
 v21 := Tryz.zeroValue21
 t37 := Tryz.underlying29
 a37 := Tryz.isAgg29
 z37 := Tryz.sizeOf29
 v37 := Tryz.zeroValue29
 t46 := Tryz.underlying177
 a46 := Tryz.isAgg177
 z46 := Tryz.sizeOf177
 v46 := Tryz.zeroValue177
 t51 := Tryz.underlying95
 a51 := Tryz.isAgg95
 z51 := Tryz.sizeOf95
 v51 := Tryz.zeroValue95
 t70 := Tryz.underlying66
 a70 := Tryz.isAgg66
 z70 := Tryz.sizeOf66
 v70 := Tryz.zeroValue66
 t72 := Tryz.underlying68
 a72 := Tryz.isAgg68
 z72 := Tryz.sizeOf68
 v72 := Tryz.zeroValue68
 t75 := Tryz.underlying71
 a75 := Tryz.isAgg71
 z75 := Tryz.sizeOf71
 v75 := Tryz.zeroValue71
 t76 := Tryz.underlying72
 a76 := Tryz.isAgg72
 z76 := Tryz.sizeOf72
 v76 := Tryz.zeroValue72
 t105 := Tryz.underlying109
 a105 := Tryz.isAgg109
 z105 := Tryz.sizeOf109
 v105 := Tryz.zeroValue109
 t119 := Tryz.underlying252
 a119 := Tryz.isAgg252
 z119 := Tryz.sizeOf252
 t127 := Tryz.underlying90
 a127 := Tryz.isAgg90
 z127 := Tryz.sizeOf90
 v127 := Tryz.zeroValue90
 t138 := Tryz.underlying260
 a138 := Tryz.isAgg260
 z138 := Tryz.sizeOf260
 v138 := Tryz.zeroValue260
 t139 := Tryz.underlying261
 a139 := Tryz.isAgg261
 z139 := Tryz.sizeOf261
 v139 := Tryz.zeroValue261
 t146 := Tryz.underlying262
 a146 := Tryz.isAgg262
 z146 := Tryz.sizeOf262
 v146 := Tryz.zeroValue262
 t164 := Tryz.underlying166
 a164 := Tryz.isAgg166
 z164 := Tryz.sizeOf166
 v164 := Tryz.zeroValue166
 g1 := by kernel_rfl
 g3 := by kernel_rfl
 g4 := by kernel_rfl }
theorem Tryz.Builder_Extra_155 : Builder.Extra Tryz.prog Tryz.lays155_ren := {
 sizeBuilder := by kernel_rfl
 liesBuilder := by kernel_rfl
 t5 := Tryz.underlying5
 a5 := Tryz.isAgg5
 z5 := Tryz.sizeOf5
 v5 := Tryz.zeroValue5
 infoByte := by kernel_rfl
 cellsByte := by kernel_rfl
 sizeByte := by kernel_rfl
 neB5 := by decide }
open Go.RowKit Go.Lib in
theorem Tryz.strings_ReplaceAll (s old new : ByteArray) (m : Int) (w : World) (hs : s.size < 4294967281) (hm : w.cell? ⟨0, 0, none⟩ = some (.int .i64 m)) (h1 : 1 ≤ old.size) (hlen : s.size + Lib.countB s old * new.size ≤ 140737488355328) :
  Calls Tryz.prog 235 #[.string s, .string old, .string new] w fun e w' =>
   e = .returned (.string ⟨(Lib.replaceAll s.data.toList old.data.toList new.data.toList).toArray⟩) ∧ Below w.heap.size w w' := Any.strings_ReplaceAll Tryz.lays155 Tryz.Builder_Extra_155 s old new m w hs hm h1 hlen
end Go.Proofs

namespace Go.Dd
open Go.Proofs
def gP (c : Nat) : List Nat → Nat
 | [] => 0
 | x :: l => bif Nat.beq x c then gP c l + 1 else gP c l
def tC (args : List DV) (h : Hp) : aG :=
 match args with
 | [.s s, .s [c]] => bif Nat.blt c 256 then (bif Nat.ble s.length 4000000000 then some (.i .i64 (Int.ofNat (gP c s)), h) else none) else none
 | _ => none
def isI (k : IntKind) (n : Int) (v : DV) : Bool := match v with
 | .i k' n' => decide (k = k') && decide (n = n')
 | _ => false
noncomputable def aDf (args : List DV) (h : Hp) : aG :=
 match args with
 | [.p r 0, .f 67 [x] []] =>
  bnd (aA (.p r 0) h) fun d _ =>
  bnd (aA (.p r 1) h) fun m _ =>
  cnd (isI .u32 0 d && isI .i32 0 m) (
  bnd (aH 1 (.p r 1) (.i .i32 1) h) fun _ h2 =>
  bnd (mZ CF0 60 67 [x] h2) fun v h3 =>
  bnd (aA (.p r 1) h3) fun m3 _ =>
  cnd (isI .i32 1 m3) (match v with
   | .t [] =>
    bnd (aH 1 (.p r 0) (.i .u32 1) h3) fun _ h4 =>
    bnd (aH 1 (.p r 1) (.i .i32 0) h4) fun _ h5 => some (.t [], h5)
   | _ => none))
 | _ => none
noncomputable def CFq : Cfg := ⟨Tryz.prog, fun g => bif Nat.beq g 47 then some tC else bif Nat.beq g 66 then some aDf else none⟩
noncomputable def s25 (rec : RT) (n : Nat) (x0 : DV) (h0 : Hp) : aG :=
 bnd (aN [(.s []), (.s []), (.s []), (.s []), (.s []), (.s [])] 6 [(0, 1, (.s [10])), (1, 1, (.s [92, 110])), (2, 1, (.s [34])), (3, 1, (.s [92, 34])), (4, 1, (.s [92])), (5, 1, (.s [92, 92]))] h0) fun v1 h1 =>
 bnd (rec 42 [v1] h1) fun v2 h2 =>
 bnd (rec 43 [v2, x0] h2) fun v3 h3 =>
 bnd (cM .add (.s [34]) v3 h3) fun v4 h4 =>
 bnd (cM .add v4 (.s [34]) h4) fun v5 h5 =>
 some (v5, h5)
noncomputable abbrev c25 : Code := cf Tryz.f25
noncomputable def D25 (rec : RT) (n : Nat) (c : Code) (X : Nat → K) (k : K) : K := aM CFq rec 9 n c X (aQ CFq Tryz.f25) k
theorem dOl (rec : RT) (n : Nat) : D25 rec n c25 x0 (aQ CFq Tryz.f25) = (K1 (s25 rec n) 0) :=
 (by kernel_rfl)
theorem dDm (rec : RT) (n : Nat) (args : List DV) (h : Hp) : aF CFq rec n 25 args h = s25 rec n (args.getD 0 aR) h :=
 (by kernel_rfl : aF CFq rec n 25 args h = D25 rec n c25 x0 (aQ CFq Tryz.f25) (aI args) h).trans ((congrFun (congrFun (dOl rec n) (aI args)) h).trans (by kernel_rfl))
noncomputable def bAk (rec : RT) (n : Nat) (x0 : DV) (h0 : Hp) : aG :=
 bnd (bK 1 16 .l0 x0 h0) fun v1 h1 =>
 bnd (bL [(.i .u32 (Int.ofNat 0)), (.i .i32 (Int.ofNat 0)), (.i .u32 (Int.ofNat 0)), .n0, .l0] [(4, 1, v1)] h1) fun v2 h2 =>
 bnd (dB v2 h2) fun v3 h3 =>
 some (v3, h3)
noncomputable def bXq (rec : RT) (n : Nat) (x0 : DV) (h0 : Hp) : aG :=
 bnd (cQ x0 h0) fun v7 h7 =>
 bnd (aD .rem v7 (.i .i64 (Int.ofNat 2)) h7) fun v8 h8 =>
 bnd (aD .eql v8 (.i .i64 (Int.ofNat 1)) h8) fun v9 h9 =>
 aX v9 (
  bnd (none) fun _ h10 =>
  bAk rec n x0 h10) (
  bAk rec n x0 h9)
noncomputable def s42 (rec : RT) (n : Nat) (x0 : DV) (h0 : Hp) : aG :=
 bXq rec n x0 h0
noncomputable abbrev c42 : Code := cf Tryz.f42
noncomputable abbrev aXu : Code := cR c42
noncomputable abbrev dJu : Code := cR aXu
noncomputable abbrev cNq : Code := cL aXu
noncomputable abbrev cMx : Code := cL c42
noncomputable def D42 (rec : RT) (n : Nat) (c : Code) (X : Nat → K) (k : K) : K := aM CFq rec 12 n c X (aQ CFq Tryz.f42) k
theorem dAk (rec : RT) (n : Nat) : D42 rec n dJu x0 (aQ CFq Tryz.f42) = (K1 (bAk rec n) 0) :=
 (by kernel_rfl)
theorem cBo (rec : RT) (n : Nat) : D42 rec n aXu x0 (aQ CFq Tryz.f42) = D42 rec n cNq x0 (K1 (bAk rec n) 0) :=
 congrArg (fun k => D42 rec n cNq x0 k) (dAk rec n)
theorem cTf (rec : RT) (n : Nat) : D42 rec n aXu x0 (aQ CFq Tryz.f42) = (K1 (bXq rec n) 0) :=
 (cBo rec n).trans
 ((by kernel_rfl))
theorem dJn (rec : RT) (n : Nat) : D42 rec n c42 x0 (aQ CFq Tryz.f42) = D42 rec n cMx x0 (K1 (bXq rec n) 0) :=
 congrArg (fun k => D42 rec n cMx x0 k) (cTf rec n)
theorem dOw (rec : RT) (n : Nat) : D42 rec n c42 x0 (aQ CFq Tryz.f42) = (K1 (s42 rec n) 0) :=
 (dJn rec n).trans
 ((by kernel_rfl))
theorem dGz (rec : RT) (n : Nat) (args : List DV) (h : Hp) : aF CFq rec n 42 args h = s42 rec n (args.getD 0 aR) h :=
 (by kernel_rfl : aF CFq rec n 42 args h = D42 rec n c42 x0 (aQ CFq Tryz.f42) (aI args) h).trans ((congrFun (congrFun (dOw rec n) (aI args)) h).trans (by kernel_rfl))
noncomputable def s43 (rec : RT) (n : Nat) (x0 x1 : DV) (h0 : Hp) : aG :=
 bnd (aY x0 h0) fun v1 h1 =>
 bnd (aB 0 v1 h1) fun v2 h2 =>
 bnd (aDf [v2, (.f 67 [x0] [])] h2) fun v3 h3 =>
 bnd (aY x0 h3) fun v4 h4 =>
 bnd (aB 3 v4 h4) fun v5 h5 =>
 bnd (aA v5 h5) fun v6 h6 =>
 bnd (aUj CFq rec v6 "Replace" [x1] h6) fun v7 h7 =>
 some (v7, h7)
noncomputable abbrev c43 : Code := cf Tryz.f43
noncomputable def D43 (rec : RT) (n : Nat) (c : Code) (X : Nat → K) (k : K) : K := aM CFq rec 17 n c X (aQ CFq Tryz.f43) k
theorem dNc (rec : RT) (n : Nat) : D43 rec n c43 x0 (aQ CFq Tryz.f43) = (K2 (s43 rec n) 0 1) :=
 (by kernel_rfl)
theorem dIl (rec : RT) (n : Nat) (args : List DV) (h : Hp) : aF CFq rec n 43 args h = s43 rec n (args.getD 0 aR) (args.getD 1 aR) h :=
 (by kernel_rfl : aF CFq rec n 43 args h = D43 rec n c43 x0 (aQ CFq Tryz.f43) (aI args) h).trans ((congrFun (congrFun (dNc rec n) (aI args)) h).trans (by kernel_rfl))
noncomputable def s67 (rec : RT) (n : Nat) (x0 : DV) (h0 : Hp) : aG :=
 bnd (rec 118 [x0] h0) fun v1 h1 =>
 bnd (aY x0 h1) fun v2 h2 =>
 bnd (aB 3 v2 h2) fun v3 h3 =>
 bnd (aH 1 v3 v1 h3) fun _ h4 =>
 bnd (aY x0 h4) fun v5 h5 =>
 bnd (aB 4 v5 h5) fun v6 h6 =>
 bnd (aH 1 v6 .l0 h6) fun _ h7 =>
 some (.t [], h7)
noncomputable abbrev c67 : Code := cf Tryz.f67
noncomputable def D67 (rec : RT) (n : Nat) (c : Code) (X : Nat → K) (k : K) : K := aM CFq rec 10 n c X (aQ CFq Tryz.f67) k
theorem dLi (rec : RT) (n : Nat) : D67 rec n c67 x0 (aQ CFq Tryz.f67) = (K1 (s67 rec n) 0) :=
 (by kernel_rfl)
theorem dQe (rec : RT) (n : Nat) (args : List DV) (h : Hp) : aF CFq rec n 67 args h = s67 rec n (args.getD 0 aR) h :=
 (by kernel_rfl : aF CFq rec n 67 args h = D67 rec n c67 x0 (aQ CFq Tryz.f67) (aI args) h).trans ((congrFun (congrFun (dLi rec n) (aI args)) h).trans (by kernel_rfl))
noncomputable def dK (rec : RT) (n : Nat) (x12 : DV) (h0 : Hp) : aG :=
 bnd (eY x12 h0) fun v1 h1 =>
 some (v1, h1)
noncomputable def oQ (rec : RT) (n : Nat) (kk10 : dJ) (x0 x1 x12 x13 x14 : DV) (h0 : Hp) : aG :=
 bnd (aD .add x14 (.i .i64 (Int.ofNat 1)) h0) fun v3 h3 =>
 kk10 x0 x1 x12 x13 v3 h3
noncomputable def wQ (rec : RT) (n : Nat) (kk10 : dJ) (x0 x1 x12 x13 x14 : DV) (h0 : Hp) : aG :=
 bnd (bY x1 x14 h0) fun v5 h5 =>
 bnd (aY x0 h5) fun v6 h6 =>
 bnd (aB 0 v6 h6) fun v7 h7 =>
 bnd (eH 256 1 v7 v5 h7) fun v8 h8 =>
 bnd (aA v8 h8) fun v9 h9 =>
 bnd (pEq (.slice 5) false v9 .l0 h9) fun v10 h10 =>
 aX v10 (
  bnd (dN 1 x12 (some x13) none h10) fun v11 h11 =>
  bnd (aY x0 h11) fun v12 h12 =>
  bnd (aB 0 v12 h12) fun v13 h13 =>
  bnd (eH 256 1 v13 v5 h13) fun v14 h14 =>
  bnd (aA v14 h14) fun v15 h15 =>
  bnd (rB 1 v11 v15 h15) fun v16 h16 =>
  bnd (aD .add x13 v16 h16) fun v17 h17 =>
  oQ rec n kk10 x0 x1 x12 v17 x14 h17) (
  bnd (aE 1 x12 x13 h10) fun v18 h18 =>
  bnd (aH 1 v18 v5 h18) fun _ h19 =>
  bnd (aD .add x13 (.i .i64 (Int.ofNat 1)) h19) fun v20 h20 =>
  oQ rec n kk10 x0 x1 x12 v20 x14 h20)
noncomputable def lR (rec : RT) (n : Nat) (kk10 : dJ) (x0 x1 x12 x13 x14 : DV) (h0 : Hp) : aG :=
  bnd (cO x1 h0) fun v37 h37 =>
  bnd (aD .lss x14 v37 h37) fun v38 h38 =>
  aX v38 (
   wQ rec n kk10 x0 x1 x12 x13 x14 h38) (
   dK rec n x12 h38)
noncomputable def kB (rec : RT) (n : Nat) (m : Nat) : dJ :=
 Nat.rec (motive := fun _ => dJ) (fun _ _ _ _ _ _ => none) (fun _ ih => lR rec n ih) m
noncomputable def aVk (rec : RT) (n : Nat) : dJ := kB rec n n
noncomputable def aSx (rec : RT) (n : Nat) (x0 x1 x12 x13 x14 : DV) (h0 : Hp) : aG :=
 aVk rec n x0 x1 x12 x13 x14 h0
noncomputable def aPb (rec : RT) (n : Nat) (x0 x1 x12 x13 : DV) (h0 : Hp) : aG :=
 aSx rec n x0 x1 x12 x13 (.i .i64 (Int.ofNat 0)) h0
noncomputable def yP (rec : RT) (n : Nat) (x0 x1 x12 : DV) (h0 : Hp) : aG :=
 aPb rec n x0 x1 x12 (.i .i64 (Int.ofNat 0)) h0
noncomputable def zU (rec : RT) (n : Nat) (x0 x1 x5 : DV) (h0 : Hp) : aG :=
 bnd (bR 1 1 [(.i .u8 (Int.ofNat 0))] x5 x5 h0) fun v41 h41 =>
 yP rec n x0 x1 v41 h41
noncomputable def bB (rec : RT) (n : Nat) (x0 x1 x5 x6 : DV) (h0 : Hp) : aG :=
 bnd (jK .not x6 h0) fun v45 h45 =>
 aX v45 (
  some (x1, h45)) (
  zU rec n x0 x1 x5 h45)
noncomputable def oG (rec : RT) (n : Nat) (kk16 : TT7) (x0 x1 x5 x6 x30 x31 x32 : DV) (h0 : Hp) : aG :=
 bnd (aD .add x32 (.i .i64 (Int.ofNat 1)) h0) fun v47 h47 =>
 kk16 x0 x1 x5 x6 x30 x31 v47 h47
noncomputable def oH (rec : RT) (n : Nat) (kk16 : TT7) (x0 x1 x5 x6 x30 x31 x32 : DV) (h0 : Hp) : aG :=
 bnd (aE 1 x30 x32 h0) fun v49 h49 =>
 bnd (aA v49 h49) fun v50 h50 =>
 bnd (tC [x1, v50] h50) fun v51 h51 =>
 bnd (aD .neq v51 (.i .i64 (Int.ofNat 0)) h51) fun v52 h52 =>
 aX v52 (
  bnd (bY v50 (.i .i64 (Int.ofNat 0)) h52) fun v53 h53 =>
  bnd (aY x0 h53) fun v54 h54 =>
  bnd (aB 0 v54 h54) fun v55 h55 =>
  bnd (eH 256 1 v55 v53 h55) fun v56 h56 =>
  bnd (aA v56 h56) fun v57 h57 =>
  bnd (cQ v57 h57) fun v58 h58 =>
  bnd (aD .sub v58 (.i .i64 (Int.ofNat 1)) h58) fun v59 h59 =>
  bnd (aD .mul v51 v59 h59) fun v60 h60 =>
  bnd (aD .add x5 v60 h60) fun v61 h61 =>
  oG rec n kk16 x0 x1 v61 (.b true) x30 x31 x32 h61) (
  oG rec n kk16 x0 x1 x5 x6 x30 x31 x32 h52)
noncomputable def rT (rec : RT) (n : Nat) (kk16 : TT7) (x0 x1 x5 x6 x30 x31 x32 x33 : DV) (h0 : Hp) : aG :=
 aX x33 (
  oH rec n kk16 x0 x1 x5 x6 x30 x31 x32 h0) (
  bB rec n x0 x1 x5 x6 h0)
noncomputable def mA (rec : RT) (n : Nat) (kk16 : TT7) (x0 x1 x5 x6 x30 x31 x32 : DV) (h0 : Hp) : aG :=
  bnd (aD .lss x32 x31 h0) fun v75 h75 =>
  rT rec n kk16 x0 x1 x5 x6 x30 x31 x32 v75 h75
noncomputable def iA (rec : RT) (n : Nat) (m : Nat) : TT7 :=
 Nat.rec (motive := fun _ => TT7) (fun _ _ _ _ _ _ _ _ => none) (fun _ ih => mA rec n ih) m
noncomputable def aJd (rec : RT) (n : Nat) : TT7 := iA rec n n
noncomputable def wR (rec : RT) (n : Nat) (x0 x1 x5 x6 x30 x31 x32 : DV) (h0 : Hp) : aG :=
 aJd rec n x0 x1 x5 x6 x30 x31 x32 h0
noncomputable def aHz (rec : RT) (n : Nat) (x0 x1 x5 x6 : DV) (h0 : Hp) : aG :=
 bnd (aY x0 h0) fun v77 h77 =>
 bnd (aB 256 v77 h77) fun v78 h78 =>
 bnd (aA v78 h78) fun v79 h79 =>
 bnd (cQ v79 h79) fun v80 h80 =>
 wR rec n x0 x1 x5 x6 v79 v80 (.i .i64 (Int.ofNat 0)) h80
noncomputable def oP (rec : RT) (n : Nat) (kk22 : dJ) (x0 x1 x5 x6 x10 : DV) (h0 : Hp) : aG :=
 bnd (aD .add x10 (.i .i64 (Int.ofNat 1)) h0) fun v85 h85 =>
 kk22 x0 x1 x5 x6 v85 h85
noncomputable def wL (rec : RT) (n : Nat) (kk22 : dJ) (x0 x1 x5 x6 x10 : DV) (h0 : Hp) : aG :=
 bnd (bY x1 x10 h0) fun v87 h87 =>
 bnd (aY x0 h87) fun v88 h88 =>
 bnd (aB 0 v88 h88) fun v89 h89 =>
 bnd (eH 256 1 v89 v87 h89) fun v90 h90 =>
 bnd (aA v90 h90) fun v91 h91 =>
 bnd (pEq (.slice 5) false v91 .l0 h91) fun v92 h92 =>
 aX v92 (
  bnd (aY x0 h92) fun v93 h93 =>
  bnd (aB 0 v93 h93) fun v94 h94 =>
  bnd (eH 256 1 v94 v87 h94) fun v95 h95 =>
  bnd (aA v95 h95) fun v96 h96 =>
  bnd (cQ v96 h96) fun v97 h97 =>
  bnd (aD .sub v97 (.i .i64 (Int.ofNat 1)) h97) fun v98 h98 =>
  bnd (aD .add x5 v98 h98) fun v99 h99 =>
  oP rec n kk22 x0 x1 v99 (.b true) x10 h99) (
  oP rec n kk22 x0 x1 x5 x6 x10 h92)
noncomputable def lT (rec : RT) (n : Nat) (kk22 : dJ) (x0 x1 x5 x6 x10 : DV) (h0 : Hp) : aG :=
  bnd (cO x1 h0) fun v113 h113 =>
  bnd (aD .lss x10 v113 h113) fun v114 h114 =>
  aX v114 (
   wL rec n kk22 x0 x1 x5 x6 x10 h114) (
   bB rec n x0 x1 x5 x6 h114)
noncomputable def kU (rec : RT) (n : Nat) (m : Nat) : dJ :=
 Nat.rec (motive := fun _ => dJ) (fun _ _ _ _ _ _ => none) (fun _ ih => lT rec n ih) m
noncomputable def aZh (rec : RT) (n : Nat) : dJ := kU rec n n
noncomputable def aKk (rec : RT) (n : Nat) (x0 x1 x5 x6 x10 : DV) (h0 : Hp) : aG :=
 aZh rec n x0 x1 x5 x6 x10 h0
noncomputable def bAw (rec : RT) (n : Nat) (x0 x1 x5 x6 : DV) (h0 : Hp) : aG :=
 aKk rec n x0 x1 x5 x6 (.i .i64 (Int.ofNat 0)) h0
noncomputable def wM (rec : RT) (n : Nat) (x0 x1 x5 x6 x26 : DV) (h0 : Hp) : aG :=
 aX x26 (
  aHz rec n x0 x1 x5 x6 h0) (
  bAw rec n x0 x1 x5 x6 h0)
noncomputable def aHb (rec : RT) (n : Nat) (x0 x1 x5 x6 : DV) (h0 : Hp) : aG :=
 bnd (aY x0 h0) fun v117 h117 =>
 bnd (aB 256 v117 h117) fun v118 h118 =>
 bnd (aA v118 h118) fun v119 h119 =>
 bnd (cQ v119 h119) fun v120 h120 =>
 bnd (aD .mul v120 (.i .i64 (Int.ofNat 8)) h120) fun v121 h121 =>
 bnd (cO x1 h121) fun v122 h122 =>
 bnd (aD .leq v121 v122 h122) fun v123 h123 =>
 wM rec n x0 x1 x5 x6 v123 h123
noncomputable def aGz (rec : RT) (n : Nat) (x0 x1 x5 : DV) (h0 : Hp) : aG :=
 aHb rec n x0 x1 x5 (.b false) h0
noncomputable def aKf (rec : RT) (n : Nat) (x0 x1 : DV) (h0 : Hp) : aG :=
 bnd (cO x1 h0) fun v131 h131 =>
 aGz rec n x0 x1 v131 h131
noncomputable def s582 (rec : RT) (n : Nat) (x0 x1 : DV) (h0 : Hp) : aG :=
 aKf rec n x0 x1 h0
noncomputable abbrev c582 : Code := cf Tryz.f582
noncomputable abbrev aGu : Code := cR c582
noncomputable abbrev aKr : Code := cR aGu
noncomputable abbrev aJf : Code := cR aKr
noncomputable abbrev aJu : Code := cR aJf
noncomputable abbrev aIr : Code := cR aJu
noncomputable abbrev aKh : Code := cR aIr
noncomputable abbrev aFt : Code := cR aKh
noncomputable abbrev cXg : Code := cR aFt
noncomputable abbrev yL : Code := cL aFt
noncomputable abbrev aKt : Code := cR yL
noncomputable abbrev vR : Code := cL aKt
noncomputable abbrev jB : Code := cL vR
noncomputable abbrev wK : Code := cR jB
noncomputable abbrev cKs : Code := cR wK
noncomputable abbrev aXv : Code := cL wK
noncomputable abbrev aVo : Code := cL jB
noncomputable abbrev bBs : Code := cL yL
noncomputable abbrev aZq : Code := cL aKh
noncomputable abbrev aFq : Code := cL aIr
noncomputable abbrev aXj : Code := cL aJu
noncomputable abbrev rC : Code := cL aJf
noncomputable abbrev sM : Code := cR rC
noncomputable abbrev sC : Code := cL sM
noncomputable abbrev aKu : Code := cR sC
noncomputable abbrev xJ : Code := cL aKu
noncomputable abbrev iX : Code := cL xJ
noncomputable abbrev xN : Code := cR iX
noncomputable abbrev vZ : Code := cR xN
noncomputable abbrev bZz : Code := cR vZ
noncomputable abbrev aYr : Code := cL vZ
noncomputable abbrev bAb : Code := cL xN
noncomputable abbrev bAj : Code := cL iX
noncomputable abbrev aYu : Code := cL sC
noncomputable abbrev rJ : Code := cR sM
noncomputable abbrev aFj : Code := cR rJ
noncomputable abbrev xP : Code := cL aFj
noncomputable abbrev jC : Code := cL xP
noncomputable abbrev wZ : Code := cR jC
noncomputable abbrev cIw : Code := cR wZ
noncomputable abbrev aWq : Code := cL wZ
noncomputable abbrev bBw : Code := cL jC
noncomputable abbrev bCc : Code := cL rJ
noncomputable abbrev bAc : Code := cL rC
noncomputable abbrev aVj : Code := cL aKr
noncomputable abbrev aXf : Code := cL aGu
noncomputable abbrev bAy : Code := cL c582
noncomputable def D582 (rec : RT) (n : Nat) (c : Code) (X : Nat → K) (k : K) : K := aM CFq rec 122 n c X (aQ CFq Tryz.f582) k
theorem bYo (rec : RT) (n : Nat) : D582 rec n cXg x0 (aQ CFq Tryz.f582) = (K1 (dK rec n) 12) :=
 (by kernel_rfl)
theorem bMc (rec : RT) (n : Nat) (kk10 : dJ) : D582 rec n cKs (xs x0 4 (K1 (dK rec n) 12)) (K5 kk10 0 1 12 13 14) = (K5 (oQ rec n kk10) 0 1 12 13 14) :=
 (by kernel_rfl)
theorem bFn (rec : RT) (n : Nat) (kk10 : dJ) : D582 rec n wK (xs x0 4 (K1 (dK rec n) 12)) (K5 kk10 0 1 12 13 14) = D582 rec n aXv (xs x0 4 (K1 (dK rec n) 12)) (K5 (oQ rec n kk10) 0 1 12 13 14) :=
 congrArg (fun k => D582 rec n aXv (xs x0 4 (K1 (dK rec n) 12)) k) (bMc rec n kk10)
theorem bSz (rec : RT) (n : Nat) (kk10 : dJ) : D582 rec n wK (xs x0 4 (K1 (dK rec n) 12)) (K5 kk10 0 1 12 13 14) = (K5 (wQ rec n kk10) 0 1 12 13 14) :=
 (bFn rec n kk10).trans
 ((by kernel_rfl))
theorem bGn (rec : RT) (n : Nat) (kk10 : dJ) : D582 rec n jB (xs x0 4 (K1 (dK rec n) 12)) (K5 kk10 0 1 12 13 14) = D582 rec n aVo (xs x0 4 (K1 (dK rec n) 12)) (K5 (wQ rec n kk10) 0 1 12 13 14) :=
 congrArg (fun k => D582 rec n aVo (xs x0 4 (K1 (dK rec n) 12)) k) (bSz rec n kk10)
theorem bEc (rec : RT) (n : Nat) (kk10 : dJ) : D582 rec n jB (xs x0 4 (K1 (dK rec n) 12)) (K5 kk10 0 1 12 13 14) = (K5 (lR rec n kk10) 0 1 12 13 14) :=
 (bGn rec n kk10).trans
 ((by kernel_rfl))
theorem bEd (rec : RT) (n : Nat) (m : Nat) : aL (fun kk => D582 rec n jB (xs x0 4 (K1 (dK rec n) 12)) kk) m = (K5 (kB rec n m) 0 1 12 13 14) := by
 induction m with
 | zero => exact (by kernel_rfl : aL (fun kk => D582 rec n jB (xs x0 4 (K1 (dK rec n) 12)) kk) 0 = (K5 (kB rec n 0) 0 1 12 13 14))
 | succ m ih =>
  refine (by kernel_rfl : aL (fun kk => D582 rec n jB (xs x0 4 (K1 (dK rec n) 12)) kk) (m + 1) = D582 rec n jB (xs x0 4 (K1 (dK rec n) 12)) (aL (fun kk => D582 rec n jB (xs x0 4 (K1 (dK rec n) 12)) kk) m)).trans ?_
  rw [ih]
  exact (bEc rec n (kB rec n m)).trans (by kernel_rfl)
theorem bRj (rec : RT) (n : Nat) : D582 rec n vR (xs x0 4 (K1 (dK rec n) 12)) (K1 (dK rec n) 12) = (K5 (aVk rec n) 0 1 12 13 14) :=
 (by kernel_rfl : D582 rec n vR (xs x0 4 (K1 (dK rec n) 12)) (K1 (dK rec n) 12) = aL (fun kk => D582 rec n jB (xs x0 4 (K1 (dK rec n) 12)) kk) n).trans ((bEd rec n n).trans (by kernel_rfl))
theorem cAz (rec : RT) (n : Nat) : D582 rec n aKt x0 (K1 (dK rec n) 12) = (K5 (aSx rec n) 0 1 12 13 14) :=
 (by kernel_rfl : D582 rec n aKt x0 (K1 (dK rec n) 12) = D582 rec n vR (xs x0 4 (K1 (dK rec n) 12)) (K1 (dK rec n) 12)).trans
 ((bRj rec n).trans (by kernel_rfl))
theorem bRx (rec : RT) (n : Nat) : D582 rec n aFt x0 (aQ CFq Tryz.f582) = D582 rec n yL x0 (K1 (dK rec n) 12) :=
 congrArg (fun k => D582 rec n yL x0 k) (bYo rec n)
theorem bUw (rec : RT) (n : Nat) : D582 rec n yL x0 (K1 (dK rec n) 12) = D582 rec n bBs x0 (K5 (aSx rec n) 0 1 12 13 14) :=
 congrArg (fun k => D582 rec n bBs x0 k) (cAz rec n)
theorem cMg (rec : RT) (n : Nat) : D582 rec n aFt x0 (aQ CFq Tryz.f582) = (K4 (aPb rec n) 0 1 12 13) :=
 (bRx rec n).trans
 ((bUw rec n).trans
 ((by kernel_rfl)))
theorem bJu (rec : RT) (n : Nat) : D582 rec n aKh x0 (aQ CFq Tryz.f582) = D582 rec n aZq x0 (K4 (aPb rec n) 0 1 12 13) :=
 congrArg (fun k => D582 rec n aZq x0 k) (cMg rec n)
theorem bZv (rec : RT) (n : Nat) : D582 rec n aKh x0 (aQ CFq Tryz.f582) = (K3 (yP rec n) 0 1 12) :=
 (bJu rec n).trans
 ((by kernel_rfl))
theorem bVl (rec : RT) (n : Nat) : D582 rec n aIr x0 (aQ CFq Tryz.f582) = D582 rec n aFq x0 (K3 (yP rec n) 0 1 12) :=
 congrArg (fun k => D582 rec n aFq x0 k) (bZv rec n)
theorem bVn (rec : RT) (n : Nat) (q0 : gE) : D582 rec n aFq x0 (K3 q0 0 1 12) = fun (env : bC) (h : Hp) =>
  bnd (bR 1 1 [(.i .u8 (Int.ofNat 0))] (env 5) (env 5) h) fun v43 h43 =>
  q0 (env 0) (env 1) v43 h43 := by kernel_rfl
theorem bHb (rec : RT) (n : Nat) : (fun (env : bC) (h : Hp) =>
  bnd (bR 1 1 [(.i .u8 (Int.ofNat 0))] (env 5) (env 5) h) fun v44 h44 =>
  yP rec n (env 0) (env 1) v44 h44) = (K3 (zU rec n) 0 1 5) := by kernel_rfl
theorem cDy (rec : RT) (n : Nat) : D582 rec n aIr x0 (aQ CFq Tryz.f582) = (K3 (zU rec n) 0 1 5) :=
 (bVl rec n).trans
 ((bVn rec n (yP rec n)).trans (bHb rec n))
theorem bHk (rec : RT) (n : Nat) : D582 rec n aJu x0 (aQ CFq Tryz.f582) = D582 rec n aXj x0 (K3 (zU rec n) 0 1 5) :=
 congrArg (fun k => D582 rec n aXj x0 k) (cDy rec n)
theorem cLe (rec : RT) (n : Nat) : D582 rec n aJu x0 (aQ CFq Tryz.f582) = (K4 (bB rec n) 0 1 5 6) :=
 (bHk rec n).trans
 ((by kernel_rfl))
theorem bSw (rec : RT) (n : Nat) (kk16 : TT7) : D582 rec n bZz (xs x0 0 (K4 (bB rec n) 0 1 5 6)) (K7 kk16 0 1 5 6 30 31 32) = (K7 (oG rec n kk16) 0 1 5 6 30 31 32) :=
 (by kernel_rfl)
theorem bCy (rec : RT) (n : Nat) (kk16 : TT7) : D582 rec n vZ (xs x0 0 (K4 (bB rec n) 0 1 5 6)) (K7 kk16 0 1 5 6 30 31 32) = D582 rec n aYr (xs x0 0 (K4 (bB rec n) 0 1 5 6)) (K7 (oG rec n kk16) 0 1 5 6 30 31 32) :=
 congrArg (fun k => D582 rec n aYr (xs x0 0 (K4 (bB rec n) 0 1 5 6)) k) (bSw rec n kk16)
theorem bKc (rec : RT) (n : Nat) (kk16 : TT7) : D582 rec n vZ (xs x0 0 (K4 (bB rec n) 0 1 5 6)) (K7 kk16 0 1 5 6 30 31 32) = (K7 (oH rec n kk16) 0 1 5 6 30 31 32) :=
 (bCy rec n kk16).trans
 ((by kernel_rfl))
theorem aTk (rec : RT) (n : Nat) (kk16 : TT7) : D582 rec n xN (xs x0 0 (K4 (bB rec n) 0 1 5 6)) (K7 kk16 0 1 5 6 30 31 32) = D582 rec n bAb (xs x0 0 (K4 (bB rec n) 0 1 5 6)) (K7 (oH rec n kk16) 0 1 5 6 30 31 32) :=
 congrArg (fun k => D582 rec n bAb (xs x0 0 (K4 (bB rec n) 0 1 5 6)) k) (bKc rec n kk16)
theorem bPy (rec : RT) (n : Nat) (kk16 : TT7) : D582 rec n xN (xs x0 0 (K4 (bB rec n) 0 1 5 6)) (K7 kk16 0 1 5 6 30 31 32) = (K8 (rT rec n kk16) 0 1 5 6 30 31 32 33) :=
 (aTk rec n kk16).trans
 ((by kernel_rfl))
theorem aRn (rec : RT) (n : Nat) (kk16 : TT7) : D582 rec n iX (xs x0 0 (K4 (bB rec n) 0 1 5 6)) (K7 kk16 0 1 5 6 30 31 32) = D582 rec n bAj (xs x0 0 (K4 (bB rec n) 0 1 5 6)) (K8 (rT rec n kk16) 0 1 5 6 30 31 32 33) :=
 congrArg (fun k => D582 rec n bAj (xs x0 0 (K4 (bB rec n) 0 1 5 6)) k) (bPy rec n kk16)
theorem bDc (rec : RT) (n : Nat) (kk16 : TT7) : D582 rec n iX (xs x0 0 (K4 (bB rec n) 0 1 5 6)) (K7 kk16 0 1 5 6 30 31 32) = (K7 (mA rec n kk16) 0 1 5 6 30 31 32) :=
 (aRn rec n kk16).trans
 ((by kernel_rfl))
theorem bDm (rec : RT) (n : Nat) (m : Nat) : aL (fun kk => D582 rec n iX (xs x0 0 (K4 (bB rec n) 0 1 5 6)) kk) m = (K7 (iA rec n m) 0 1 5 6 30 31 32) := by
 induction m with
 | zero => exact (by kernel_rfl : aL (fun kk => D582 rec n iX (xs x0 0 (K4 (bB rec n) 0 1 5 6)) kk) 0 = (K7 (iA rec n 0) 0 1 5 6 30 31 32))
 | succ m ih =>
  refine (by kernel_rfl : aL (fun kk => D582 rec n iX (xs x0 0 (K4 (bB rec n) 0 1 5 6)) kk) (m + 1) = D582 rec n iX (xs x0 0 (K4 (bB rec n) 0 1 5 6)) (aL (fun kk => D582 rec n iX (xs x0 0 (K4 (bB rec n) 0 1 5 6)) kk) m)).trans ?_
  rw [ih]
  exact (bDc rec n (iA rec n m)).trans (by kernel_rfl)
theorem bWi (rec : RT) (n : Nat) : D582 rec n xJ (xs x0 0 (K4 (bB rec n) 0 1 5 6)) (K4 (bB rec n) 0 1 5 6) = (K7 (aJd rec n) 0 1 5 6 30 31 32) :=
 (by kernel_rfl : D582 rec n xJ (xs x0 0 (K4 (bB rec n) 0 1 5 6)) (K4 (bB rec n) 0 1 5 6) = aL (fun kk => D582 rec n iX (xs x0 0 (K4 (bB rec n) 0 1 5 6)) kk) n).trans ((bDm rec n n).trans (by kernel_rfl))
theorem bMs (rec : RT) (n : Nat) : D582 rec n aKu x0 (K4 (bB rec n) 0 1 5 6) = (K7 (wR rec n) 0 1 5 6 30 31 32) :=
 (by kernel_rfl : D582 rec n aKu x0 (K4 (bB rec n) 0 1 5 6) = D582 rec n xJ (xs x0 0 (K4 (bB rec n) 0 1 5 6)) (K4 (bB rec n) 0 1 5 6)).trans
 ((bWi rec n).trans (by kernel_rfl))
theorem aSp (rec : RT) (n : Nat) : D582 rec n sC x0 (K4 (bB rec n) 0 1 5 6) = D582 rec n aYu x0 (K7 (wR rec n) 0 1 5 6 30 31 32) :=
 congrArg (fun k => D582 rec n aYu x0 k) (bMs rec n)
theorem bHr (rec : RT) (n : Nat) : D582 rec n sC x0 (K4 (bB rec n) 0 1 5 6) = (K4 (aHz rec n) 0 1 5 6) :=
 (aSp rec n).trans
 ((by kernel_rfl))
theorem bUd (rec : RT) (n : Nat) (kk22 : dJ) : D582 rec n cIw (xs x0 2 (K4 (bB rec n) 0 1 5 6)) (K5 kk22 0 1 5 6 10) = (K5 (oP rec n kk22) 0 1 5 6 10) :=
 (by kernel_rfl)
theorem aQx (rec : RT) (n : Nat) (kk22 : dJ) : D582 rec n wZ (xs x0 2 (K4 (bB rec n) 0 1 5 6)) (K5 kk22 0 1 5 6 10) = D582 rec n aWq (xs x0 2 (K4 (bB rec n) 0 1 5 6)) (K5 (oP rec n kk22) 0 1 5 6 10) :=
 congrArg (fun k => D582 rec n aWq (xs x0 2 (K4 (bB rec n) 0 1 5 6)) k) (bUd rec n kk22)
theorem bPb (rec : RT) (n : Nat) (kk22 : dJ) : D582 rec n wZ (xs x0 2 (K4 (bB rec n) 0 1 5 6)) (K5 kk22 0 1 5 6 10) = (K5 (wL rec n kk22) 0 1 5 6 10) :=
 (aQx rec n kk22).trans
 ((by kernel_rfl))
theorem aSq (rec : RT) (n : Nat) (kk22 : dJ) : D582 rec n jC (xs x0 2 (K4 (bB rec n) 0 1 5 6)) (K5 kk22 0 1 5 6 10) = D582 rec n bBw (xs x0 2 (K4 (bB rec n) 0 1 5 6)) (K5 (wL rec n kk22) 0 1 5 6 10) :=
 congrArg (fun k => D582 rec n bBw (xs x0 2 (K4 (bB rec n) 0 1 5 6)) k) (bPb rec n kk22)
theorem bGo (rec : RT) (n : Nat) (kk22 : dJ) : D582 rec n jC (xs x0 2 (K4 (bB rec n) 0 1 5 6)) (K5 kk22 0 1 5 6 10) = (K5 (lT rec n kk22) 0 1 5 6 10) :=
 (aSq rec n kk22).trans
 ((by kernel_rfl))
theorem bCz (rec : RT) (n : Nat) (m : Nat) : aL (fun kk => D582 rec n jC (xs x0 2 (K4 (bB rec n) 0 1 5 6)) kk) m = (K5 (kU rec n m) 0 1 5 6 10) := by
 induction m with
 | zero => exact (by kernel_rfl : aL (fun kk => D582 rec n jC (xs x0 2 (K4 (bB rec n) 0 1 5 6)) kk) 0 = (K5 (kU rec n 0) 0 1 5 6 10))
 | succ m ih =>
  refine (by kernel_rfl : aL (fun kk => D582 rec n jC (xs x0 2 (K4 (bB rec n) 0 1 5 6)) kk) (m + 1) = D582 rec n jC (xs x0 2 (K4 (bB rec n) 0 1 5 6)) (aL (fun kk => D582 rec n jC (xs x0 2 (K4 (bB rec n) 0 1 5 6)) kk) m)).trans ?_
  rw [ih]
  exact (bGo rec n (kU rec n m)).trans (by kernel_rfl)
theorem bNu (rec : RT) (n : Nat) : D582 rec n xP (xs x0 2 (K4 (bB rec n) 0 1 5 6)) (K4 (bB rec n) 0 1 5 6) = (K5 (aZh rec n) 0 1 5 6 10) :=
 (by kernel_rfl : D582 rec n xP (xs x0 2 (K4 (bB rec n) 0 1 5 6)) (K4 (bB rec n) 0 1 5 6) = aL (fun kk => D582 rec n jC (xs x0 2 (K4 (bB rec n) 0 1 5 6)) kk) n).trans ((bCz rec n n).trans (by kernel_rfl))
theorem bWm (rec : RT) (n : Nat) : D582 rec n aFj x0 (K4 (bB rec n) 0 1 5 6) = (K5 (aKk rec n) 0 1 5 6 10) :=
 (by kernel_rfl : D582 rec n aFj x0 (K4 (bB rec n) 0 1 5 6) = D582 rec n xP (xs x0 2 (K4 (bB rec n) 0 1 5 6)) (K4 (bB rec n) 0 1 5 6)).trans
 ((bNu rec n).trans (by kernel_rfl))
theorem aUi (rec : RT) (n : Nat) : D582 rec n rJ x0 (K4 (bB rec n) 0 1 5 6) = D582 rec n bCc x0 (K5 (aKk rec n) 0 1 5 6 10) :=
 congrArg (fun k => D582 rec n bCc x0 k) (bWm rec n)
theorem bWs (rec : RT) (n : Nat) : D582 rec n rJ x0 (K4 (bB rec n) 0 1 5 6) = (K4 (bAw rec n) 0 1 5 6) :=
 (aUi rec n).trans
 ((by kernel_rfl))
theorem bSb (rec : RT) (n : Nat) : D582 rec n sM x0 (K4 (bB rec n) 0 1 5 6) = (K5 (wM rec n) 0 1 5 6 26) :=
 (by kernel_rfl : D582 rec n sM x0 (K4 (bB rec n) 0 1 5 6) = (fun (env : bC) (h : Hp) => aX (opr env (cC sM)) (D582 rec n sC x0 (K4 (bB rec n) 0 1 5 6) env h) (D582 rec n rJ x0 (K4 (bB rec n) 0 1 5 6) env h))).trans (by rw [bHr rec n, bWs rec n]; kernel_rfl)
theorem bFg (rec : RT) (n : Nat) : D582 rec n aJf x0 (aQ CFq Tryz.f582) = D582 rec n rC x0 (K4 (bB rec n) 0 1 5 6) :=
 congrArg (fun k => D582 rec n rC x0 k) (cLe rec n)
theorem bGr (rec : RT) (n : Nat) : D582 rec n rC x0 (K4 (bB rec n) 0 1 5 6) = D582 rec n bAc x0 (K5 (wM rec n) 0 1 5 6 26) :=
 congrArg (fun k => D582 rec n bAc x0 k) (bSb rec n)
theorem bYr (rec : RT) (n : Nat) : D582 rec n aJf x0 (aQ CFq Tryz.f582) = (K4 (aHb rec n) 0 1 5 6) :=
 (bFg rec n).trans
 ((bGr rec n).trans
 ((by kernel_rfl)))
theorem bEw (rec : RT) (n : Nat) : D582 rec n aKr x0 (aQ CFq Tryz.f582) = D582 rec n aVj x0 (K4 (aHb rec n) 0 1 5 6) :=
 congrArg (fun k => D582 rec n aVj x0 k) (bYr rec n)
theorem cCh (rec : RT) (n : Nat) : D582 rec n aKr x0 (aQ CFq Tryz.f582) = (K3 (aGz rec n) 0 1 5) :=
 (bEw rec n).trans
 ((by kernel_rfl))
theorem bEl (rec : RT) (n : Nat) : D582 rec n aGu x0 (aQ CFq Tryz.f582) = D582 rec n aXf x0 (K3 (aGz rec n) 0 1 5) :=
 congrArg (fun k => D582 rec n aXf x0 k) (cCh rec n)
theorem cLf (rec : RT) (n : Nat) : D582 rec n aGu x0 (aQ CFq Tryz.f582) = (K2 (aKf rec n) 0 1) :=
 (bEl rec n).trans
 ((by kernel_rfl))
theorem cAa (rec : RT) (n : Nat) : D582 rec n c582 x0 (aQ CFq Tryz.f582) = D582 rec n bAy x0 (K2 (aKf rec n) 0 1) :=
 congrArg (fun k => D582 rec n bAy x0 k) (cLf rec n)
theorem dFl (rec : RT) (n : Nat) : D582 rec n c582 x0 (aQ CFq Tryz.f582) = (K2 (s582 rec n) 0 1) :=
 (cAa rec n).trans
 ((by kernel_rfl))
theorem cRx (rec : RT) (n : Nat) (args : List DV) (h : Hp) : aF CFq rec n 582 args h = s582 rec n (args.getD 0 aR) (args.getD 1 aR) h :=
 (by kernel_rfl : aF CFq rec n 582 args h = D582 rec n c582 x0 (aQ CFq Tryz.f582) (aI args) h).trans ((congrFun (congrFun (dFl rec n) (aI args)) h).trans (by kernel_rfl))
end Go.Dd

namespace Go.Dd
open Go.Proofs Go.RowKit
def gdS (w : World) (W : Facts w) (N : Nat) : Gd := ⟨w.heap.size, fun _ => False, N, w.heap, fun w' h => W.keep fun k hk => h k (Nat.lt_of_lt_of_le hk W.eight)⟩
theorem HR.empty (w : World) (W : Facts w) (N : Nat) (p : Pos) (hN : N ≤ p.toNat) : HR (gdS w W N) (fun _ => none) ⟨p, .e⟩ w := by
 constructor
 ·exact fun _ _ => rfl
 ·exact ⟨Nat.le_refl _, fun _ h => h.elim⟩
 ·exact hN
 ·rintro b a ⟨k, l, L, _, h2, _⟩; cases h2
 ·intro b o h; cases b <;> cases h
 ·intro b L h; cases h
 ·intro b k l L i v h h2; cases h2
 ·intro b l L es j h h2; cases h2
 ·rintro b a ⟨k, l, L, _, h2, _⟩; cases h2
 ·rintro b b' a ⟨k, l, L, _, h2, _⟩; cases h2
 ·intro b l L h h2; cases h2
 ·intro b es l i v h; cases b <;> cases h
 ·intro b s pos L h h2; cases h2
 ·intro b s pos b' s' pos' L L' h h' h2; cases h2
theorem aCq {f : FuncId} {args : List DV} {F : List DV → Hp → aG} {v : DV} {g1 : Hp} (hF : ∀ G, gF Tryz.prog G f F) {p : Pos} (hr : F args ⟨p, .e⟩ = some (v, g1)) (fn : Func) (hf : Tryz.prog.funcs[f]? = some fn) (hb : fn.body.isSome = true)
  (w : World) (W : Facts w) (args' : Array Value) (hargs : VRs (fun _ => none) args args'.toList) :
  Calls Tryz.prog f args' w fun e w' => ∃ ρ' v', e = .returned v' ∧ VR ρ' v v' ∧ HR (gdS w W p.toNat) ρ' g1 w' ∧ Below w.heap.size w w' ∧ ∀ b L, ρ' b = some L → p.toNat ≤ b.toNat := by
 have H : HR (gdS w W p.toNat) (fun _ => none) ⟨p, .e⟩ w := HR.empty w W p.toNat p (Nat.le_refl _)
 rcases hF (gdS w W p.toNat) args ⟨p, .e⟩ v g1 hr _ w args' H hargs with ⟨_, h⟩ | ⟨ρ', w', v', h, _⟩
 ·refine h.mono ?_
  rintro e w' ⟨ρ', v', h1, h2, h3, h4, h5⟩
  exact ⟨ρ', v', h1, h3, h4, h5.low, fun b L hL => (h2.new b L hL).resolve_left (fun e => by cases e)⟩
 ·exfalso
  have hn : ¬ fn.name = "runtime.NumGoroutine" := by simpa using Try_ok.names f fn hf
  have hbn : fn.body ≠ none := by intro e; rw [e] at hb; cases hb
  unfold callFunc at h
  simp [hf, hn, hbn] at h
theorem zX {f : FuncId} {fn : Func} (hf : Tryz.prog.funcs[f]? = some fn) (hb : fn.body.isSome = true) (args : Array Value) (w : World) : (callFunc f args).run Tryz.prog w = .ok (.enter f args) w := by
 have hn : ¬ fn.name = "runtime.NumGoroutine" := by simpa using Try_ok.names f fn hf
 have hbn : fn.body ≠ none := by intro e; rw [e] at hb; cases hb
 unfold callFunc
 simp [hf, hn, hbn]
end Go.Dd

namespace Go.Dd
open Go.Proofs Go.Lib Go.RowKit
theorem CallFn.of {G : Gd} {ρ : Ren} {w : World} {v : DV} {h1 : Hp} {g : FuncId} {args' : Array Value} (fn : Func) (hf : Tryz.prog.funcs[g]? = some fn) (hb : fn.body.isSome = true)
  (hc : Calls Tryz.prog g args' w (kV G ρ w v h1)) : CallFn CF1.P G ρ w v h1 g args' := by
 refine .inl ⟨?_, hc⟩
 have hf' : CF1.P.funcs[g]? = some fn := hf
 have hn : ¬ fn.name = "runtime.NumGoroutine" := by simpa using Try_ok.names g fn hf'
 have hbn : fn.body ≠ none := by intro e; rw [e] at hb; cases hb
 unfold callFunc
 simp [hf', hn, hbn]
theorem aAs : ∀ (f n : Nat) (acc : List Nat), n < 10 ^ f → 0 < f → iC f n acc = (Lib.decDigits n).map (·.toNat) ++ acc
 | 0, n, acc, h, h0 => by omega
 | f + 1, n, acc, h, _ => by
  have hd : ∀ d, d < 10 → (UInt8.ofNat (48 + d)).toNat = 48 + d := fun d hd => by simp; omega
  unfold iC
  rw [Lib.decDigits]
  cases e : Nat.ble 10 n with
  | false =>
   have hn : n < 10 := by
    rcases Nat.lt_or_ge n 10 with h | h
    ·exact h
    ·rw [Nat.ble_eq_true_of_le h] at e; cases e
   simp only [cond_false]
   rw [dif_pos hn]
   show (48 + n) :: acc = _
   simp [hd n hn]
   omega
  | true =>
   have hn := Nat.le_of_ble_eq_true e
   simp only [cond_true]
   rw [dif_neg (by omega)]
   have hf : 0 < f := by
    rcases Nat.eq_zero_or_pos f with h1 | h1
    ·subst h1; simp at h; omega
    ·exact h1
   show iC f (n / 10) ((48 + n % 10) :: acc) = _
   rw [aAs f (n / 10) _ (by rw [Nat.pow_succ] at h; omega) hf]
   simp [hd (n % 10) (by omega)]
   omega
theorem bXj (n : Int) (h0 : -9223372036854775808 ≤ n) (h1 : n ≤ 9223372036854775807) : cE n = (Lib.itoa n).map (·.toNat) := by
 unfold Lib.itoa cE
 cases n with
 | ofNat n =>
  rw [if_neg (by simp)]
  simp only
  rw [aAs 20 n [] (by simp at h1; omega) (by omega)]
  simp
 | negSucc n =>
  rw [if_pos (by omega)]
  simp only
  rw [aAs 20 _ [] (by show n + 1 < _; omega) (by omega)]
  simp
theorem aUy (G : Gd) : gF CF1.P G 24 kR := by
 intro args h v h1 hr ρ w args' H hargs
 unfold kR at hr
 split at hr <;> (try (cases hr; done))
 rename_i n
 cases hc : (decide (-9223372036854775808 ≤ n) && decide (n ≤ 9223372036854775807)) with
 | false => rw [hc] at hr; cases hr
 | true =>
 rw [hc] at hr
 simp only [Bool.and_eq_true, decide_eq_true_eq] at hc
 simp only [cond_true, aT, bF] at hr
 obtain ⟨rfl, rfl⟩ := hr
 obtain ⟨a⟩ := args'
 cases hargs with
 | cons _ x' l1 l1' hx hxs =>
 cases hxs
 cases hx
 refine CallFn.of Tryz.f24 (by kernel_rfl) (by kernel_rfl) ?_
 have F := (G.ok w H.gl).1
 have htab : Lib.TabIs Tryz.prog w "internal/strconv.uint64pow10" .u64 Lib.pow10Tab := by
  obtain ⟨_, t, z, ht⟩ := F
  have hg : Tryz.prog.globalNamed "internal/strconv.uint64pow10" = some 1 := by kernel_rfl
  unfold Lib.TabIs World.var?
  rw [hg]
  simp only [Option.bind_some, ht]
 refine (Tryz.strconv_Itoa n hc.1 hc.2 w htab).mono ?_
 rintro e w' ⟨rfl, k, os, rfl⟩
 have hbel : Below w.heap.size w (Sort.grow (w.drewN k) os) := ⟨rfl, rfl, rfl, by simp [Sort.grow, World.drewN], fun i hi => by
  show (w.heap ++ os)[i]? = _
  rw [Array.getElem?_append_left hi]⟩
 exact ⟨ρ, _, rfl, Ex.refl _ _, .s _ _ (bXj n hc.1 hc.2).symm, H.later hbel, Kp.later H hbel⟩
theorem bTm (b c : UInt8) : Nat.beq b.toNat c.toNat = (b == c) := by
 rw [Bool.eq_iff_iff]
 constructor
 ·intro h
  have := Nat.eq_of_beq_eq_true h
  simpa using UInt8.toNat_inj.1 this
 ·intro h
  have h2 : b = c := by simpa using h
  rw [h2]; simp
theorem aEg {bs : ByteArray} {c : Nat} (h : bs.data.toList.map (·.toNat) = [c]) : ∃ u : UInt8, bs = ⟨#[u]⟩ ∧ u.toNat = c := by
 obtain ⟨⟨l⟩⟩ := bs
 match l, h with
 | [u], h => exact ⟨u, rfl, by simpa using h⟩
def pH (c : UInt8) (new : List UInt8) : List UInt8 → List UInt8
 | [] => []
 | x :: l => if x = c then new ++ pH c new l else x :: pH c new l
theorem zI {b c : UInt8} {l : List UInt8} (h : b ≠ c) {i : Nat} (hi : index l [c] = i) : index (b :: l) [c] = ((i + 1 : Nat) : Int) := by
 have hp : ([c] : List UInt8).isPrefixOf (b :: l) = false := by simp [List.isPrefixOf, Ne.symm h]
 rw [index, hp, hi]
 simp
theorem aAw {c : UInt8} {l : List UInt8} : index (c :: l) [c] = ((0 : Nat) : Int) := by
 rw [index]; simp [List.isPrefixOf]
theorem aMc (c : UInt8) (new : List UInt8) : ∀ s : List UInt8, replaceK [c] new (count s [c]) s = pH c new s
 | [] => by rw [count_one]; rfl
 | b :: l => by
  have ih := aMc c new l
  by_cases h : b = c
  ·subst h
   rw [count_cons_eq, Nat.add_comm, replaceK_hit _ _ _ _ 0 aAw]
   simp [pH, ih]
  ·rw [count_cons_ne _ _ _ h]
   simp only [pH, if_neg h]
   cases hk : count l [c] with
   | zero =>
    rw [hk] at ih
    simp only [replaceK] at ih ⊢
    rw [← ih]
   | succ k =>
    rw [hk] at ih
    obtain ⟨i, hi⟩ := index_of_count (s := l) (old := [c]) (by omega)
    rw [replaceK_hit _ _ _ _ i hi] at ih
    rw [replaceK_hit _ _ _ _ (i + 1) (zI h hi), ← ih]
    simp [Nat.add_right_comm]
theorem yM (c : UInt8) : ∀ s : List UInt8, pH c [c] s = s
 | [] => rfl
 | x :: l => by
  simp only [pH, yM c l]
  split
  ·rename_i h; subst h; rfl
  ·rfl
theorem bQl (s : List UInt8) (c : UInt8) (new : List UInt8) : replaceAll s [c] new = pH c new s := by
 unfold replaceAll replace
 split
 ·rename_i h
  have : [c] = new := by simpa using h
  subst this
  rw [yM]
 ·unfold replaceNum
  rw [if_pos (.inl (by decide))]
  exact aMc c new s
theorem aOg (c : UInt8) (new : List UInt8) : ∀ s : List UInt8, aMv c.toNat (new.map (·.toNat)) (s.map (·.toNat)) = (pH c new s).map (·.toNat)
 | [] => rfl
 | x :: l => by
  simp only [List.map_cons, aMv, pH, aOg c new l, bTm]
  by_cases h : x = c
  ·subst h; simp
  ·rw [if_neg h, show (x == c) = false by simpa using h]; simp
theorem cEu (G : Gd) : gF CF1.P G 235 aDo := by
 intro args h v h1 hr ρ w args' H hargs
 unfold aDo at hr
 split at hr <;> (try (cases hr; done))
 rename_i s c new
 cases hc : Nat.blt c 256 with
 | false => rw [hc] at hr; cases hr
 | true =>
 rw [hc] at hr
 cases hc2 : Nat.ble s.length 4000000000 with
 | false => rw [hc2] at hr; cases hr
 | true =>
 rw [hc2] at hr
 cases hc3 : Nat.ble new.length 1000 with
 | false => rw [hc3] at hr; cases hr
 | true =>
 rw [hc3] at hr
 have hs' := Nat.le_of_ble_eq_true hc2
 have hn' := Nat.le_of_ble_eq_true hc3
 simp only [cond_true, aT, bF] at hr
 obtain ⟨rfl, rfl⟩ := hr
 obtain ⟨a⟩ := args'
 cases hargs with
 | cons _ x' l1 l1' hx hxs =>
 cases hxs with
 | cons _ y' l2 l2' hy hys =>
 cases hys with
 | cons _ z' l3 l3' hz hzs =>
 cases hzs
 cases hx with
 | s _ bs hbs =>
 cases hy with
 | s _ bc hbc =>
 cases hz with
 | s _ bn hbn =>
 obtain ⟨u, rfl, rfl⟩ := aEg hbc
 subst hbs hbn
 have e1 : bs.size ≤ 4000000000 := by rw [List.length_map, Array.length_toList] at hs'; exact hs'
 have e2 : bn.size ≤ 1000 := by rw [List.length_map, Array.length_toList] at hn'; exact hn'
 refine CallFn.of Tryz.f235 (by kernel_rfl) (by kernel_rfl) ?_
 obtain ⟨⟨⟨m, hm⟩, _⟩, _⟩ := G.ok w H.gl
 have hcnt : countB bs ⟨#[u]⟩ ≤ bs.size := countB_le _ (by simp [ByteArray.size]) _ _ (Nat.le_refl _)
 have hmul : countB bs ⟨#[u]⟩ * bn.size ≤ 4000000000 * 1000 := Nat.mul_le_mul (by omega) e2
 refine (Tryz.strings_ReplaceAll bs ⟨#[u]⟩ bn m w (by omega) hm (by simp [ByteArray.size]) (by omega)).mono ?_
 rintro e w' ⟨rfl, hbel⟩
 refine ⟨ρ, _, rfl, Ex.refl _ _, .s _ _ ?_, H.later hbel, Kp.later H hbel⟩
 rw [aOg, ← bQl]
theorem aBj (sep : List UInt8) : ∀ xs : List (List UInt8), jP (sep.map (·.toNat)) (xs.map (·.map (·.toNat))) = (Lib.join xs sep).map (·.toNat)
 | [] => rfl
 | [x] => by simp [jP, Lib.join, List.intercalate]
 | x :: y :: l => by
  have ih := aBj sep (y :: l)
  simp only [List.map_cons] at ih ⊢
  rw [jP, ih]
  simp [Lib.join, List.intercalate, List.map_append]
theorem aNn {ρ : Ren} : ∀ {cells : List DV} {vs : List Value} {l : List (List Nat)}, VRs ρ cells vs → pA cells = some l → ∃ xs : List ByteArray, vs = xs.map Value.string ∧ l = xs.map fun x => x.data.toList.map (·.toNat)
 | [], _, _, .nil, e => by
  simp only [pA, aT] at e
  exact ⟨[], rfl, e.symm⟩
 | x :: c, _, _, .cons _ x' _ vs hx hs, e => by
  cases hx <;> try (simp [pA] at e; done)
  rename_i t bs hb
  simp only [pA, Option.map_eq_some_iff] at e
  obtain ⟨l0, e0, rfl⟩ := e
  obtain ⟨xs, rfl, rfl⟩ := aNn hs e0
  exact ⟨bs :: xs, rfl, by simp [hb]⟩
theorem bMu {w : World} {L : Loc} {i : Nat} {v : Value} (h : w.cell? (eF L i) = some v) : eF L i = ⟨L.bl, L.of + i, none⟩ := by
 unfold eF at *
 by_cases e : i = 0
 ·subst e
  simp only [if_true] at h ⊢
  cases hs : L.spot with
  | none => rfl
  | some s =>
   rw [hs] at h
   unfold World.cell? at h
   split at h <;> simp at h
 ·simp [e]
theorem aAn (xs : List ByteArray) : (xs.map fun x => x.data.toList.map (·.toNat)) = (xs.map (·.data.toList)).map (·.map (·.toNat)) := by simp
theorem cCb (G : Gd) : gF CF1.P G 23 rN := by
 intro args h v h1 hr ρ w args' H hargs
 unfold rN at hr
 split at hr <;> (try (cases hr; done))
 rename_i x sep hno
 split at hr <;> (try (cases hr; done))
 rename_i n cells hsrc
 split at hr <;> (try (cases hr; done))
 rename_i l hl
 cases hc : Nat.ble (jP sep l).length 100000000000 with
 | false => rw [hc] at hr; cases hr
 | true =>
 rw [hc] at hr
 cases hc2 : (Nat.ble n 100000000000 && bUi x) with
 | false => rw [hc2] at hr; cases hr
 | true =>
 rw [hc2] at hr
 have hc' := Nat.le_of_ble_eq_true hc
 rw [Bool.and_eq_true] at hc2
 obtain ⟨hc2, hcap⟩ := hc2
 have hn' := Nat.le_of_ble_eq_true hc2
 simp only [cond_true, aT, bF] at hr
 obtain ⟨rfl, rfl⟩ := hr
 obtain ⟨a⟩ := args'
 cases hargs with
 | cons _ x' l1 l1' hx hxs =>
 cases hxs with
 | cons y y' l2 l2' hy hys =>
 cases hys
 cases hy with
 | s _ bs hbs =>
 refine CallFn.of Tryz.f23 (by kernel_rfl) (by kernel_rfl) ?_
 have hnone : ∀ (a : Option Addr) (c : Nat), l = [] → Calls Tryz.prog 23 #[.slice a 0 c, .string bs] w (kV G ρ w (.s (jP sep l)) h) := by
  intro a c e
  subst e
  refine (Tryz.strings_Join_none a c bs w).mono ?_
  rintro e w' ⟨rfl, rfl⟩
  exact ⟨ρ, _, rfl, Ex.refl _ _, .s _ _ rfl, H, Kp.refl _ _⟩
 unfold kW at hsrc
 cases hx with
 | l0 =>
  simp only [aT, bF] at hsrc
  obtain ⟨rfl, rfl⟩ := hsrc
  simp only [pA, aT] at hl
  exact hnone _ _ hl.symm
 | le a c =>
  simp only [aT, bF] at hsrc
  obtain ⟨rfl, rfl⟩ := hsrc
  simp only [pA, aT] at hl
  exact hnone _ _ hl.symm
 | l b o m cap L hL =>
  simp only at hsrc
  split at hsrc <;> (try (cases hsrc; done))
  rename_i cs hcs
  simp only [aT, bF] at hsrc
  obtain ⟨rfl, rfl⟩ := hsrc
  obtain ⟨e1, e2, e3, vs, e4, e5, e6⟩ := eJ H hcs hL
  obtain ⟨xs, rfl, rfl⟩ := aNn e4 hl
  simp only [List.length_map, Nat.mul_one] at e5
  subst e5
  cases xs with
  | nil => exact hnone _ _ rfl
  | cons x0 xs0 =>
   have h0 := e6 0 (.string x0) rfl
   have ha : eF L o = ⟨L.bl, L.of + o, none⟩ := bMu h0
   rw [ha]
   have hsep := hbs
   refine (Tryz.strings_Join L.bl (L.of + o) (cap + L.sp) (x0 :: xs0) bs w ?_ (eE h0) (by omega) ?_ ?_).mono ?_
   ·intro j y hj
    have h5 := e6 j (.string y) (by rw [List.getElem?_map, hj]; rfl)
    rw [bMu h5] at h5
    rw [show L.of + o + j = L.of + (o + j) by omega]
    exact h5
   ·exact Nat.le_trans (Nat.le_of_ble_eq_true hcap) (Nat.le_add_right _ _)
   ·have := hc'
    rw [← hbs, aAn, aBj, List.length_map] at this
    omega
   ·rintro e w' ⟨rfl, hbel⟩
    refine ⟨ρ, _, rfl, Ex.refl _ _, .s _ _ ?_, H.later hbel, Kp.later H hbel⟩
    rw [← hbs, aAn, aBj]
 | u => simp at hsrc
 | s => exact (hno _ rfl).elim
 | lx b o m cap L hL => simp only [bUi] at hcap; cases hcap
 | _ => simp at hsrc
theorem bJp (c : UInt8) : ∀ s : List UInt8, bM c.toNat (s.map (·.toNat)) = (splitK [c] 0 (count s [c]) s).map (·.map (·.toNat))
 | [] => by rw [count_one]; simp [bM, splitK]
 | b :: l => by
  have ih := bJp c l
  simp only [List.map_cons]
  by_cases h : b = c
  ·subst h
   rw [count_cons_eq, Nat.add_comm, bM, if_pos rfl, ih]
   simp only [splitK, aAw]
   simp
  ·have hne : ¬ b.toNat = c.toNat := fun e => h (UInt8.toNat_inj.1 e)
   rw [bM, if_neg hne, ih, count_cons_ne _ _ _ h]
   cases hk : count l [c] with
   | zero => simp [splitK]
   | succ k =>
    obtain ⟨i, hi⟩ := index_of_count (s := l) (old := [c]) (by omega)
    have hi2 := zI h hi
    simp only [splitK, hi, hi2]
    rw [if_neg (by first | (simp; done) | (simp; omega)), if_neg (by first | (simp; done) | (simp; omega))]
    simp
theorem bVt (G : Gd) : gF CF1.P G 32 mV := by
 intro args h v h1 hr ρ w args' H hargs
 unfold mV at hr
 split at hr <;> (try (cases hr; done))
 rename_i s c
 cases hc : Nat.blt c 256 with
 | false => rw [hc] at hr; cases hr
 | true =>
 rw [hc] at hr
 cases hc2 : Nat.ble s.length 4000000000 with
 | false => rw [hc2] at hr; cases hr
 | true =>
 rw [hc2] at hr
 have hs' := Nat.le_of_ble_eq_true hc2
 simp only [cond_true, aT, bF] at hr
 obtain ⟨rfl, rfl⟩ := hr
 obtain ⟨a⟩ := args'
 cases hargs with
 | cons _ x' l1 l1' hx hxs =>
 cases hxs with
 | cons _ y' l2 l2' hy hys =>
 cases hys with
 | cons _ z' l3 l3' hz hzs =>
 cases hzs with
 | cons _ z4 l4 l4' hz4 hzs4 =>
 cases hzs4
 cases hz
 cases hz4
 cases hx with
 | s _ bs hbs =>
 cases hy with
 | s _ bc hbc =>
 obtain ⟨u, rfl, rfl⟩ := aEg hbc
 subst hbs
 have e1 : bs.size ≤ 4000000000 := by rw [List.length_map, Array.length_toList] at hs'; exact hs'
 have hsz : (⟨#[u]⟩ : ByteArray).size = 1 := rfl
 have hcnt : countB bs ⟨#[u]⟩ ≤ bs.size := countB_le _ (by omega) _ _ (Nat.le_refl _)
 have hp : bM u.toNat (bs.data.toList.map (·.toNat)) = ((splitB ⟨#[u]⟩ 0 (countB bs ⟨#[u]⟩) bs).map (·.data.toList)).map (·.map (·.toNat)) := by
  rw [bJp u bs.data.toList, splitB_data]
 have hlen := splitB_all ⟨#[u]⟩ (by omega) 0 _ bs rfl
 refine CallFn.of Tryz.f32 (by kernel_rfl) (by kernel_rfl) ?_
 obtain ⟨⟨⟨m, hm⟩, _⟩, _⟩ := G.ok w H.gl
 have hN : ((countB bs ⟨#[u]⟩ + 1 : Nat) : Int) = min (if (Int.negSucc 0) < 0 then (countB bs ⟨#[u]⟩ : Int) + 1 else Int.negSucc 0) ((bs.size : Int) + 1) := by
  rw [if_pos (by decide)]
  omega
 refine (Tryz.strings_genSplit bs ⟨#[u]⟩ 0 (Int.negSucc 0) (countB bs ⟨#[u]⟩ + 1) m w (by omega) hm (by omega) (by omega) (by decide) (by decide) hN).mono ?_
 rintro e w' ⟨rfl, rfl⟩
 simp only [Nat.add_sub_cancel] at *
 generalize hps : splitB ⟨#[u]⟩ 0 (countB bs ⟨#[u]⟩) bs = ps at *
 rw [hp]
 have hcell : cellsOf ps (countB bs ⟨#[u]⟩ + 1) = (ps.map Value.string).toArray := by rw [← hlen]; exact cellsOf_full ps
 rw [hcell]
 have hvs : ∀ qs : List ByteArray, VRs ρ (((qs.map (·.data.toList)).map (·.map (·.toNat))).map DV.s) (qs.map Value.string) := by
  intro qs
  induction qs with
  | nil => exact .nil
  | cons q qs ih => exact .cons _ _ _ _ (.s _ _ rfl) ih
 have H2 := H.newRow .ex _ (ps.map Value.string) (ps.map Value.string).toArray 9 0 (hvs ps) (fun i v hv => by simpa using hv) (.inl ⟨rfl, rfl⟩)
 refine ⟨_, _, rfl, H.exx ⟨w.heap.size, 0, 0, none⟩, ?_, H2, dS H.sz _⟩
 have := VR.l (ρ := mS ρ h.next ⟨w.heap.size, 0, 0, none⟩) h.next 0 ps.length ps.length ⟨w.heap.size, 0, 0, none⟩ (bX _ _ _)
 simpa [eF, hlen] using this
theorem bYf (c : UInt8) : ∀ s : List UInt8, fK c.toNat (s.map (·.toNat)) = if 0 ≤ index s [c] then some ((s.take (index s [c]).toNat).map (·.toNat), (s.drop ((index s [c]).toNat + 1)).map (·.toNat)) else none
 | [] => by simp [fK, index]
 | b :: l => by
  have ih := bYf c l
  simp only [List.map_cons]
  by_cases h : b = c
  ·subst h
   rw [fK, if_pos rfl, aAw]
   simp
  ·have hne : ¬ b.toNat = c.toNat := fun e => h (UInt8.toNat_inj.1 e)
   rw [fK, if_neg hne, ih]
   by_cases hi : 0 ≤ index l [c]
   ·obtain ⟨i, hi2⟩ := Int.eq_ofNat_of_zero_le hi
    rw [zI h hi2, hi2]
    simp
    omega
   ·have hm : index (b :: l) [c] = -1 := by
     have hge := index_ge l [c]
     have hp : ([c] : List UInt8).isPrefixOf (b :: l) = false := by simp [List.isPrefixOf, Ne.symm h]
     have e : index l [c] = -1 := by omega
     rw [index, hp, e]
     simp
    rw [if_neg hi, hm]
    simp
theorem cYl (G : Gd) : gF CF1.P G 33 uG := by
 intro args h v h1 hr ρ w args' H hargs
 unfold uG at hr
 split at hr <;> (try (cases hr; done))
 rename_i s c
 cases hc : Nat.blt c 256 with
 | false => rw [hc] at hr; cases hr
 | true =>
 rw [hc] at hr
 cases hc2 : Nat.ble s.length 4000000000 with
 | false => rw [hc2] at hr; cases hr
 | true =>
 rw [hc2] at hr
 have hs' := Nat.le_of_ble_eq_true hc2
 simp only [cond_true] at hr
 obtain ⟨a⟩ := args'
 cases hargs with
 | cons _ x' l1 l1' hx hxs =>
 cases hxs with
 | cons _ y' l2 l2' hy hys =>
 cases hys
 cases hx with
 | s _ bs hbs =>
 cases hy with
 | s _ bc hbc =>
 obtain ⟨u, rfl, rfl⟩ := aEg hbc
 subst hbs
 have e1 : bs.size ≤ 4000000000 := by rw [List.length_map, Array.length_toList] at hs'; exact hs'
 refine CallFn.of Tryz.f33 (by kernel_rfl) (by kernel_rfl) ?_
 obtain ⟨⟨⟨m, hm⟩, _⟩, _⟩ := G.ok w H.gl
 refine (Tryz.strings_Cut bs ⟨#[u]⟩ m w (by omega) hm).mono ?_
 rintro e w' ⟨rfl, k, rfl⟩
 rw [bYf] at hr
 have hdr : ∀ k, HR G ρ h (w.drewN k) := fun k => H.congr (by simp [World.drewN])
 have hkp : ∀ k, Kp G w (w.drewN k) := fun k => by
  have hbel : Below w.heap.size w (w.drewN k) := ⟨rfl, rfl, rfl, by simp [World.drewN], fun i hi => by simp [World.drewN]⟩
  exact Kp.later H hbel
 unfold Lib.cut
 by_cases hi : 0 ≤ index bs.data.toList [u]
 ·rw [if_pos hi] at hr
  simp only [aT, bF] at hr
  obtain ⟨rfl, rfl⟩ := hr
  have : index bs.data.toList ([u] : List UInt8) = index bs.data.toList (⟨#[u]⟩ : ByteArray).data.toList := rfl
  rw [if_pos (by rw [← this]; exact hi)]
  refine ⟨ρ, _, rfl, Ex.refl _ _, .t _ _ ?_, hdr k, hkp k⟩
  exact .cons _ _ _ _ (.s _ _ rfl) (.cons _ _ _ _ (.s _ _ rfl) (.cons _ _ _ _ (.b true) .nil))
 ·rw [if_neg hi] at hr
  simp only [aT, bF] at hr
  obtain ⟨rfl, rfl⟩ := hr
  have : index bs.data.toList ([u] : List UInt8) = index bs.data.toList (⟨#[u]⟩ : ByteArray).data.toList := rfl
  rw [if_neg (by rw [← this]; exact hi)]
  refine ⟨ρ, _, rfl, Ex.refl _ _, .t _ _ ?_, hdr k, hkp k⟩
  exact .cons _ _ _ _ (.s _ _ rfl) (.cons _ _ _ _ (.s _ _ rfl) (.cons _ _ _ _ (.b false) .nil))
theorem aOp (c : UInt8) : ∀ s : List UInt8, gP c.toNat (s.map (·.toNat)) = Lib.countByte s c
 | [] => rfl
 | x :: s => by
  have ih := aOp c s
  unfold Lib.countByte at *
  simp only [List.map_cons, gP, ih, bTm, List.count_cons]
  cases x == c <;> simp
theorem bQe (G : Gd) : gF Tryz.prog G 47 tC := by
 intro args h v h1 hr ρ w args' H hargs
 unfold tC at hr
 split at hr <;> (try (cases hr; done))
 rename_i s c
 cases hc : Nat.blt c 256 with
 | false => rw [hc] at hr; cases hr
 | true =>
 rw [hc] at hr
 cases hc2 : Nat.ble s.length 4000000000 with
 | false => rw [hc2] at hr; cases hr
 | true =>
 rw [hc2] at hr
 simp only [cond_true, aT, bF] at hr
 obtain ⟨rfl, rfl⟩ := hr
 obtain ⟨a⟩ := args'
 cases hargs with
 | cons _ x' l1 l1' hx hxs =>
 cases hxs with
 | cons _ y' l2 l2' hy hys =>
 cases hys
 cases hx with
 | s _ bs hbs =>
 cases hy with
 | s _ bc hbc =>
 obtain ⟨u, rfl, rfl⟩ := aEg hbc
 subst hbs
 refine CallFn.of Tryz.f47 (by kernel_rfl) (by kernel_rfl) ?_
 refine (Tryz.strings_Count_one bs u w).mono ?_
 rintro e w' ⟨rfl, rfl⟩
 refine ⟨ρ, _, rfl, Ex.refl _ _, ?_, H, Kp.refl _ _⟩
 rw [aOp]
 exact .i _ _
end Go.Dd

namespace Go.Dd
open Go.Proofs
def pL (args : List DV) (h : Hp) : aG :=
 match args with
 | [.s s] => bif Nat.ble s.length 4000000000 then (match Lib.atoiAll (s.map UInt8.ofNat) with
  | .ok v => some (.t [.i .i64 v, .n0], h)
  | Lib.NumEnd.syntax => some (.t [.i .i64 0, .c 343 .u], h)
  | .range => some (.t [.i .i64 (Lib.atoiSat (s.map UInt8.ofNat)), .c 343 .u], h)) else none
 | _ => none
noncomputable def CFn : Cfg := ⟨Tryz.prog, fun g => bif Nat.beq g 124 then some pL else bif Nat.beq g 24 then some kR else none⟩
noncomputable def s74 (rec : RT) (n : Nat) (x0 : DV) (h0 : Hp) : aG :=
 bnd (pL [x0] h0) fun v1 h1 =>
 bnd (aC 0 v1 h1) fun v2 h2 =>
 bnd (aC 1 v1 h2) fun v3 h3 =>
 bnd (aJg .eql true v3 .n0 h3) fun v4 h4 =>
 bnd (gD v4 true (some (x0, h4)) h4) fun v5 h5 =>
 bnd (gD v4 true (cO v5 h5) h5) fun v6 h6 =>
 bnd (gD v4 true (aD .leq v6 (.i .i64 (Int.ofNat 9)) h6) h6) fun v7 h7 =>
 bnd (aP v4 v7 (.b false) h7) fun v8 h8 =>
 bnd (gD v8 true (some (v2, h8)) h8) fun v9 h9 =>
 bnd (gD v8 true (kR [v9] h9) h9) fun v10 h10 =>
 bnd (gD v8 true (some (x0, h10)) h10) fun v11 h11 =>
 bnd (gD v8 true (cM .eql v10 v11 h11) h11) fun v12 h12 =>
 bnd (aP v8 v12 (.b false) h12) fun v13 h13 =>
 bnd (gD v13 true (some (v2, h13)) h13) fun v14 h14 =>
 bnd (gD v13 true (aD .geq v14 (.i .i64 (Int.ofNat 0)) h14) h14) fun v15 h15 =>
 bnd (aP v13 v15 (.b false) h15) fun v16 h16 =>
 some (.t [v2, v16], h16)
noncomputable abbrev c74 : Code := cf Tryz.f74
noncomputable def D74 (rec : RT) (n : Nat) (c : Code) (X : Nat → K) (k : K) : K := aM CFn rec 29 n c X (aQ CFn Tryz.f74) k
theorem dOm (rec : RT) (n : Nat) : D74 rec n c74 x0 (aQ CFn Tryz.f74) = (K1 (s74 rec n) 0) :=
 (by kernel_rfl)
theorem dIi (rec : RT) (n : Nat) (args : List DV) (h : Hp) : aF CFn rec n 74 args h = s74 rec n (args.getD 0 aR) h :=
 (by kernel_rfl : aF CFn rec n 74 args h = D74 rec n c74 x0 (aQ CFn Tryz.f74) (aI args) h).trans ((congrFun (congrFun (dOm rec n) (aI args)) h).trans (by kernel_rfl))
end Go.Dd

