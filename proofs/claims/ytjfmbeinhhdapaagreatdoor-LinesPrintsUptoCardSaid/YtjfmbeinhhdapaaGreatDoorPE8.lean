/- A part of the proof: HD HE OC T0 TL TM TN TP TQ TR HF HG HI W1 W2 W3 W4 W5 LT0 LT1 LT2 LT3 RH NJ SH QQ FQ RL QN DG RN: each text has a comment of its own. -/
import Derived.Test.YtjfmbeinhhdapaaGreatDoorPE4
import Derived.Test.YtjfmbeinhhdapaaGreatDoorPE5
import Derived.Test.YtjfmbeinhhdapaaGreatDoorPE6
import Derived.Test.YtjfmbeinhhdapaaGreatDoorPE7
import Derived.Shelf.Strings.Builder1
import Derived.Shelf.Strings.Builder2
import Derived.Shelf.Strings.OnBuilder
import Derived.Shelf.Small.Bits
import Derived.Shelf.Small.Strs
import Derived.Shelf.Utf8.RuneCount
import Derived.Shelf.Strconv.Atoi
import Derived.Shelf.Strconv.Itoa0
import Derived.Shelf.Strconv.Itoa1
import Derived.Shelf.LaysM
import Derived.Shelf.Strconv.Itoa2
import Derived.Shelf.Strconv.Itoa3
import Derived.Shelf.Strconv.AtoiErrFast
import Derived.Shelf.Strconv.ParseIntEmpty
import Derived.Shelf.Strconv.AtoiFail
import Derived.Shelf.Strconv.Clone
import Derived.Shelf.Strconv.SyntaxError
import Derived.Shelf.LaysC
import Derived.Shelf.Strconv.ToError
import Derived.Shelf.Strconv.Lower
import Derived.Shelf.Strconv.ParseUint10
import Derived.Shelf.Strconv.ParseUint10Empty
import Derived.Shelf.Strconv.ParseUint10Any
import Derived.Shelf.Strconv.ParseInt10
import Derived.Shelf.Strconv.AtoiLong
import Derived.Shelf.Strconv.AtoiInnerAll
import Derived.Shelf.Strconv.RangeError
import Derived.Shelf.Strconv.ToErrorRange
import Derived.Shelf.Strconv.AtoiAll
import Derived.Shelf.Strings.Search1
import Derived.Shelf.Strings.Search2
import Derived.Shelf.Strings.Search3
import Derived.Shelf.Strings.Cut
import Derived.Shelf.Strings.Count
import Derived.Shelf.Strings.Shaped
import Derived.Shelf.Strings.Split
import Derived.Shelf.Strings.Replace
import Derived.Shelf.Strings.SplitShaped
import Derived.Shelf.Unicode.Decode
import Derived.Shelf.Strings.RuneCount
import Derived.Shelf.Strings.Explode
import Derived.Shelf.Bits.Mul64
import Derived.Shelf.Unicode.DecodeSlow
import Derived.Shelf.Unicode.DecodeAny
import Derived.Shelf.Slices.Reverse
import Derived.Ground.Names2Prog
import Derived.Shelf.Slices.Clone
import Derived.Shelf.Slices.CompactS
import Derived.Shelf.Slices.SearchI
import Derived.Shelf.Slices.Cells
import Derived.Ground.SlgnProg
import Derived.Shelf.SlicesE.Clone
import Derived.Test.YtjfmbeinhhdapaaGreatDoorProg
import Derived.Lib.SplitLaws
import Derived.Lib.IndexBytes
import Derived.Lib.CutLaws
import Derived.Lib.AtoiAll
import Derived.Tactics
import Derived.Tactics2
import Derived.RegionTactic
import Derived.RegionCalls
set_option linter.unusedVariables false
set_option linter.unusedSimpArgs false
set_option linter.constructorNameAsVariable false
set_option maxRecDepth 100000
noncomputable section
namespace Go.Dd
theorem nD : ∀ p q : Pos,nS p q = true → p = q
 | .h,.h,_=>rfl
 | .h,.o q,h=>by cases h
 | .h,.i q,h=>by cases h
 | .o p,.h,h=>by cases h
 | .o p,.o q,h=>by rw [nD p q h]
 | .o p,.i q,h=>by cases h
 | .i p,.h,h=>by cases h
 | .i p,.o q,h=>by cases h
 | .i p,.i q,h=>by rw [nD p q h]
theorem bDn (x y : Int) (h : bYb x y = true) : x = y:=by
 cases x <;> cases y <;> simp only [bYb] at h
 ·rw [Nat.eq_of_beq_eq_true h]
 ·cases h
 ·cases h
 ·rw [Nat.eq_of_beq_eq_true h]
theorem aGk : ∀ t u : WT,wtE t u = true → t = u
 | .e,.e,_=>rfl
 | .e,.n _ _ _,h=>by cases h
 | .n _ _ _,.e,h=>by cases h
 | .n l v r,.n l' v' r',h=>by
  have h' : (bYb v v' && (wtE l l' && wtE r r')) = true:=h
  simp only [Bool.and_eq_true] at h'
  rw [bDn _ _ h'.1,aGk _ _ h'.2.1,aGk _ _ h'.2.2]
theorem aQr (x y : DV) (h : dvE x y = true) : x = y:=by
 unfold dvE at h
 split at h <;> (try (cases h; done)) <;> (try rfl)
 ·rw [bDn _ _ h]
 ·rw [(oZ _ _).1 h]
 ·simp only [Bool.and_eq_true] at h
  rw [nD _ _ h.1,Nat.eq_of_beq_eq_true h.2]
 ·simp only [Bool.and_eq_true] at h
  rw [nD _ _ h.1,Nat.eq_of_beq_eq_true h.2.1,Nat.eq_of_beq_eq_true h.2.2.1,Nat.eq_of_beq_eq_true h.2.2.2]
 ·rw [nD _ _ h]
 ·simp at h; rw [h]
theorem aJd : ∀ l m : List DV,cDi l m = true → l = m
 | [],[],_=>rfl
 | [],_ :: _,h=>by cases h
 | _ :: _,[],h=>by cases h
 | x :: l,y :: m,h=>by
  have h' : (dvE x y && cDi l m) = true:=h
  simp only [Bool.and_eq_true] at h'
  rw [aQr _ _ h'.1,aJd _ _ h'.2]
theorem aYl : ∀ l m : List (DV × DV),dBi l m = true → l = m
 | [],[],_=>rfl
 | [],_ :: _,h=>by cases h
 | _ :: _,[],h=>by cases h
 | x :: l,y :: m,h=>by
  have h' : (dvE x.1 y.1 && (dvE x.2 y.2 && dBi l m)) = true:=h
  simp only [Bool.and_eq_true] at h'
  rw [aYl _ _ h'.2.2]
  congr 1
  exact Prod.ext (aQr _ _ h'.1) (aQr _ _ h'.2.1)
theorem cWu (o p : Ob) (h : obE o p = true) : o = p:=by
 unfold obE at h
 split at h <;> (try (cases h; done))
 ·rw [aJd _ _ h]
 ·rw [aYl _ _ h]
 ·simp only [Bool.and_eq_true] at h
  rw [Nat.eq_of_beq_eq_true h.1,aGk _ _ h.2]
 ·rw [aGk _ _ h]
theorem aMo (t : Tr Ob) : ∀ l : List (Pos × Ob),bRm t l = true → ∀ x ∈ l,t.get x.1 = some x.2
 | [],_,x,hx=>by cases hx
 | y :: l,h,x,hx=>by
  have h' : ((match t.get y.1 with
   | some o=>obE o y.2
   | none=>false) && bRm t l) = true:=h
  simp only [Bool.and_eq_true] at h'
  rcases List.mem_cons.1 hx with rfl | hx
  ·have h1:=h'.1
   split at h1
   ·rename_i o ho
    rw [ho,cWu _ _ h1]
   ·cases h1
  ·exact aMo t l h'.2 x hx
theorem aNb : ∀ (l : List (Pos × Ob)) (b : Pos) (o : Ob),(cXt l).get b = some o → (b,o) ∈ l
 | [],b,o,h=>by cases b <;> cases h
 | y :: l,b,o,h=>by
  have h' : (Tr.set y.2 y.1 (cXt l)).get b = some o:=h
  by_cases e : b = y.1
  ·subst e
   rw [dXv] at h'
   simp only [aU] at h'
   rw [← h']
   exact List.mem_cons_self
  ·rw [dXu _ _ _ _ e] at h'
   exact List.mem_cons_of_mem _ (aNb l b o h')
theorem mD (o : Ob) : wE true o o:=by cases o <;> simp [wE]
theorem Sim.refl (h : Hp) : Sim true h h:=⟨rfl,fun b o hb=>⟨o,hb,mD o⟩⟩
theorem lA {o o' : Ob} (h : wE true o o') : o' = o:=by cases o <;> simpa [wE] using h
theorem Sim.trans {a b c : Hp} (h : Sim true a b) (k : Sim true b c) : Sim true a c:=⟨k.next.trans h.next,fun p o hp=>by
 obtain ⟨o',h1,h2⟩:=h.get p o hp
 rw [lA h2] at h1
 exact k.get p o h1⟩
theorem bCc {r : aH} {vs : List DV} {nx : Nat} {l : List (Pos × Ob)} (h : nE r vs nx l = true) : ∃ g,r = some (.t vs,g) ∧ Sim true (jI nx l) g:=by
 unfold nE at h
 split at h <;> (try (cases h; done))
 rename_i us g
 simp only [Bool.and_eq_true] at h
 refine ⟨g,by rw [aJd _ _ h.1], ?_,fun b o hb=>⟨o, ?_,mD o⟩⟩
 ·exact nD _ _ h.2.1
 ·exact aMo _ _ h.2.2 (b,o) (aNb _ _ _ hb)
end Go.Dd

namespace Go.Dd
open Go.Proofs
noncomputable section
def pN0 : Code:=cf Tryz.f55
def pN1 : Code:=cR pN0
def pN2 : Code:=cR pN1
def pN3 : Code:=cR pN2
def pN4 : Code:=cR pN3
def pN5 : Code:=cR pN4
def pN6 : Code:=cR pN5
def cNy : Code:=.seq (cL pN0) (.seq (cL pN1) (.seq (cL pN2) (.seq (cL pN3) (.seq (cL pN4) (.seq (cL pN5) (cL (cL pN6)))))))
def bPb : Code:=cR (cL pN6)
def dMu : Code:=cR pN6
def hS : Hp:=⟨cT 1,.e⟩
def dJs : K:=fun e h=>some (.t [e 5,e 155,e 156,e 157],h)
def cZu (n : Nat) : aH:=aM CF (dB 899) 179 899 cNy (fun _ _ _=>none) (fun _ _=>none) dJs (aJ [.i .i64 (.ofNat n)]) hS
end
theorem he0 : nE (cZu 30000) (lU 0) 432 (pC 30000 553 84 18 [1076,1096,6,24,42,60,78,96,114,132,150,168,186,204,222,240,258,276] [(10,0),(19,0),(46,0),(55,0),(64,0),(91,0),(100,0),(109,0),(118,0),(127,0),(145,0)] 0) = true:=by kernel_rfl
end Go.Dd

namespace Go.Dd
inductive Out where
 | n (e : bA) (h : Hp)
 | x (i : Nat) (e : bA) (h : Hp)
 | r (e : bA) (h : Hp)
def dZh (o : Option Out) (X : Nat → K) (kr k : K) : aH :=
 match o with
 | none=>none
 | some (.n e h)=>k e h
 | some (.x i e h)=>X i e h
 | some (.r e h)=>kr e h
section
variable {C : Cfg} {rec : FuncId → List DV → Hp → aH} {nt : Nat}
theorem aWz (all : Array Oper) : ∀ l : List Oper,∃ O : bA → Hp → Option (bA × Hp),∀ k env h,gY C rec nt all l k env h = match O env h with
  | none=>none
  | some (e,h)=>k e h
 | []=>⟨fun e h=>some (e,h),fun k env h=>rfl⟩
 | o :: l=>by
  obtain ⟨O,hO⟩:=aWz all l
  refine ⟨fun env h=>bif dK nt o.dst then (match bL C rec all o env h with
   | some (v,h')=>O (bO env o.dst v) h'
   | none=>none) else none,fun k env h => ?_⟩
  change cnd (dK nt o.dst) (bnd (bL C rec all o env h) fun v h'=>gY C rec nt all l k (bO env o.dst v) h') = _
  cases dK nt o.dst with
  | false=>rfl
  | true =>
   simp only [cond_true]
   cases hs : bL C rec all o env h with
   | none=>rfl
   | some p=>exact hO k _ _
theorem aNf (all : Array Oper) (m : Array Nat) (p0 : Pos) : ∀ (l : List Oper) (i c : Nat) (dirty : Bool) (rd : List Seen) (hs : List (Option Nat × Hp)),∃ O : bA → Hp → Option (bA × Hp),
  ∀ k env h,eV C rec nt all m p0 l k i c dirty rd hs env h = match O env h with
   | none=>none
   | some (e,h)=>k e h
 | [],i,c,dirty,rd,hs=>⟨fun e h=>some (e,h),fun k env h=>rfl⟩
 | o :: l,i,c,dirty,rd,hs=>by
  have ih:=aNf all m p0 l
  cases hc : bV C.P o.op with
  | pure =>
   obtain ⟨O,hO⟩:=ih (i + 1) c dirty rd hs
   refine ⟨fun env h=>bif dK nt o.dst then (match bL C rec all o env h with
    | some (v,h')=>O (bO env o.dst v) h'
    | none=>none) else none,fun k env h => ?_⟩
   have e : eV C rec nt all m p0 (o :: l) k i c dirty rd hs env h = cnd (dK nt o.dst) (bnd (bL C rec all o env h) fun v h'=>eV C rec nt all m p0 l k (i + 1) c dirty rd hs (bO env o.dst v) h'):=by
    change cnd (dK nt o.dst) (match bV C.P o.op with | .pure=>_ | .reads=>_ | .makes=>_ | .acts=>_) = _
    rw [hc]
    rfl
   rw [e]
   cases dK nt o.dst with
   | false=>rfl
   | true =>
    simp only [cond_true]
    cases hs : bL C rec all o env h with
    | none=>rfl
    | some p=>exact hO k _ _
  | reads =>
   have hex : ∀ (env : bA) (v : DV),∃ O : bA → Hp → Option (bA × Hp),∀ k e h,eV C rec nt all m p0 l k (i + 1) c dirty (⟨i,bL C rec all o env,v⟩ :: rd) hs e h = match O e h with
    | none=>none
    | some (e,h)=>k e h:=fun env v=>ih (i + 1) c dirty (⟨i,bL C rec all o env,v⟩ :: rd) hs
   refine ⟨fun env h=>bif dK nt o.dst then (match bL C rec all o env h with
    | some (v,h')=>bif eY m i v (bL C rec all o env) dirty hs then (hex env v).choose (bO env o.dst v) h' else none
    | none=>none) else none,fun k env h => ?_⟩
   have e : eV C rec nt all m p0 (o :: l) k i c dirty rd hs env h = cnd (dK nt o.dst) (bnd (bL C rec all o env h) fun v h' =>
     cnd (eY m i v (bL C rec all o env) dirty hs) (eV C rec nt all m p0 l k (i + 1) c dirty (⟨i,bL C rec all o env,v⟩ :: rd) hs (bO env o.dst v) h')):=by
    change cnd (dK nt o.dst) (match bV C.P o.op with | .pure=>_ | .reads=>_ | .makes=>_ | .acts=>_) = _
    rw [hc]
    rfl
   rw [e]
   cases dK nt o.dst with
   | false=>rfl
   | true =>
    simp only [cond_true]
    cases hs2 : bL C rec all o env h with
    | none=>rfl
    | some p =>
     obtain ⟨v,h'⟩:=p
     show cnd (eY m i v (bL C rec all o env) dirty hs) _ = _
     cases hcc : eY m i v (bL C rec all o env) dirty hs with
     | false=>simp only [hcc,cond_false]
     | true=>simp only [hcc,cond_true]; exact (hex env v).choose_spec k _ _
  | makes =>
   obtain ⟨O,hO⟩:=ih (i + 1) (c + 1) true rd hs
   refine ⟨fun env h=>bif dK nt o.dst then (match eI C o (cW c p0) env h with
    | some (v,h')=>O (bO env o.dst v) h'
    | none=>none) else none,fun k env h => ?_⟩
   have e : eV C rec nt all m p0 (o :: l) k i c dirty rd hs env h = cnd (dK nt o.dst) (bnd (eI C o (cW c p0) env h) fun v h'=>eV C rec nt all m p0 l k (i + 1) (c + 1) true rd hs (bO env o.dst v) h'):=by
    change cnd (dK nt o.dst) (match bV C.P o.op with | .pure=>_ | .reads=>_ | .makes=>_ | .acts=>_) = _
    rw [hc]
    rfl
   rw [e]
   cases dK nt o.dst with
   | false=>rfl
   | true =>
    simp only [cond_true]
    cases hs : eI C o (cW c p0) env h with
    | none=>rfl
    | some p=>exact hO k _ _
  | acts =>
   have hex : ∀ h' : Hp,∃ O : bA → Hp → Option (bA × Hp),∀ k e h,eV C rec nt all m p0 l k (i + 1) c false rd ((some i,h') :: hs) e h = match O e h with
    | none=>none
    | some (e,h)=>k e h:=fun h'=>ih (i + 1) c false rd ((some i,h') :: hs)
   refine ⟨fun env h=>bif dK nt o.dst then (match bL C rec all o env h with
    | some (v,h')=>bif rd.all (fun q=>gL m q.at_ i || bJ (q.look h') q.v) then (hex h').choose (bO env o.dst v) h' else none
    | none=>none) else none,fun k env h => ?_⟩
   have e : eV C rec nt all m p0 (o :: l) k i c dirty rd hs env h = cnd (dK nt o.dst) (bnd (bL C rec all o env h) fun v h' =>
     cnd (rd.all (fun q=>gL m q.at_ i || bJ (q.look h') q.v)) (eV C rec nt all m p0 l k (i + 1) c false rd ((some i,h') :: hs) (bO env o.dst v) h')):=by
    change cnd (dK nt o.dst) (match bV C.P o.op with | .pure=>_ | .reads=>_ | .makes=>_ | .acts=>_) = _
    rw [hc]
    rfl
   rw [e]
   cases dK nt o.dst with
   | false=>rfl
   | true =>
    simp only [cond_true]
    cases hs2 : bL C rec all o env h with
    | none=>rfl
    | some p =>
     obtain ⟨v,h'⟩:=p
     show cnd (rd.all (fun q=>gL m q.at_ i || bJ (q.look h') q.v)) _ = _
     cases hcc : rd.all (fun q=>gL m q.at_ i || bJ (q.look h') q.v) with
     | false=>simp only [hcc,cond_false]
     | true=>simp only [hcc,cond_true]; exact (hex h').choose_spec k _ _
theorem aOu (n : Nat) : ∀ c : Code,∃ O : bA → Hp → Option Out,∀ X kr k env h,aM C rec nt n c X kr k env h = dZh (O env h) X kr k:=by
 have hfail : ∃ O : bA → Hp → Option Out,∀ (X : Nat → K) (kr k : K) (env : bA) (h : Hp),cV env h = dZh (O env h) X kr k:=⟨fun _ _=>none,fun X kr k env h=>rfl⟩
 intro c
 induction c with
 | skip=>exact ⟨fun e h=>some (.n e h),fun X kr k env h=>rfl⟩
 | region id ops dr =>
  cases dr with
  | false =>
   obtain ⟨O,hO⟩:=aWz (C:=C) (rec:=rec) (nt:=nt) ops ops.toList
   refine ⟨fun env h=>(O env h).map fun p=>.n p.1 p.2,fun X kr k env h => ?_⟩
   show gY C rec nt ops ops.toList k env h = _
   rw [hO]
   dsimp only
   cases hh : O env h <;> rfl
  | true =>
   cases hd : fC C.P ops with
   | false =>
    refine ⟨fun _ _=>none,fun X kr k env h => ?_⟩
    show (Bool.rec (motive:=fun _=>K) cV (iS C rec nt ops k) (fC C.P ops)) env h = _
    rw [hd]; rfl
   | true =>
    have hex : ∀ h : Hp,_:=fun h=>aNf (C:=C) (rec:=rec) (nt:=nt) ops (Region.before ops) h.next ops.toList 0 0 false [] [(none,resv (cJ C.P ops.toList) h)]
    refine ⟨fun env h=>((hex h).choose env (resv (cJ C.P ops.toList) h)).map fun p=>.n p.1 p.2,fun X kr k env h => ?_⟩
    have e : aM C rec nt n (.region id ops true) X kr k env h = iS C rec nt ops k env h:=by
     show (Bool.rec (motive:=fun _=>K) cV (iS C rec nt ops k) (fC C.P ops)) env h = _
     rw [hd]
    rw [e]
    unfold iS
    rw [(hex h).choose_spec k env _]
    dsimp only
    cases hh : (hex h).choose env (resv (cJ C.P ops.toList) h) <;> rfl
 | seq x y ihx ihy =>
  obtain ⟨O1,h1⟩:=ihx
  obtain ⟨O2,h2⟩:=ihy
  refine ⟨fun env h=>match O1 env h with
   | some (.n e h)=>O2 e h
   | o=>o,fun X kr k env h => ?_⟩
  show aM C rec nt n x X kr (aM C rec nt n y X kr k) env h = _
  rw [h1]
  dsimp only
  cases ho : O1 env h with
  | none=>rfl
  | some o =>
   cases o with
   | n e h'=>exact h2 X kr k e h'
   | x i e h'=>rfl
   | r e h'=>rfl
 | cond c x y ihx ihy =>
  obtain ⟨O1,h1⟩:=ihx
  obtain ⟨O2,h2⟩:=ihy
  refine ⟨fun env h=>match opr env c with
   | .b true=>O1 env h
   | .b false=>O2 env h
   | _=>none,fun X kr k env h => ?_⟩
  show aT (opr env c) (aM C rec nt n x X kr k env h) (aM C rec nt n y X kr k env h) = _
  rw [h1,h2]
  unfold aT
  dsimp only
  cases opr env c <;> try rfl
  rename_i b
  cases b <;> rfl
 | block id x ih =>
  obtain ⟨O1,h1⟩:=ih
  refine ⟨fun env h=>match O1 env h with
   | some (.x i e h')=>bif Nat.beq i id then some (.n e h') else some (.x i e h')
   | o=>o,fun X kr k env h => ?_⟩
  show aM C rec nt n x (fun j=>bif Nat.beq j id then k else X j) kr k env h = _
  rw [h1]
  dsimp only
  cases ho : O1 env h with
  | none=>rfl
  | some o =>
   cases o with
   | n e h'=>rfl
   | r e h'=>rfl
   | x i e h' =>
    simp only [dZh]
    cases hb : Nat.beq i id with
    | true=>rfl
    | false=>rfl
 | loop x ih =>
  obtain ⟨O1,h1⟩:=ih
  have key : ∀ m : Nat,∃ O : bA → Hp → Option Out,∀ (X : Nat → K) (kr k : K) env h,aL (fun kk=>aM C rec nt n x X kr kk) m env h = dZh (O env h) X kr k:=by
   intro m
   induction m with
   | zero=>exact ⟨fun _ _=>none,fun X kr k env h=>rfl⟩
   | succ m ihm =>
    obtain ⟨O2,h2⟩:=ihm
    refine ⟨fun env h=>match O1 env h with
     | some (.n e h)=>O2 e h
     | o=>o,fun X kr k env h => ?_⟩
    show aM C rec nt n x X kr (aL (fun kk=>aM C rec nt n x X kr kk) m) env h = _
    rw [h1]
    dsimp only
    cases ho : O1 env h with
    | none=>rfl
    | some o =>
     cases o with
     | n e h'=>exact h2 X kr k e h'
     | x i e h'=>rfl
     | r e h'=>rfl
  exact key n
 | rangeFunc f ps x y ihx ihy=>exact hfail
 | exit id=>exact ⟨fun e h=>some (.x id e h),fun X kr k env h=>rfl⟩
 | scope x ih=>exact ih
 | label l=>exact ⟨fun e h=>some (.n e h),fun X kr k env h=>rfl⟩
 | goto l=>exact hfail
 | ret=>exact ⟨fun e h=>some (.r e h),fun X kr k env h=>rfl⟩
 | refuse why=>exact hfail
end
end Go.Dd

namespace Go.Dd
open Go.Proofs
def t20 (rec : FuncId → List DV → Hp → aH) (n : Nat) (x0 x1 : DV) (h0 : Hp) : aH :=
 bnd (aD .eql x1 (.i .i64 (Int.ofNat 0)) h0) fun v1 h1 =>
 bnd (gD v1 false (some (x1,h1)) h1) fun v2 h2 =>
 bnd (gD v1 false (aD .eql v2 (.i .i64 (Int.ofNat 2)) h2) h2) fun v3 h3 =>
 bnd (aP v1 (.b true) v3 h3) fun v4 h4 =>
 bnd (gD v4 false (some (x1,h4)) h4) fun v5 h5 =>
 bnd (gD v4 false (aD .eql v5 (.i .i64 (Int.ofNat 4)) h5) h5) fun v6 h6 =>
 bnd (aP v4 (.b true) v6 h6) fun v7 h7 =>
 bnd (gD v7 false (some (x1,h7)) h7) fun v8 h8 =>
 bnd (gD v7 false (rec 200 [v8] h8) h8) fun v9 h9 =>
 bnd (aP v7 (.b true) v9 h9) fun v10 h10 =>
 bnd (gD v10 false (some (x0,h10)) h10) fun v11 h11 =>
 bnd (gD v10 false (some (x1,h11)) h11) fun v12 h12 =>
 bnd (gD v10 false (rec 196 [v11,v12] h12) h12) fun v13 h13 =>
 bnd (aP v10 (.b true) v13 h13) fun v14 h14 =>
 some (v14,h14)
def E20 (rec : FuncId → List DV → Hp → aH) (n : Nat) (c : Code) (X : Nat → K) (k : K) : K:=aM CF1 rec 24 n c X (aR CF1 Tryz.f132) k
theorem dTz (rec : FuncId → List DV → Hp → aH) (n : Nat) : E20 rec n (cf Tryz.f132) x0 (aR CF1 Tryz.f132) = (fun (env : bA) (h : Hp)=>t20 rec n (env 0) (env 1) h) :=
 (by kernel_rfl)
theorem dKt (rec : FuncId → List DV → Hp → aH) (n : Nat) (args : List DV) (h : Hp) : aF CF1 rec n 132 args h = t20 rec n (args.getD 0 aS) (args.getD 1 aS) h :=
 (by kernel_rfl : aF CF1 rec n 132 args h = E20 rec n (cf Tryz.f132) x0 (aR CF1 Tryz.f132) (aJ args) h).trans ((congrFun (congrFun (dTz rec n) (aJ args)) h).trans (by kernel_rfl))
def t21 (rec : FuncId → List DV → Hp → aH) (n : Nat) (x0 x1 : DV) (h0 : Hp) : aH :=
 bnd (rec 247 [x1] h0) fun v1 h1 =>
 bnd (gD v1 true (some (x0,h1)) h1) fun v2 h2 =>
 bnd (gD v1 true (aY v2 h2) h2) fun v3 h3 =>
 bnd (gD v1 true (aB 3 v3 h3) h3) fun v4 h4 =>
 bnd (gD v1 true (aA v4 h4) h4) fun v5 h5 =>
 bnd (gD v1 true (some (x1,h5)) h5) fun v6 h6 =>
 bnd (gD v1 true (rec 198 [v6] h6) h6) fun v7 h7 =>
 cnd (bJ (gD v1 true (aA v4 h7) h7) v5 && true) (
 bnd (gD v1 true (eH (.int .i64) (.b false) false v5 v7 h7) h7) fun v8 h8 =>
 bnd (aP v1 v8 (.b false) h8) fun v9 h9 =>
 some (v9,h9))
def E21 (rec : FuncId → List DV → Hp → aH) (n : Nat) (c : Code) (X : Nat → K) (k : K) : K:=aM CF1 rec 16 n c X (aR CF1 Tryz.f196) k
theorem dRp (rec : FuncId → List DV → Hp → aH) (n : Nat) : E21 rec n (cf Tryz.f196) x0 (aR CF1 Tryz.f196) = (fun (env : bA) (h : Hp)=>t21 rec n (env 0) (env 1) h) :=
 (by kernel_rfl)
theorem dQp (rec : FuncId → List DV → Hp → aH) (n : Nat) (args : List DV) (h : Hp) : aF CF1 rec n 196 args h = t21 rec n (args.getD 0 aS) (args.getD 1 aS) h :=
 (by kernel_rfl : aF CF1 rec n 196 args h = E21 rec n (cf Tryz.f196) x0 (aR CF1 Tryz.f196) (aJ args) h).trans ((congrFun (congrFun (dRp rec n) (aJ args)) h).trans (by kernel_rfl))
def t22 (rec : FuncId → List DV → Hp → aH) (n : Nat) (x0 : DV) (h0 : Hp) : aH :=
 bnd (aY x0 h0) fun v1 h1 =>
 bnd (aB 0 v1 h1) fun v2 h2 =>
 bnd (aA v2 h2) fun v3 h3 =>
 bnd (cB v3 h3) fun v4 h4 =>
 some (v4,h4)
def E22 (rec : FuncId → List DV → Hp → aH) (n : Nat) (c : Code) (X : Nat → K) (k : K) : K:=aM CF1 rec 8 n c X (aR CF1 Tryz.f108) k
theorem dWm (rec : FuncId → List DV → Hp → aH) (n : Nat) : E22 rec n (cf Tryz.f108) x0 (aR CF1 Tryz.f108) = (fun (env : bA) (h : Hp)=>t22 rec n (env 0) h) :=
 (by kernel_rfl)
theorem dQk (rec : FuncId → List DV → Hp → aH) (n : Nat) (args : List DV) (h : Hp) : aF CF1 rec n 108 args h = t22 rec n (args.getD 0 aS) h :=
 (by kernel_rfl : aF CF1 rec n 108 args h = E22 rec n (cf Tryz.f108) x0 (aR CF1 Tryz.f108) (aJ args) h).trans ((congrFun (congrFun (dWm rec n) (aJ args)) h).trans (by kernel_rfl))
def t29 (rec : FuncId → List DV → Hp → aH) (n : Nat) (x0 : DV) (h0 : Hp) : aH :=
 bnd (aY x0 h0) fun v1 h1 =>
 bnd (aB 0 v1 h1) fun v2 h2 =>
 bnd (aA v2 h2) fun v3 h3 =>
 bnd (cB v3 h3) fun v4 h4 =>
 bnd (aY x0 h4) fun v5 h5 =>
 bnd (aB 1 v5 h5) fun v6 h6 =>
 bnd (aA v6 h6) fun v7 h7 =>
 bnd (aD .sub v4 v7 h7) fun v8 h8 =>
 some (v8,h8)
def E29 (rec : FuncId → List DV → Hp → aH) (n : Nat) (c : Code) (X : Nat → K) (k : K) : K:=aM CF1 rec 13 n c X (aR CF1 Tryz.f126) k
theorem dVb (rec : FuncId → List DV → Hp → aH) (n : Nat) : E29 rec n (cf Tryz.f126) x0 (aR CF1 Tryz.f126) = (fun (env : bA) (h : Hp)=>t29 rec n (env 0) h) :=
 (by kernel_rfl)
theorem dMr (rec : FuncId → List DV → Hp → aH) (n : Nat) (args : List DV) (h : Hp) : aF CF1 rec n 126 args h = t29 rec n (args.getD 0 aS) h :=
 (by kernel_rfl : aF CF1 rec n 126 args h = E29 rec n (cf Tryz.f126) x0 (aR CF1 Tryz.f126) (aJ args) h).trans ((congrFun (congrFun (dVb rec n) (aJ args)) h).trans (by kernel_rfl))
def t30 (rec : FuncId → List DV → Hp → aH) (n : Nat) (x0 x1 x2 x3 : DV) (h0 : Hp) : aH :=
 bnd (rec 125 [x0,x1] h0) fun v1 h1 =>
 bnd (gQ .not v1 h1) fun v2 h2 =>
 bnd (gD v2 false (some (x2,h2)) h2) fun v3 h3 =>
 bnd (gD v2 false (aD .lss v3 (.i .i64 (Int.ofNat 0)) h3) h3) fun v4 h4 =>
 bnd (aP v2 (.b true) v4 h4) fun v5 h5 =>
 bnd (gD v5 false (some (x2,h5)) h5) fun v6 h6 =>
 bnd (gD v5 false (aD .gtr v6 (.i .i64 (Int.ofNat 2)) h6) h6) fun v7 h7 =>
 bnd (aP v5 (.b true) v7 h7) fun v8 h8 =>
 bnd (gD v8 false (some (x3,h8)) h8) fun v9 h9 =>
 bnd (gD v8 false (aD .lss v9 (.i .i64 (Int.ofNat 0)) h9) h9) fun v10 h10 =>
 bnd (aP v8 (.b true) v10 h10) fun v11 h11 =>
 bnd (gD v11 false (some (x3,h11)) h11) fun v12 h12 =>
 bnd (gD v11 false (aD .gtr v12 (.i .i64 (Int.ofNat 256)) h12) h12) fun v13 h13 =>
 bnd (aP v11 (.b true) v13 h13) fun v14 h14 =>
 aT v14 (
  some (.t [(.i .i64 (Int.ofNat 0)),(.i .i64 (Int.ofNat 1))],h14)) (
  bnd (rec 126 [x0] h14) fun v15 h15 =>
  bnd (aD .add x3 (.i .i64 (Int.ofNat 3)) h15) fun v16 h16 =>
  bnd (aD .lss v15 v16 h16) fun v17 h17 =>
  bnd (gD v17 false (some (x0,h17)) h17) fun v18 h18 =>
  bnd (gD v17 false (aY v18 h18) h18) fun v19 h19 =>
  bnd (gD v17 false (aB 2 v19 h19) h19) fun v20 h20 =>
  bnd (gD v17 false (aA v20 h20) h20) fun v21 h21 =>
  bnd (gD v17 false (aD .geq v21 (.i .i64 (Int.ofNat 1099511627776)) h21) h21) fun v22 h22 =>
  bnd (aP v17 (.b true) v22 h22) fun v23 h23 =>
  aT v23 (
   some (.t [(.i .i64 (Int.ofNat 0)),(.i .i64 (Int.ofNat 4))],h23)) (
   bnd (aY x0 h23) fun v24 h24 =>
   bnd (aB 1 v24 h24) fun v25 h25 =>
   bnd (aA v25 h25) fun v26 h26 =>
   bnd (aY x0 h26) fun v27 h27 =>
   bnd (aB 2 v27 h27) fun v28 h28 =>
   bnd (aA v28 h28) fun v29 h29 =>
   bnd (aD .add v29 (.i .i64 (Int.ofNat 1)) h29) fun v30 h30 =>
   bnd (aY x0 h30) fun v31 h31 =>
   bnd (aB 2 v31 h31) fun v32 h32 =>
   bnd (aG 1 v32 v30 h32) fun _ h33 =>
   bnd (aY x0 h33) fun v34 h34 =>
   bnd (aB 0 v34 h34) fun v35 h35 =>
   bnd (aA v35 h35) fun v36 h36 =>
   bnd (aY x0 h36) fun v37 h37 =>
   bnd (aB 0 v37 h37) fun v38 h38 =>
   bnd (aA v38 h38) fun v39 h39 =>
   bnd (aD .add v26 (.i .i64 (Int.ofNat 1)) h39) fun v40 h40 =>
   bnd (aY x0 h40) fun v41 h41 =>
   bnd (aB 0 v41 h41) fun v42 h42 =>
   bnd (aA v42 h42) fun v43 h43 =>
   bnd (aD .add v26 (.i .i64 (Int.ofNat 2)) h43) fun v44 h44 =>
   bnd (dZ .shl x3 (.i .u64 (Int.ofNat 2)) h44) fun v45 h45 =>
   bnd (aD .or v45 x2 h45) fun v46 h46 =>
   bnd (aY x0 h46) fun v47 h47 =>
   bnd (aB 2 v47 h47) fun v48 h48 =>
   bnd (aA v48 h48) fun v49 h49 =>
   bnd (aE 1 v36 v26 h49) fun v50 h50 =>
   bnd (aG 1 v50 v46 h50) fun v51 h51 =>
   bnd (aE 1 v39 v40 h51) fun v52 h52 =>
   bnd (aG 1 v52 x1 h52) fun v53 h53 =>
   bnd (aE 1 v43 v44 h53) fun v54 h54 =>
   bnd (aG 1 v54 v49 h54) fun v55 h55 =>
   bnd (aY x0 h55) fun v56 h56 =>
   bnd (aB 0 v56 h56) fun v57 h57 =>
   bnd (aA v57 h57) fun v58 h58 =>
   bnd (aD .add v26 (.i .i64 (Int.ofNat 3)) h58) fun v59 h59 =>
   bnd (aD .add v26 (.i .i64 (Int.ofNat 3)) h59) fun v60 h60 =>
   bnd (aD .add v60 x3 h60) fun v61 h61 =>
   bnd (dF 1 v58 (some v59) (some v61) h61) fun v62 h62 =>
   bnd (kG [(.i .i64 (Int.ofNat 0))] v62 h62) fun _ h63 =>
   bnd (aY x0 h63) fun v64 h64 =>
   bnd (aB 1 v64 h64) fun v65 h65 =>
   bnd (aA v65 h65) fun v66 h66 =>
   bnd (aD .add x3 (.i .i64 (Int.ofNat 3)) h66) fun v67 h67 =>
   bnd (aD .add v66 v67 h67) fun v68 h68 =>
   bnd (aY x0 h68) fun v69 h69 =>
   bnd (aB 1 v69 h69) fun v70 h70 =>
   bnd (aG 1 v70 v68 h70) fun _ h71 =>
   bnd (aY x0 h71) fun v72 h72 =>
   bnd (aB 3 v72 h72) fun v73 h73 =>
   bnd (aA v73 h73) fun v74 h74 =>
   bnd (dS (.int .i64) v74 v26 (.b true) h74) fun _ h75 =>
   bnd (rec 127 [v26] h75) fun v76 h76 =>
   bnd (aC 0 v76 h76) fun v77 h77 =>
   bnd (aC 1 v76 h77) fun v78 h78 =>
   some (.t [v77,(.i .i64 (Int.ofNat 0))],h78)))
def E30 (rec : FuncId → List DV → Hp → aH) (n : Nat) (c : Code) (X : Nat → K) (k : K) : K:=aM CF1 rec 118 n c X (aR CF1 Tryz.f77) k
theorem dTn (rec : FuncId → List DV → Hp → aH) (n : Nat) : E30 rec n (cf Tryz.f77) x0 (aR CF1 Tryz.f77) = (fun (env : bA) (h : Hp)=>t30 rec n (env 0) (env 1) (env 2) (env 3) h) :=
 (by kernel_rfl)
theorem dNl (rec : FuncId → List DV → Hp → aH) (n : Nat) (args : List DV) (h : Hp) : aF CF1 rec n 77 args h = t30 rec n (args.getD 0 aS) (args.getD 1 aS) (args.getD 2 aS) (args.getD 3 aS) h :=
 (by kernel_rfl : aF CF1 rec n 77 args h = E30 rec n (cf Tryz.f77) x0 (aR CF1 Tryz.f77) (aJ args) h).trans ((congrFun (congrFun (dTn rec n) (aJ args)) h).trans (by kernel_rfl))
def t41 (rec : FuncId → List DV → Hp → aH) (n : Nat) (x0 : DV) (h0 : Hp) : aH :=
 bnd (aD .lss x0 (.i .i64 (Int.ofNat 16)) h0) fun v1 h1 =>
 bnd (gD v1 false (some (x0,h1)) h1) fun v2 h2 =>
 bnd (gD v1 false (aD .gtr v2 (.i .i64 (Int.ofNat 131072)) h2) h2) fun v3 h3 =>
 bnd (aP v1 (.b true) v3 h3) fun v4 h4 =>
 aT v4 (
  some (.p0,h4)) (
  bnd (bU 1 8 [(.i .i64 (Int.ofNat 0))] x0 x0 h4) fun v5 h5 =>
  bnd (dW h5) fun v6 h6 =>
  bnd (bK [.l0,(.i .i64 (Int.ofNat 0)),(.i .i64 (Int.ofNat 0)),.m0] [(0,1,v5),(1,1,(.i .i64 (Int.ofNat 3))),(3,1,v6)] h6) fun v7 h7 =>
  bnd (dA v7 h7) fun v8 h8 =>
  some (v8,h8))
def E41 (rec : FuncId → List DV → Hp → aH) (n : Nat) (c : Code) (X : Nat → K) (k : K) : K:=aM CF1 rec 14 n c X (aR CF1 Tryz.f76) k
theorem dWe (rec : FuncId → List DV → Hp → aH) (n : Nat) : E41 rec n (cf Tryz.f76) x0 (aR CF1 Tryz.f76) = (fun (env : bA) (h : Hp)=>t41 rec n (env 0) h) :=
 (by kernel_rfl)
theorem cUg (rec : FuncId → List DV → Hp → aH) (n : Nat) (args : List DV) (h : Hp) : aF CF1 rec n 76 args h = t41 rec n (args.getD 0 aS) h :=
 (by kernel_rfl : aF CF1 rec n 76 args h = E41 rec n (cf Tryz.f76) x0 (aR CF1 Tryz.f76) (aJ args) h).trans ((congrFun (congrFun (dWe rec n) (aJ args)) h).trans (by kernel_rfl))
def t44 (rec : FuncId → List DV → Hp → aH) (n : Nat) (x0 x1 x2 : DV) (h0 : Hp) : aH :=
 bnd (rec 128 [x0,x1] h0) fun v1 h1 =>
 bnd (aD .eql v1 (.i .i64 (Int.ofNat 0)) h1) fun v2 h2 =>
 bnd (gD v2 false (some (x0,h2)) h2) fun v3 h3 =>
 bnd (gD v2 false (some (x2,h3)) h3) fun v4 h4 =>
 bnd (gD v2 false (rec 125 [v3,v4] h4) h4) fun v5 h5 =>
 bnd (gD v2 false (gQ .not v5 h5) h5) fun v6 h6 =>
 bnd (aP v2 (.b true) v6 h6) fun v7 h7 =>
 aT v7 (
  some ((.i .i64 (Int.ofNat 1)),h7)) (
  bnd (aY x0 h7) fun v8 h8 =>
  bnd (aB 0 v8 h8) fun v9 h9 =>
  bnd (aA v9 h9) fun v10 h10 =>
  bnd (aD .add v1 (.i .i64 (Int.ofNat 1)) h10) fun v11 h11 =>
  bnd (aE 1 v10 v11 h11) fun v12 h12 =>
  bnd (aG 1 v12 x2 h12) fun _ h13 =>
  some ((.i .i64 (Int.ofNat 0)),h13))
def E44 (rec : FuncId → List DV → Hp → aH) (n : Nat) (c : Code) (X : Nat → K) (k : K) : K:=aM CF1 rec 27 n c X (aR CF1 Tryz.f80) k
theorem dTb (rec : FuncId → List DV → Hp → aH) (n : Nat) : E44 rec n (cf Tryz.f80) x0 (aR CF1 Tryz.f80) = (fun (env : bA) (h : Hp)=>t44 rec n (env 0) (env 1) (env 2) h) :=
 (by kernel_rfl)
theorem dLo (rec : FuncId → List DV → Hp → aH) (n : Nat) (args : List DV) (h : Hp) : aF CF1 rec n 80 args h = t44 rec n (args.getD 0 aS) (args.getD 1 aS) (args.getD 2 aS) h :=
 (by kernel_rfl : aF CF1 rec n 80 args h = E44 rec n (cf Tryz.f80) x0 (aR CF1 Tryz.f80) (aJ args) h).trans ((congrFun (congrFun (dTb rec n) (aJ args)) h).trans (by kernel_rfl))
def vN (rec : FuncId → List DV → Hp → aH) (n : Nat) (x0 x3 x9 : DV) (h0 : Hp) : aH :=
 bnd (aY x0 h0) fun v1 h1 =>
 bnd (aB 0 v1 h1) fun v2 h2 =>
 bnd (aA v2 h2) fun v3 h3 =>
 bnd (aE 1 v3 x9 h3) fun v4 h4 =>
 bnd (aG 1 v4 x3 h4) fun _ h5 =>
 some ((.i .i64 (Int.ofNat 0)),h5)
def bAa (rec : FuncId → List DV → Hp → aH) (n : Nat) (x0 x1 x3 x9 : DV) (h0 : Hp) : aH :=
 bnd (rec 136 [x0,x1] h0) fun v11 h11 =>
 bnd (aD .eql v11 (.i .i64 (Int.ofNat 0)) h11) fun v12 h12 =>
 aT v12 (
  bnd (rec 132 [x0,x3] h12) fun v13 h13 =>
  bnd (gQ .not v13 h13) fun v14 h14 =>
  aT v14 (
   some ((.i .i64 (Int.ofNat 6)),h14)) (
   vN rec n x0 x3 x9 h14)) (
  bnd (aD .eql v11 (.i .i64 (Int.ofNat 2)) h12) fun v15 h15 =>
  aT v15 (
   bnd (aD .lss x3 (.i .i64 (Int.ofNat 0)) h15) fun v16 h16 =>
   bnd (gD v16 false (some (x3,h16)) h16) fun v17 h17 =>
   bnd (gD v16 false (aD .gtr v17 (.i .i64 (Int.ofNat 255)) h17) h17) fun v18 h18 =>
   bnd (aP v16 (.b true) v18 h18) fun v19 h19 =>
   aT v19 (
    some ((.i .i64 (Int.ofNat 6)),h19)) (
    vN rec n x0 x3 x9 h19)) (
   vN rec n x0 x3 x9 h15))
def aOn (rec : FuncId → List DV → Hp → aH) (n : Nat) (x0 x1 x3 x9 x10 : DV) (h0 : Hp) : aH :=
 bnd (aD .neq x10 (.i .i64 (Int.ofNat 0)) h0) fun v29 h29 =>
 aT v29 (
  some (x10,h29)) (
  bAa rec n x0 x1 x3 x9 h29)
def bAg (rec : FuncId → List DV → Hp → aH) (n : Nat) (x0 x1 x2 x3 : DV) (h0 : Hp) : aH :=
 bnd (rec 135 [x0,x1,x2] h0) fun v31 h31 =>
 bnd (aC 0 v31 h31) fun v32 h32 =>
 bnd (aC 1 v31 h32) fun v33 h33 =>
 aOn rec n x0 x1 x3 v32 v33 h33
def t47 (rec : FuncId → List DV → Hp → aH) (n : Nat) (x0 x1 x2 x3 : DV) (h0 : Hp) : aH :=
 bAg rec n x0 x1 x2 x3 h0
def E47 (rec : FuncId → List DV → Hp → aH) (n : Nat) (c : Code) (X : Nat → K) (k : K) : K:=aM CF1 rec 45 n c X (aR CF1 Tryz.f84) k
theorem dHa (rec : FuncId → List DV → Hp → aH) (n : Nat) : E47 rec n (cR (cR (cR (cR (cf Tryz.f84))))) x0 (aR CF1 Tryz.f84) = (fun (env : bA) (h : Hp)=>vN rec n (env 0) (env 3) (env 9) h) :=
 (by kernel_rfl)
theorem cIr (rec : FuncId → List DV → Hp → aH) (n : Nat) : E47 rec n (cR (cR (cR (cf Tryz.f84)))) x0 (aR CF1 Tryz.f84) = E47 rec n (cL (cR (cR (cR (cf Tryz.f84))))) x0 (fun (env : bA) (h : Hp)=>vN rec n (env 0) (env 3) (env 9) h) :=
 congrArg (fun k=>E47 rec n (cL (cR (cR (cR (cf Tryz.f84))))) x0 k) (dHa rec n)
theorem dAq (rec : FuncId → List DV → Hp → aH) (n : Nat) : E47 rec n (cR (cR (cR (cf Tryz.f84)))) x0 (aR CF1 Tryz.f84) = (fun (env : bA) (h : Hp)=>bAa rec n (env 0) (env 1) (env 3) (env 9) h) :=
 (cIr rec n).trans
 ((by kernel_rfl))
theorem cCa (rec : FuncId → List DV → Hp → aH) (n : Nat) : E47 rec n (cR (cR (cf Tryz.f84))) x0 (aR CF1 Tryz.f84) = E47 rec n (cL (cR (cR (cf Tryz.f84)))) x0 (fun (env : bA) (h : Hp)=>bAa rec n (env 0) (env 1) (env 3) (env 9) h) :=
 congrArg (fun k=>E47 rec n (cL (cR (cR (cf Tryz.f84)))) x0 k) (dAq rec n)
theorem dFc (rec : FuncId → List DV → Hp → aH) (n : Nat) : E47 rec n (cR (cR (cf Tryz.f84))) x0 (aR CF1 Tryz.f84) = (fun (env : bA) (h : Hp)=>aOn rec n (env 0) (env 1) (env 3) (env 9) (env 10) h) :=
 (cCa rec n).trans
 ((by kernel_rfl))
theorem cFg (rec : FuncId → List DV → Hp → aH) (n : Nat) : E47 rec n (cR (cf Tryz.f84)) x0 (aR CF1 Tryz.f84) = E47 rec n (cL (cR (cf Tryz.f84))) x0 (fun (env : bA) (h : Hp)=>aOn rec n (env 0) (env 1) (env 3) (env 9) (env 10) h) :=
 congrArg (fun k=>E47 rec n (cL (cR (cf Tryz.f84))) x0 k) (dFc rec n)
theorem cZb (rec : FuncId → List DV → Hp → aH) (n : Nat) : E47 rec n (cR (cf Tryz.f84)) x0 (aR CF1 Tryz.f84) = (fun (env : bA) (h : Hp)=>bAg rec n (env 0) (env 1) (env 2) (env 3) h) :=
 (cFg rec n).trans
 ((by kernel_rfl))
theorem dPg (rec : FuncId → List DV → Hp → aH) (n : Nat) : E47 rec n (cf Tryz.f84) x0 (aR CF1 Tryz.f84) = E47 rec n (cL (cf Tryz.f84)) x0 (fun (env : bA) (h : Hp)=>bAg rec n (env 0) (env 1) (env 2) (env 3) h) :=
 congrArg (fun k=>E47 rec n (cL (cf Tryz.f84)) x0 k) (cZb rec n)
theorem dWc (rec : FuncId → List DV → Hp → aH) (n : Nat) : E47 rec n (cf Tryz.f84) x0 (aR CF1 Tryz.f84) = (fun (env : bA) (h : Hp)=>t47 rec n (env 0) (env 1) (env 2) (env 3) h) :=
 (dPg rec n).trans
 ((by kernel_rfl))
theorem dOz (rec : FuncId → List DV → Hp → aH) (n : Nat) (args : List DV) (h : Hp) : aF CF1 rec n 84 args h = t47 rec n (args.getD 0 aS) (args.getD 1 aS) (args.getD 2 aS) (args.getD 3 aS) h :=
 (by kernel_rfl : aF CF1 rec n 84 args h = E47 rec n (cf Tryz.f84) x0 (aR CF1 Tryz.f84) (aJ args) h).trans ((congrFun (congrFun (dWc rec n) (aJ args)) h).trans (by kernel_rfl))
def t50 (rec : FuncId → List DV → Hp → aH) (n : Nat) (x0 x1 : DV) (h0 : Hp) : aH :=
 bnd (aY x0 h0) fun v1 h1 =>
 bnd (aB 0 v1 h1) fun v2 h2 =>
 bnd (aA v2 h2) fun v3 h3 =>
 bnd (rec 128 [x0,x1] h3) fun v4 h4 =>
 cnd (bJ (aA v2 h4) v3 && true) (
 bnd (aD .add v4 (.i .i64 (Int.ofNat 1)) h4) fun v5 h5 =>
 bnd (aE 1 v3 v5 h5) fun v6 h6 =>
 bnd (aA v6 h6) fun v7 h7 =>
 some (v7,h7))
def E50 (rec : FuncId → List DV → Hp → aH) (n : Nat) (c : Code) (X : Nat → K) (k : K) : K:=aM CF1 rec 15 n c X (aR CF1 Tryz.f243) k
theorem dWt (rec : FuncId → List DV → Hp → aH) (n : Nat) : E50 rec n (cf Tryz.f243) x0 (aR CF1 Tryz.f243) = (fun (env : bA) (h : Hp)=>t50 rec n (env 0) (env 1) h) :=
 (by kernel_rfl)
theorem dOb (rec : FuncId → List DV → Hp → aH) (n : Nat) (args : List DV) (h : Hp) : aF CF1 rec n 243 args h = t50 rec n (args.getD 0 aS) (args.getD 1 aS) h :=
 (by kernel_rfl : aF CF1 rec n 243 args h = E50 rec n (cf Tryz.f243) x0 (aR CF1 Tryz.f243) (aJ args) h).trans ((congrFun (congrFun (dWt rec n) (aJ args)) h).trans (by kernel_rfl))
def t51 (rec : FuncId → List DV → Hp → aH) (n : Nat) (x0 x1 : DV) (h0 : Hp) : aH :=
 bnd (aY x0 h0) fun v1 h1 =>
 bnd (aB 0 v1 h1) fun v2 h2 =>
 bnd (aA v2 h2) fun v3 h3 =>
 bnd (rec 128 [x0,x1] h3) fun v4 h4 =>
 cnd (bJ (aA v2 h4) v3 && true) (
 bnd (aE 1 v3 v4 h4) fun v5 h5 =>
 bnd (aA v5 h5) fun v6 h6 =>
 bnd (aD .and v6 (.i .i64 (Int.ofNat 3)) h6) fun v7 h7 =>
 some (v7,h7))
def E51 (rec : FuncId → List DV → Hp → aH) (n : Nat) (c : Code) (X : Nat → K) (k : K) : K:=aM CF1 rec 15 n c X (aR CF1 Tryz.f136) k
theorem dSz (rec : FuncId → List DV → Hp → aH) (n : Nat) : E51 rec n (cf Tryz.f136) x0 (aR CF1 Tryz.f136) = (fun (env : bA) (h : Hp)=>t51 rec n (env 0) (env 1) h) :=
 (by kernel_rfl)
theorem dPr (rec : FuncId → List DV → Hp → aH) (n : Nat) (args : List DV) (h : Hp) : aF CF1 rec n 136 args h = t51 rec n (args.getD 0 aS) (args.getD 1 aS) h :=
 (by kernel_rfl : aF CF1 rec n 136 args h = E51 rec n (cf Tryz.f136) x0 (aR CF1 Tryz.f136) (aJ args) h).trans ((congrFun (congrFun (dSz rec n) (aJ args)) h).trans (by kernel_rfl))
def t52 (rec : FuncId → List DV → Hp → aH) (n : Nat) (x0 x1 : DV) (h0 : Hp) : aH :=
 bnd (aY x0 h0) fun v1 h1 =>
 bnd (aB 0 v1 h1) fun v2 h2 =>
 bnd (aA v2 h2) fun v3 h3 =>
 bnd (rec 128 [x0,x1] h3) fun v4 h4 =>
 cnd (bJ (aA v2 h4) v3 && true) (
 bnd (aE 1 v3 v4 h4) fun v5 h5 =>
 bnd (aA v5 h5) fun v6 h6 =>
 bnd (dZ .shr v6 (.i .u64 (Int.ofNat 2)) h6) fun v7 h7 =>
 some (v7,h7))
def E52 (rec : FuncId → List DV → Hp → aH) (n : Nat) (c : Code) (X : Nat → K) (k : K) : K:=aM CF1 rec 15 n c X (aR CF1 Tryz.f201) k
theorem dSa (rec : FuncId → List DV → Hp → aH) (n : Nat) : E52 rec n (cf Tryz.f201) x0 (aR CF1 Tryz.f201) = (fun (env : bA) (h : Hp)=>t52 rec n (env 0) (env 1) h) :=
 (by kernel_rfl)
theorem dQb (rec : FuncId → List DV → Hp → aH) (n : Nat) (args : List DV) (h : Hp) : aF CF1 rec n 201 args h = t52 rec n (args.getD 0 aS) (args.getD 1 aS) h :=
 (by kernel_rfl : aF CF1 rec n 201 args h = E52 rec n (cf Tryz.f201) x0 (aR CF1 Tryz.f201) (aJ args) h).trans ((congrFun (congrFun (dSa rec n) (aJ args)) h).trans (by kernel_rfl))
def t54 (rec : FuncId → List DV → Hp → aH) (n : Nat) (x0 : DV) (h0 : Hp) : aH :=
 bnd (aD .and x0 (.i .i64 (Int.ofNat 1)) h0) fun v1 h1 =>
 bnd (aD .eql v1 (.i .i64 (Int.ofNat 1)) h1) fun v2 h2 =>
 bnd (gD v2 true (some (x0,h2)) h2) fun v3 h3 =>
 bnd (gD v2 true (dZ .shr v3 (.i .u64 (Int.ofNat 1)) h3) h3) fun v4 h4 =>
 bnd (gD v2 true (rec 197 [v4,(.i .i64 (Int.negSucc 1073741823)),(.i .i64 (Int.ofNat 1073741823))] h4) h4) fun v5 h5 =>
 bnd (aP v2 v5 (.b false) h5) fun v6 h6 =>
 some (v6,h6)
def E54 (rec : FuncId → List DV → Hp → aH) (n : Nat) (c : Code) (X : Nat → K) (k : K) : K:=aM CF1 rec 11 n c X (aR CF1 Tryz.f200) k
theorem dXi (rec : FuncId → List DV → Hp → aH) (n : Nat) : E54 rec n (cf Tryz.f200) x0 (aR CF1 Tryz.f200) = (fun (env : bA) (h : Hp)=>t54 rec n (env 0) h) :=
 (by kernel_rfl)
theorem dMn (rec : FuncId → List DV → Hp → aH) (n : Nat) (args : List DV) (h : Hp) : aF CF1 rec n 200 args h = t54 rec n (args.getD 0 aS) h :=
 (by kernel_rfl : aF CF1 rec n 200 args h = E54 rec n (cf Tryz.f200) x0 (aR CF1 Tryz.f200) (aJ args) h).trans ((congrFun (congrFun (dXi rec n) (aJ args)) h).trans (by kernel_rfl))
def t60 (rec : FuncId → List DV → Hp → aH) (n : Nat) (x0 : DV) (h0 : Hp) : aH :=
 bnd (rec 197 [x0,(.i .i64 (Int.negSucc 1073741823)),(.i .i64 (Int.ofNat 1073741823))] h0) fun v1 h1 =>
 bnd (gQ .not v1 h1) fun v2 h2 =>
 aT v2 (
  some (.t [(.i .i64 (Int.ofNat 0)),(.b false)],h2)) (
  bnd (dZ .shl x0 (.i .u64 (Int.ofNat 1)) h2) fun v3 h3 =>
  bnd (aD .or v3 (.i .i64 (Int.ofNat 1)) h3) fun v4 h4 =>
  some (.t [v4,(.b true)],h4))
def E60 (rec : FuncId → List DV → Hp → aH) (n : Nat) (c : Code) (X : Nat → K) (k : K) : K:=aM CF1 rec 10 n c X (aR CF1 Tryz.f134) k
theorem dUx (rec : FuncId → List DV → Hp → aH) (n : Nat) : E60 rec n (cf Tryz.f134) x0 (aR CF1 Tryz.f134) = (fun (env : bA) (h : Hp)=>t60 rec n (env 0) h) :=
 (by kernel_rfl)
theorem dNk (rec : FuncId → List DV → Hp → aH) (n : Nat) (args : List DV) (h : Hp) : aF CF1 rec n 134 args h = t60 rec n (args.getD 0 aS) h :=
 (by kernel_rfl : aF CF1 rec n 134 args h = E60 rec n (cf Tryz.f134) x0 (aR CF1 Tryz.f134) (aJ args) h).trans ((congrFun (congrFun (dUx rec n) (aJ args)) h).trans (by kernel_rfl))
def t62 (rec : FuncId → List DV → Hp → aH) (n : Nat) (x0 : DV) (h0 : Hp) : aH :=
 bnd (rec 200 [x0] h0) fun v1 h1 =>
 bnd (gQ .not v1 h1) fun v2 h2 =>
 aT v2 (
  some ((.i .i64 (Int.ofNat 0)),h2)) (
  bnd (dZ .shr x0 (.i .u64 (Int.ofNat 1)) h2) fun v3 h3 =>
  some (v3,h3))
def E62 (rec : FuncId → List DV → Hp → aH) (n : Nat) (c : Code) (X : Nat → K) (k : K) : K:=aM CF1 rec 8 n c X (aR CF1 Tryz.f216) k
theorem dVj (rec : FuncId → List DV → Hp → aH) (n : Nat) : E62 rec n (cf Tryz.f216) x0 (aR CF1 Tryz.f216) = (fun (env : bA) (h : Hp)=>t62 rec n (env 0) h) :=
 (by kernel_rfl)
theorem dLl (rec : FuncId → List DV → Hp → aH) (n : Nat) (args : List DV) (h : Hp) : aF CF1 rec n 216 args h = t62 rec n (args.getD 0 aS) h :=
 (by kernel_rfl : aF CF1 rec n 216 args h = E62 rec n (cf Tryz.f216) x0 (aR CF1 Tryz.f216) (aJ args) h).trans ((congrFun (congrFun (dVj rec n) (aJ args)) h).trans (by kernel_rfl))
def t63 (rec : FuncId → List DV → Hp → aH) (n : Nat) (x0 : DV) (h0 : Hp) : aH :=
 bnd (aD .and x0 (.i .i64 (Int.ofNat 1)) h0) fun v1 h1 =>
 bnd (aD .eql v1 (.i .i64 (Int.ofNat 0)) h1) fun v2 h2 =>
 bnd (gD v2 true (some (x0,h2)) h2) fun v3 h3 =>
 bnd (gD v2 true (dZ .shr v3 (.i .u64 (Int.ofNat 1)) h3) h3) fun v4 h4 =>
 bnd (gD v2 true (rec 197 [v4,(.i .i64 (Int.ofNat 3)),(.i .i64 (Int.ofNat 131072))] h4) h4) fun v5 h5 =>
 bnd (aP v2 v5 (.b false) h5) fun v6 h6 =>
 some (v6,h6)
def E63 (rec : FuncId → List DV → Hp → aH) (n : Nat) (c : Code) (X : Nat → K) (k : K) : K:=aM CF1 rec 11 n c X (aR CF1 Tryz.f247) k
theorem dSo (rec : FuncId → List DV → Hp → aH) (n : Nat) : E63 rec n (cf Tryz.f247) x0 (aR CF1 Tryz.f247) = (fun (env : bA) (h : Hp)=>t63 rec n (env 0) h) :=
 (by kernel_rfl)
theorem dIc (rec : FuncId → List DV → Hp → aH) (n : Nat) (args : List DV) (h : Hp) : aF CF1 rec n 247 args h = t63 rec n (args.getD 0 aS) h :=
 (by kernel_rfl : aF CF1 rec n 247 args h = E63 rec n (cf Tryz.f247) x0 (aR CF1 Tryz.f247) (aJ args) h).trans ((congrFun (congrFun (dSo rec n) (aJ args)) h).trans (by kernel_rfl))
def t64 (rec : FuncId → List DV → Hp → aH) (n : Nat) (x0 : DV) (h0 : Hp) : aH :=
 bnd (rec 247 [x0] h0) fun v1 h1 =>
 bnd (gQ .not v1 h1) fun v2 h2 =>
 aT v2 (
  some ((.i .i64 (Int.ofNat 0)),h2)) (
  bnd (dZ .shr x0 (.i .u64 (Int.ofNat 1)) h2) fun v3 h3 =>
  some (v3,h3))
def E64 (rec : FuncId → List DV → Hp → aH) (n : Nat) (c : Code) (X : Nat → K) (k : K) : K:=aM CF1 rec 8 n c X (aR CF1 Tryz.f198) k
theorem dRg (rec : FuncId → List DV → Hp → aH) (n : Nat) : E64 rec n (cf Tryz.f198) x0 (aR CF1 Tryz.f198) = (fun (env : bA) (h : Hp)=>t64 rec n (env 0) h) :=
 (by kernel_rfl)
theorem dKo (rec : FuncId → List DV → Hp → aH) (n : Nat) (args : List DV) (h : Hp) : aF CF1 rec n 198 args h = t64 rec n (args.getD 0 aS) h :=
 (by kernel_rfl : aF CF1 rec n 198 args h = E64 rec n (cf Tryz.f198) x0 (aR CF1 Tryz.f198) (aJ args) h).trans ((congrFun (congrFun (dRg rec n) (aJ args)) h).trans (by kernel_rfl))
def t73 (rec : FuncId → List DV → Hp → aH) (n : Nat) (x0 x1 x2 : DV) (h0 : Hp) : aH :=
 bnd (rec 135 [x0,x1,x2] h0) fun v1 h1 =>
 bnd (aC 0 v1 h1) fun v2 h2 =>
 bnd (aC 1 v1 h2) fun v3 h3 =>
 bnd (aD .neq v3 (.i .i64 (Int.ofNat 0)) h3) fun v4 h4 =>
 aT v4 (
  some (.t [(.i .i64 (Int.ofNat 0)),v3],h4)) (
  bnd (aY x0 h4) fun v5 h5 =>
  bnd (aB 0 v5 h5) fun v6 h6 =>
  bnd (aA v6 h6) fun v7 h7 =>
  bnd (aE 1 v7 v2 h7) fun v8 h8 =>
  bnd (aA v8 h8) fun v9 h9 =>
  some (.t [v9,(.i .i64 (Int.ofNat 0))],h9))
def E73 (rec : FuncId → List DV → Hp → aH) (n : Nat) (c : Code) (X : Nat → K) (k : K) : K:=aM CF1 rec 27 n c X (aR CF1 Tryz.f245) k
theorem dUz (rec : FuncId → List DV → Hp → aH) (n : Nat) : E73 rec n (cf Tryz.f245) x0 (aR CF1 Tryz.f245) = (fun (env : bA) (h : Hp)=>t73 rec n (env 0) (env 1) (env 2) h) :=
 (by kernel_rfl)
theorem cRr (rec : FuncId → List DV → Hp → aH) (n : Nat) (args : List DV) (h : Hp) : aF CF1 rec n 245 args h = t73 rec n (args.getD 0 aS) (args.getD 1 aS) (args.getD 2 aS) h :=
 (by kernel_rfl : aF CF1 rec n 245 args h = E73 rec n (cf Tryz.f245) x0 (aR CF1 Tryz.f245) (aJ args) h).trans ((congrFun (congrFun (dUz rec n) (aJ args)) h).trans (by kernel_rfl))
def t74 (rec : FuncId → List DV → Hp → aH) (n : Nat) (x0 x1 : DV) (h0 : Hp) : aH :=
 bnd (aD .eql x1 (.i .i64 (Int.ofNat 0)) h0) fun v1 h1 =>
 bnd (gD v1 false (some (x0,h1)) h1) fun v2 h2 =>
 bnd (gD v1 false (some (x1,h2)) h2) fun v3 h3 =>
 bnd (gD v1 false (rec 196 [v2,v3] h3) h3) fun v4 h4 =>
 bnd (aP v1 (.b true) v4 h4) fun v5 h5 =>
 some (v5,h5)
def E74 (rec : FuncId → List DV → Hp → aH) (n : Nat) (c : Code) (X : Nat → K) (k : K) : K:=aM CF1 rec 12 n c X (aR CF1 Tryz.f125) k
theorem dRy (rec : FuncId → List DV → Hp → aH) (n : Nat) : E74 rec n (cf Tryz.f125) x0 (aR CF1 Tryz.f125) = (fun (env : bA) (h : Hp)=>t74 rec n (env 0) (env 1) h) :=
 (by kernel_rfl)
theorem dKl (rec : FuncId → List DV → Hp → aH) (n : Nat) (args : List DV) (h : Hp) : aF CF1 rec n 125 args h = t74 rec n (args.getD 0 aS) (args.getD 1 aS) h :=
 (by kernel_rfl : aF CF1 rec n 125 args h = E74 rec n (cf Tryz.f125) x0 (aR CF1 Tryz.f125) (aJ args) h).trans ((congrFun (congrFun (dRy rec n) (aJ args)) h).trans (by kernel_rfl))
def t75 (rec : FuncId → List DV → Hp → aH) (n : Nat) (x0 : DV) (h0 : Hp) : aH :=
 bnd (rec 197 [x0,(.i .i64 (Int.ofNat 3)),(.i .i64 (Int.ofNat 131072))] h0) fun v1 h1 =>
 bnd (gQ .not v1 h1) fun v2 h2 =>
 aT v2 (
  some (.t [(.i .i64 (Int.ofNat 0)),(.b false)],h2)) (
  bnd (dZ .shl x0 (.i .u64 (Int.ofNat 1)) h2) fun v3 h3 =>
  some (.t [v3,(.b true)],h3))
def E75 (rec : FuncId → List DV → Hp → aH) (n : Nat) (c : Code) (X : Nat → K) (k : K) : K:=aM CF1 rec 9 n c X (aR CF1 Tryz.f127) k
theorem dRd (rec : FuncId → List DV → Hp → aH) (n : Nat) : E75 rec n (cf Tryz.f127) x0 (aR CF1 Tryz.f127) = (fun (env : bA) (h : Hp)=>t75 rec n (env 0) h) :=
 (by kernel_rfl)
theorem dPj (rec : FuncId → List DV → Hp → aH) (n : Nat) (args : List DV) (h : Hp) : aF CF1 rec n 127 args h = t75 rec n (args.getD 0 aS) h :=
 (by kernel_rfl : aF CF1 rec n 127 args h = E75 rec n (cf Tryz.f127) x0 (aR CF1 Tryz.f127) (aJ args) h).trans ((congrFun (congrFun (dRd rec n) (aJ args)) h).trans (by kernel_rfl))
def t105 (rec : FuncId → List DV → Hp → aH) (n : Nat) (x0 x1 : DV) (h0 : Hp) : aH :=
 bnd (rec 196 [x0,x1] h0) fun v1 h1 =>
 bnd (gQ .not v1 h1) fun v2 h2 =>
 aT v2 (
  some ((.i .i64 (Int.ofNat 0)),h2)) (
  bnd (rec 198 [x1] h2) fun v3 h3 =>
  some (v3,h3))
def dNi (rec : FuncId → List DV → Hp → aH) (n : Nat) (c : Code) (X : Nat → K) (k : K) : K:=aM CF1 rec 11 n c X (aR CF1 Tryz.f128) k
theorem dIp (rec : FuncId → List DV → Hp → aH) (n : Nat) : dNi rec n (cf Tryz.f128) x0 (aR CF1 Tryz.f128) = (fun (env : bA) (h : Hp)=>t105 rec n (env 0) (env 1) h) :=
 (by kernel_rfl)
theorem dCn (rec : FuncId → List DV → Hp → aH) (n : Nat) (args : List DV) (h : Hp) : aF CF1 rec n 128 args h = t105 rec n (args.getD 0 aS) (args.getD 1 aS) h :=
 (by kernel_rfl : aF CF1 rec n 128 args h = dNi rec n (cf Tryz.f128) x0 (aR CF1 Tryz.f128) (aJ args) h).trans ((congrFun (congrFun (dIp rec n) (aJ args)) h).trans (by kernel_rfl))
def bEp (rec : FuncId → List DV → Hp → aH) (n : Nat) (x0 x1 x2 : DV) (h0 : Hp) : aH :=
 bnd (rec 128 [x0,x1] h0) fun v1 h1 =>
 bnd (aD .eql v1 (.i .i64 (Int.ofNat 0)) h1) fun v2 h2 =>
 aT v2 (
  some (.t [(.i .i64 (Int.ofNat 0)),(.i .i64 (Int.ofNat 1))],h2)) (
  bnd (aD .lss x2 (.i .i64 (Int.ofNat 0)) h2) fun v3 h3 =>
  bnd (gD v3 false (some (x2,h3)) h3) fun v4 h4 =>
  bnd (gD v3 false (some (x0,h4)) h4) fun v5 h5 =>
  bnd (gD v3 false (some (x1,h5)) h5) fun v6 h6 =>
  bnd (gD v3 false (rec 201 [v5,v6] h6) h6) fun v7 h7 =>
  bnd (gD v3 false (aD .geq v4 v7 h7) h7) fun v8 h8 =>
  bnd (aP v3 (.b true) v8 h8) fun v9 h9 =>
  aT v9 (
   some (.t [(.i .i64 (Int.ofNat 0)),(.i .i64 (Int.ofNat 5))],h9)) (
   bnd (aD .add v1 (.i .i64 (Int.ofNat 3)) h9) fun v10 h10 =>
   bnd (aD .add v10 x2 h10) fun v11 h11 =>
   some (.t [v11,(.i .i64 (Int.ofNat 0))],h11)))
def dOu (rec : FuncId → List DV → Hp → aH) (n : Nat) (c : Code) (X : Nat → K) (k : K) : K:=aM CF1 rec 29 n c X (aR CF1 Tryz.f135) k
theorem dPz (rec : FuncId → List DV → Hp → aH) (n : Nat) : dOu rec n (cf Tryz.f135) x0 (aR CF1 Tryz.f135) = (fun (env : bA) (h : Hp)=>bEp rec n (env 0) (env 1) (env 2) h) :=
 (by kernel_rfl)
theorem aGn (rec : FuncId → List DV → Hp → aH) (n : Nat) (args : List DV) (h : Hp) : aF CF1 rec n 135 args h = bEp rec n (args.getD 0 aS) (args.getD 1 aS) (args.getD 2 aS) h :=
 (by kernel_rfl : aF CF1 rec n 135 args h = dOu rec n (cf Tryz.f135) x0 (aR CF1 Tryz.f135) (aJ args) h).trans ((congrFun (congrFun (dPz rec n) (aJ args)) h).trans (by kernel_rfl))
def dCf (rec : FuncId → List DV → Hp → aH) (n : Nat) (x0 x1 x2 : DV) (h0 : Hp) : aH :=
 bnd (aD .geq x0 x1 h0) fun v1 h1 =>
 bnd (gD v1 true (some (x0,h1)) h1) fun v2 h2 =>
 bnd (gD v1 true (some (x2,h2)) h2) fun v3 h3 =>
 bnd (gD v1 true (aD .leq v2 v3 h3) h3) fun v4 h4 =>
 bnd (aP v1 v4 (.b false) h4) fun v5 h5 =>
 some (v5,h5)
def dQq (rec : FuncId → List DV → Hp → aH) (n : Nat) (c : Code) (X : Nat → K) (k : K) : K:=aM CF1 rec 15 n c X (aR CF1 Tryz.f197) k
theorem dNe (rec : FuncId → List DV → Hp → aH) (n : Nat) : dQq rec n (cf Tryz.f197) x0 (aR CF1 Tryz.f197) = (fun (env : bA) (h : Hp)=>dCf rec n (env 0) (env 1) (env 2) h) :=
 (by kernel_rfl)
theorem cYv (rec : FuncId → List DV → Hp → aH) (n : Nat) (args : List DV) (h : Hp) : aF CF1 rec n 197 args h = dCf rec n (args.getD 0 aS) (args.getD 1 aS) (args.getD 2 aS) h :=
 (by kernel_rfl : aF CF1 rec n 197 args h = dQq rec n (cf Tryz.f197) x0 (aR CF1 Tryz.f197) (aJ args) h).trans ((congrFun (congrFun (dNe rec n) (aJ args)) h).trans (by kernel_rfl))
end Go.Dd

namespace Go.Dd
theorem lY {a b : Nat} : Nat.beq a b = decide (a = b):=by
 cases h : Nat.beq a b with
 | true=>simp [Nat.eq_of_beq_eq_true h]
 | false =>
  have : a ≠ b:=by intro e; subst e; simp at h
  simp [this]
theorem aJz {a b : Nat} : Nat.ble a b = decide (a ≤ b):=by
 cases h : Nat.ble a b with
 | true=>simp [Nat.le_of_ble_eq_true h]
 | false =>
  have : ¬ a ≤ b:=by intro e; rw [Nat.ble_eq_true_of_le e] at h; cases h
  simp [this]
theorem aBx {a b : Nat} : Nat.blt a b = decide (a < b):=by
 show Nat.ble (a + 1) b = _
 rw [aJz]
 simp [Nat.succ_le_iff]
theorem aOf (w : Int) : (kS w ≠ 0 ↔ (w % 2 = 0 ∧ 3 ≤ w / 2 ∧ w / 2 ≤ 131072)) ∧ (kS w ≠ 0 → (kS w : Int) = w / 2) ∧ kS w ≤ 131072:=by
 cases w with
 | ofNat w =>
  simp only [kS,lY,aJz]
  have e1 : Nat.mod w 2 = w % 2:=rfl
  have e2 : Nat.div w 2 = w / 2:=rfl
  rw [e1,e2]
  by_cases hc : w % 2 = 0 ∧ 6 ≤ w ∧ w ≤ 262144
  ·obtain ⟨h1,h2,h3⟩:=hc
   simp only [h1,h2,h3,decide_true,Bool.and_self,cond_true]
   simp only [Int.ofNat_eq_natCast]
   refine ⟨⟨fun _=>⟨by omega,by omega,by omega⟩,fun _=>by omega⟩,fun _=>by omega,by omega⟩
  ·have : (decide (w % 2 = 0) && (decide (6 ≤ w) && decide (w ≤ 262144))) = false:=by
    rw [← Bool.not_eq_true]
    simpa using hc
   rw [this]
   simp only [cond_false,Int.ofNat_eq_natCast]
   refine ⟨⟨fun h=>absurd rfl h,fun h=>by omega⟩,fun h=>absurd rfl h,by omega⟩
 | negSucc w =>
  simp only [kS]
  refine ⟨⟨fun h=>absurd rfl h,fun h=>by omega⟩,fun h=>absurd rfl h,by omega⟩
theorem aQk (w : Int) : iT w = decide (w % 2 = 1 ∧ -1073741824 ≤ w / 2 ∧ w / 2 ≤ 1073741823):=by
 rw [Bool.eq_iff_iff,decide_eq_true_iff]
 cases w with
 | ofNat w =>
  simp only [iT,lY,aBx,Bool.and_eq_true,decide_eq_true_eq]
  have e1 : Nat.mod w 2 = w % 2:=rfl
  rw [e1]
  simp only [Int.ofNat_eq_natCast]
  omega
 | negSucc w =>
  simp only [iT,lY,aBx,Bool.and_eq_true,decide_eq_true_eq]
  have e1 : Nat.mod w 2 = w % 2:=rfl
  rw [e1]
  omega
theorem bEj (w : Int) : cRe w = w / 2:=by
 cases w with
 | ofNat w=>show Int.ofNat (w / 2) = _; simp
 | negSucc w=>show Int.negSucc (w / 2) = _; omega
theorem kB (a : Int) (h : -9223372036854775808 ≤ a ∧ a ≤ 9223372036854775807) : IntKind.i64.wrap a = a:=by
 simp [IntKind.wrap,IntKind.signed,IntKind.bits,Int.bmod]
 omega
theorem gT (a : Int) : (BitVec.ofInt 64 a).toNat = (a % 18446744073709551616).toNat:=by
 rw [BitVec.toNat_ofInt]
 rfl
theorem dVk (w : Int) : IntKind.i64.wrap (((BitVec.ofInt 64 w &&& BitVec.ofInt 64 1).toNat : Nat) : Int) = w % 2:=by
 rw [BitVec.toNat_and,gT,gT]
 rw [show ((1 : Int) % 18446744073709551616).toNat = 1 from rfl,Nat.and_one_is_mod]
 rw [kB _ (by omega)]
 omega
theorem dRz (w : Int) : IntKind.i64.wrap (((BitVec.ofInt 64 w &&& BitVec.ofInt 64 3).toNat : Nat) : Int) = w % 4:=by
 rw [BitVec.toNat_and,gT,gT]
 rw [show ((3 : Int) % 18446744073709551616).toNat = 2 ^ 2 - 1 from rfl,Nat.and_two_pow_sub_one_eq_mod]
 rw [kB _ (by omega)]
 omega
theorem cXx (a : Nat) (k b : Nat) (hb : b < 2 ^ k) (hs : a * 2 ^ k + b < 9223372036854775808) : IntKind.i64.wrap (((BitVec.ofInt 64 ((a * 2 ^ k : Nat) : Int) ||| BitVec.ofInt 64 (b : Int)).toNat : Nat) : Int) = ((a * 2 ^ k + b : Nat) : Int):=by
 have h1 : (BitVec.ofInt 64 ((a * 2 ^ k : Nat) : Int)).toNat = a * 2 ^ k:=by rw [gT]; omega
 have h2 : (BitVec.ofInt 64 (b : Int)).toNat = b:=by rw [gT]; omega
 rw [BitVec.toNat_or,h1,h2,Nat.mul_comm a,← Nat.two_pow_add_eq_or_of_lt hb,Nat.mul_comm]
 exact kB _ (by omega)
theorem aOg (a : Int) (b : Int) (hb : 0 ≤ b) : a.fdiv b = a / b:=Int.fdiv_eq_ediv_of_nonneg a hb
theorem fB (k : IntKind) (a b : Int) (h : Hp) : aD .eql (.i k a) (.i k b) h = some (.b (a == b),h):=by simp only [aD,if_true,fF]
theorem lL (k : IntKind) (a b : Int) (h : Hp) : aD .neq (.i k a) (.i k b) h = some (.b (a != b),h):=by simp only [aD,if_true,fF]
theorem cO (k : IntKind) (a b : Int) (h : Hp) : aD .lss (.i k a) (.i k b) h = some (.b (decide (a < b)),h):=by simp only [aD,if_true,fF]
theorem tP (k : IntKind) (a b : Int) (h : Hp) : aD .leq (.i k a) (.i k b) h = some (.b (decide (a ≤ b)),h):=by simp only [aD,if_true,fF]
theorem fP (k : IntKind) (a b : Int) (h : Hp) : aD .gtr (.i k a) (.i k b) h = some (.b (decide (a > b)),h):=by simp only [aD,if_true,fF]
theorem lJ (k : IntKind) (a b : Int) (h : Hp) : aD .geq (.i k a) (.i k b) h = some (.b (decide (a ≥ b)),h):=by simp only [aD,if_true,fF]
theorem aBg (a b : Int) (h : Hp) (hr : -9223372036854775808 ≤ a + b ∧ a + b ≤ 9223372036854775807) : aD .add (.i .i64 a) (.i .i64 b) h = some (.i .i64 (a + b),h):=by simp only [aD,if_true,fF,kB _ hr]
theorem bUr (a b : Int) (h : Hp) (hr : -9223372036854775808 ≤ a - b ∧ a - b ≤ 9223372036854775807) : aD .sub (.i .i64 a) (.i .i64 b) h = some (.i .i64 (a - b),h):=by simp only [aD,if_true,fF,kB _ hr]
theorem aZn (w : Int) (h : Hp) : aD .and (.i .i64 w) (.i .i64 (Int.ofNat 1)) h = some (.i .i64 (w % 2),h):=by
 have : fF .and .i64 w (Int.ofNat 1) = some (.i .i64 (w % 2)):=by
  rw [← dVk w]; rfl
 simp only [aD,if_true,this]
theorem cBo (w : Int) (h : Hp) : aD .and (.i .i64 w) (.i .i64 (Int.ofNat 3)) h = some (.i .i64 (w % 4),h):=by
 have : fF .and .i64 w (Int.ofNat 3) = some (.i .i64 (w % 4)):=by
  rw [← dRz w]; rfl
 simp only [aD,if_true,this]
theorem vV (w : Int) (h : Hp) : dZ .shr (.i .i64 w) (.i .u64 (Int.ofNat 1)) h = some (.i .i64 (w / 2),h):=by
 have : w.fdiv (2 ^ (min (Int.ofNat 1).toNat IntKind.i64.bits)) = w / 2:=aOg w (2 ^ 1) (by decide)
 simp only [dZ,show ¬ ((Int.ofNat 1) < 0) by decide,if_false,this]
theorem cEy (w : Int) (h : Hp) : dZ .shr (.i .i64 w) (.i .u64 (Int.ofNat 2)) h = some (.i .i64 (w / 4),h):=by
 have : w.fdiv (2 ^ (min (Int.ofNat 2).toNat IntKind.i64.bits)) = w / 4:=aOg w (2 ^ 2) (by decide)
 simp only [dZ,show ¬ ((Int.ofNat 2) < 0) by decide,if_false,this]
theorem bDa (w : Int) (h : Hp) (hr : -4611686018427387904 ≤ w ∧ w ≤ 4611686018427387903) : dZ .shl (.i .i64 w) (.i .u64 (Int.ofNat 1)) h = some (.i .i64 (2 * w),h):=by
 have : IntKind.i64.wrap (w * 2 ^ (min (Int.ofNat 1).toNat IntKind.i64.bits)) = 2 * w:=by
  rw [show w * 2 ^ (min (Int.ofNat 1).toNat IntKind.i64.bits) = 2 * w from Int.mul_comm w 2]
  exact kB _ (by omega)
 simp only [dZ,show ¬ ((Int.ofNat 1) < 0) by decide,if_false,this]
theorem cOy (w : Int) (h : Hp) (hr : -2305843009213693952 ≤ w ∧ w ≤ 2305843009213693951) : dZ .shl (.i .i64 w) (.i .u64 (Int.ofNat 2)) h = some (.i .i64 (4 * w),h):=by
 have : IntKind.i64.wrap (w * 2 ^ (min (Int.ofNat 2).toNat IntKind.i64.bits)) = 4 * w:=by
  rw [show w * 2 ^ (min (Int.ofNat 2).toNat IntKind.i64.bits) = 4 * w from Int.mul_comm w 4]
  exact kB _ (by omega)
 simp only [dZ,show ¬ ((Int.ofNat 2) < 0) by decide,if_false,this]
theorem nA (r : aH) (h : Hp) : gD (.b true) true r h = r:=Eq.trans rfl rfl
theorem eU (r : aH) (h : Hp) : gD (.b false) false r h = r:=Eq.trans rfl rfl
theorem dN (r : aH) (h : Hp) : gD (.b true) false r h = some (aS,h):=Eq.trans rfl rfl
theorem aNq (r : aH) (h : Hp) : gD (.b false) true r h = some (aS,h):=Eq.trans rfl rfl
theorem sK (w : Bool) (r : aH) (h : Hp) : gD aS w r h = some (aS,h):=Eq.trans rfl rfl
theorem aI (v : DV) (h : Hp) (k : DV → Hp → aH) : bnd (some (v,h)) k = k v h:=Eq.trans rfl rfl
theorem bN (x y : DV) (h : Hp) : aP (.b true) x y h = some (x,h):=Eq.trans rfl rfl
theorem bM (x y : DV) (h : Hp) : aP (.b false) x y h = some (y,h):=Eq.trans rfl rfl
theorem vE (b : Bool) (h : Hp) : gQ .not (.b b) h = some (.b (!b),h):=Eq.trans rfl rfl
theorem bF (a b : aH) : aT (.b true) a b = a:=Eq.trans rfl rfl
theorem bW (a b : aH) : aT (.b false) a b = b:=Eq.trans rfl rfl
theorem g0 (a : DV) (l : List DV) : (a :: l).getD 0 aS = a:=Eq.trans rfl rfl
theorem g1 (a b : DV) (l : List DV) : (a :: b :: l).getD 1 aS = b:=Eq.trans rfl rfl
theorem g2 (a b c : DV) (l : List DV) : (a :: b :: c :: l).getD 2 aS = c:=Eq.trans rfl rfl
theorem g3 (a b c d : DV) (l : List DV) : (a :: b :: c :: d :: l).getD 3 aS = d:=Eq.trans rfl rfl
theorem bCr (n : Nat) (a b c : Int) (h : Hp) : fT CF1 (n + 1) 197 [.i .i64 a,.i .i64 b,.i .i64 c] h = some (.b (decide (b ≤ a ∧ a ≤ c)),h):=by
 rw [cI 197 rfl,cYv]
 simp only [dCf,g0,g1,g2,lJ,aI]
 by_cases h1 : b ≤ a
 ·simp only [ge_iff_le,h1,decide_true,nA,aI,tP,bN,true_and]
 ·simp only [ge_iff_le,h1,decide_false,aNq,aI,bM,false_and]
theorem dAy (n : Nat) (w : Int) (h : Hp) : fT CF1 (n + 2) 200 [.i .i64 w] h = some (.b (iT w),h):=by
 rw [cI 200 rfl,dMn]
 simp only [t54,g0,aZn,aI,fB,aQk]
 by_cases h1 : w % 2 = 1
 ·have e : (w % 2 == Int.ofNat 1) = true:=by simpa using h1
  rw [e]
  simp only [nA,aI,vV,bCr,bN,h1,true_and]
  rfl
 ·have e : (w % 2 == Int.ofNat 1) = false:=by simpa using h1
  rw [e]
  simp only [aNq,aI,bM,h1,false_and,decide_false]
theorem dOn (n : Nat) (w : Int) (h : Hp) : fT CF1 (n + 2) 247 [.i .i64 w] h = some (.b (!(Nat.beq (kS w) 0)),h):=by
 rw [cI 247 rfl,dIc]
 simp only [t63,g0,aZn,aI,fB,lY]
 have hp:=(aOf w).1
 by_cases h1 : w % 2 = 0
 ·have e : (w % 2 == Int.ofNat 0) = true:=by simpa using h1
  rw [e]
  simp only [nA,aI,vV,bCr,bN]
  by_cases h2 : kS w = 0
  ·have : ¬ (Int.ofNat 3 ≤ w / 2 ∧ w / 2 ≤ Int.ofNat 131072):=fun h=>(hp.2 ⟨h1,h⟩) h2
   simp only [h2,this,decide_true,Bool.not_true,decide_false]
  ·have : Int.ofNat 3 ≤ w / 2 ∧ w / 2 ≤ Int.ofNat 131072:=(hp.1 h2).2
   simp only [h2,this,decide_false,Bool.not_false,and_self,decide_true]
 ·have h2 : kS w = 0:=by
   by_cases h2 : kS w = 0
   ·exact h2
   ·exact absurd (hp.1 h2).1 h1
  have e : (w % 2 == Int.ofNat 0) = false:=by simpa using h1
  rw [e]
  simp only [aNq,aI,bM,h2,decide_true,Bool.not_true]
theorem dKf (n : Nat) (w : Int) (h : Hp) : fT CF1 (n + 3) 198 [.i .i64 w] h = some (.i .i64 (kS w),h):=by
 rw [cI 198 rfl,dKo]
 simp only [t64,g0,dOn,aI,vE,lY]
 by_cases h2 : kS w = 0
 ·simp only [h2,decide_true,Bool.not_true,Bool.not_false,bF]; rfl
 ·have hp:=(aOf w).2.1 h2
  simp only [h2,decide_false,Bool.not_false,Bool.not_true,bW,vV,aI,hp]
theorem dIb (n : Nat) (w : Int) (h : Hp) : fT CF1 (n + 2) 134 [.i .i64 w] h = some (if -1073741824 ≤ w ∧ w ≤ 1073741823 then .t [.i .i64 (2 * w + 1),.b true] else .t [.i .i64 0,.b false],h):=by
 rw [cI 134 rfl,dNk]
 simp only [t60,g0,bCr,aI,vE]
 by_cases h1 : -1073741824 ≤ w ∧ w ≤ 1073741823
 ·have h1' : Int.negSucc 1073741823 ≤ w ∧ w ≤ Int.ofNat 1073741823:=h1
  rw [if_pos h1]
  simp only [h1',decide_true,and_self,bW,Bool.not_true]
  rw [bDa w h (by omega)]
  have hb : fF .or .i64 (2 * w) (Int.ofNat 1) = some (.i .i64 (2 * w + 1)):=by
   have : IntKind.i64.wrap (((BitVec.ofInt 64 (2 * w) ||| BitVec.ofInt 64 (Int.ofNat 1)).toNat : Nat) : Int) = 2 * w + 1:=by
    rw [BitVec.toNat_or,gT,gT]
    rw [show ((Int.ofNat 1) % 18446744073709551616).toNat = 1 from rfl]
    obtain ⟨q,hq⟩ : ∃ q : Nat,((2 * w) % 18446744073709551616).toNat = 2 ^ 1 * q:=⟨((2 * w) % 18446744073709551616).toNat / 2,by omega⟩
    rw [hq,← Nat.two_pow_add_eq_or_of_lt (show 1 < 2 ^ 1 by omega)]
    rw [← hq]
    simp [IntKind.wrap,IntKind.signed,IntKind.bits,Int.bmod]
    omega
   rw [← this]; rfl
  simp only [aI,aD,if_true,hb]
 ·have h1' : ¬ (Int.negSucc 1073741823 ≤ w ∧ w ≤ Int.ofNat 1073741823):=h1
  rw [if_neg h1]
  simp only [h1',decide_false,bF,Bool.not_false]
  rfl
theorem dXf (n : Nat) (w : Int) (h : Hp) : fT CF1 (n + 3) 216 [.i .i64 w] h = some (if iT w then .i .i64 (w / 2) else .i .i64 0,h):=by
 rw [cI 216 rfl,dLl]
 simp only [t62,g0,dAy,aI,vE]
 cases iT w with
 | false=>rfl
 | true=>simp only [Bool.not_true,bW,vV,aI,if_true]
theorem dTo (n : Nat) (a : Int) (h : Hp) : fT CF1 (n + 2) 127 [.i .i64 a] h = some (if 3 ≤ a ∧ a ≤ 131072 then .t [.i .i64 (2 * a),.b true] else .t [.i .i64 0,.b false],h):=by
 rw [cI 127 rfl,dPj]
 simp only [t75,g0,bCr,aI,vE]
 by_cases h1 : 3 ≤ a ∧ a ≤ 131072
 ·have h1' : Int.ofNat 3 ≤ a ∧ a ≤ Int.ofNat 131072:=h1
  rw [if_pos h1]
  simp only [h1',decide_true,and_self,bW,Bool.not_true]
  rw [bDa a h (by omega)]
  rfl
 ·have h1' : ¬ (Int.ofNat 3 ≤ a ∧ a ≤ Int.ofNat 131072):=h1
  rw [if_neg h1]
  simp only [h1',decide_false,bF,Bool.not_false]
  rfl
end Go.Dd

namespace Go.Dd
structure ML (m : Pos) (M : MemV) (h : Hp) : Prop where
 row : h.bl.get m = some (.row .ex [.l M.wb 0 M.n M.n,.i .i64 (Int.ofNat M.fin),.i .i64 (Int.ofNat M.made),.m M.pb])
 words : h.bl.get M.wb = some (.row .ex (iO M.n M.t))
 places : ∃ es,h.bl.get M.pb = some (.mp es) ∧ ∀ a : Int,fQ (.int .i64) (.i .i64 a) es = some (if 0 ≤ a ∧ M.pl.get a.toNat ≠ 0 then some (.b true) else none)
 n_lt : M.n < 1000000
 fin_le : M.fin ≤ M.n
 made_lt : M.made < 2000000
 d1 : m ≠ M.wb
 d2 : m ≠ M.pb
 d3 : M.wb ≠ M.pb
theorem tI {m : Pos} {M : MemV} {h : Hp} (hm : sT m h = some M) :
  h.bl.get m = some (.row .ex [.l M.wb 0 M.n M.n,.i .i64 (Int.ofNat M.fin),.i .i64 (Int.ofNat M.made),.m M.pb]) ∧ h.bl.get M.wb = some (.big M.n M.t) ∧ h.bl.get M.pb = some (.mi M.pl) ∧ M.n < 1000000 ∧ M.fin ≤ M.n ∧ M.made < 1000000:=by
 unfold sT at hm
 split at hm <;> (try (cases hm; done))
 rename_i wb n c fin made pb hr
 split at hm <;> (try (cases hm; done))
 rename_i n' t pl h1 h2
 cases hb : (Nat.beq n n' && Nat.beq n c) with
 | false=>rw [hb] at hm; cases hm
 | true =>
  rw [hb] at hm
  simp only [cond_true] at hm
  cases hc : (Nat.blt n 1000000 && (Nat.ble fin n && Nat.blt made 1000000)) with
  | false=>rw [hc] at hm; cases hm
  | true =>
   rw [hc] at hm
   simp only [cond_true,aU] at hm
   subst hm
   simp only [lY,aJz,aBx,Bool.and_eq_true,decide_eq_true_eq] at hb hc
   obtain ⟨rfl,rfl⟩:=hb
   exact ⟨hr,h1,h2,hc.1,hc.2.1,hc.2.2⟩
theorem fS {m : Pos} {M : MemV} {h h' : Hp} (hm : sT m h = some M) (S : Sim false h h') : ML m M h':=by
 obtain ⟨h1,h2,h3,h4,h5,h6⟩:=tI hm
 refine ⟨S.row h1, ?_, ?_,h4,h5,by omega,fun e=>by (rw [e,h2] at h1; cases h1),fun e=>by (rw [e,h3] at h1; cases h1),fun e=>by (rw [e,h3] at h2; cases h2)⟩
 ·obtain ⟨o',e1,e2⟩:=S.get _ _ h2
  have e2' : o' = .row .ex (iO M.n M.t):=by simpa [aN,wE] using e2
  rw [e1,e2']
 ·obtain ⟨o',e1,e2⟩:=S.get _ _ h3
  have e2' : ∃ es,o' = .mp es ∧ ∀ a : Int,fQ (.int .i64) (.i .i64 a) es = some (if 0 ≤ a ∧ M.pl.get a.toNat ≠ 0 then some (.b true) else none):=by simpa [aN,wE] using e2
  obtain ⟨es,rfl,e3⟩:=e2'
  exact ⟨es,e1,e3⟩
section
variable {m : Pos} {M : MemV} {h : Hp}
theorem iF (b : Pos) (o : Nat) (h : Hp) : aY (.p b o) h = some (.p b o,h):=Eq.trans rfl rfl
theorem eM (k : Nat) (b : Pos) (o : Nat) (h : Hp) : aB k (.p b o) h = some (.p b (o + k),h):=Eq.trans rfl rfl
theorem ML.l0 (H : ML m M h) : aA (.p m (0 + 0)) h = some (.l M.wb 0 M.n M.n,h):=by
 simp [aA,cellD,rowOf,H.row,DV.one]
theorem ML.l1 (H : ML m M h) : aA (.p m (0 + 1)) h = some (.i .i64 (Int.ofNat M.fin),h):=by
 simp [aA,cellD,rowOf,H.row,DV.one]
theorem ML.l2 (H : ML m M h) : aA (.p m (0 + 2)) h = some (.i .i64 (Int.ofNat M.made),h):=by
 simp [aA,cellD,rowOf,H.row,DV.one]
theorem ML.l3 (H : ML m M h) : aA (.p m (0 + 3)) h = some (.m M.pb,h):=by
 simp [aA,cellD,rowOf,H.row,DV.one]
theorem lR {n : Nat} {t : WT} {i : Nat} (h : i < n) : (iO n t)[i]? = some (.i .i64 (t.get i)):=by
 simp [iO,h]
theorem ML.ix (H : ML m M h) {a : Nat} (ha : a < M.n) : aE 1 (.l M.wb 0 M.n M.n) (.i .i64 (a : Int)) h = some (.p M.wb a,h):=by
 have : (0 : Int) ≤ (a : Int) ∧ (a : Int) < (M.n : Int):=by omega
 simp [aE,this]
theorem ML.ld (H : ML m M h) {a : Nat} (ha : a < M.n) : aA (.p M.wb a) h = some (.i .i64 (M.t.get a),h):=by
 simp [aA,cellD,rowOf,H.words,lR ha,DV.one]
theorem bZm (o : Int) (pl : WT) : gO o pl = 0 ∨ (gO o pl = kS o ∧ kS o ≠ 0):=by
 unfold gO
 by_cases h0 : kS o = 0
 ·simp [h0,lY]
 ·simp only [lY,h0,decide_false,cond_false]
  split
  ·exact .inl rfl
  ·exact .inr ⟨rfl,h0⟩
theorem atN_pos {o : Int} {pl : WT} : (gO o pl ≠ 0) ↔ (kS o ≠ 0 ∧ pl.get (kS o) ≠ 0):=by
 unfold gO
 by_cases h0 : kS o = 0
 ·simp [h0,lY]
 ·simp only [lY,h0,decide_false,cond_false]
  split
  ·rename_i e; simp [e]
  ·rename_i e
   refine ⟨fun _=>⟨h0,fun e'=>e (by rw [e']; rfl)⟩,fun _=>h0⟩
theorem ML.lookup (H : ML m M h) (a : Nat) : eH (.int .i64) (.b false) false (.m M.pb) (.i .i64 (a : Int)) h = some (.b (decide (M.pl.get a ≠ 0)),h):=by
 obtain ⟨es,h1,h2⟩:=H.places
 have:=h2 a
 simp only [Int.toNat_natCast] at this
 simp only [eH,hU,h1,this]
 by_cases hc : M.pl.get a = 0
 ·simp [hc]
 ·simp [hc]
theorem mV {r : aH} {v : DV} {h : Hp} (hr : r = some (v,h)) (hv : DV.beq v v = true) : bJ r v = true:=by
 rw [hr]; exact hv
theorem dKv (b : Pos) : DV.beq (.m b) (.m b) = true:=by simp [DV.beq]
theorem bRn (b : Pos) (o n c : Nat) : DV.beq (.l b o n c) (.l b o n c) = true:=by simp [DV.beq]
theorem cIq (H : ML m M h) (n : Nat) (w : Int) : fT CF1 (n + 4) 196 [.p m 0,.i .i64 w] h = some (.b (!(Nat.beq (gO w M.pl) 0)),h):=by
 rw [cI 196 rfl,dQp]
 simp only [t21,g0,g1,dOn,aI,lY]
 by_cases h0 : kS w = 0
 ·have : gO w M.pl = 0:=by
   rcases bZm w M.pl with e | ⟨e,e'⟩
   ·exact e
   ·exact absurd h0 e'
  simp only [h0,decide_true,Bool.not_true,aNq,aI,this]
  simp [bJ,aS,DV.beq,dYp,cnd,bnd,aP]
 ·simp only [h0,decide_false,Bool.not_false,nA,aI,iF,eM,H.l3,dKf]
  rw [mV rfl (dKv _),Bool.and_self]
  simp only [cnd,H.lookup,aI,bN]
  by_cases h1 : M.pl.get (kS w) = 0
  ·have : gO w M.pl = 0:=by
    by_cases e : gO w M.pl = 0
    ·exact e
    ·exact absurd h1 (atN_pos.1 e).2
   simp [h1,this]
  ·have : gO w M.pl ≠ 0:=atN_pos.2 ⟨h0,h1⟩
   simp [h1,this]
theorem dRr (H : ML m M h) (n : Nat) : fT CF1 (n + 1) 108 [.p m 0] h = some (.i .i64 (Int.ofNat M.n),h):=by
 rw [cI 108 rfl,dQk]
 simp only [t22,g0,aI,iF,eM,H.l0]
 rfl
theorem dOe (H : ML m M h) (n : Nat) : fT CF1 (n + 1) 126 [.p m 0] h = some (.i .i64 (Int.ofNat (M.n - M.fin)),h):=by
 rw [cI 126 rfl,dMr]
 have h1:=H.n_lt
 have h2:=H.fin_le
 have e : cB (.l M.wb 0 M.n M.n) h = some (.i .i64 (M.n : Int),h):=rfl
 simp only [t29,g0,aI,iF,eM,H.l0,H.l1,e]
 rw [bUr _ _ _ (by simp only [Int.ofNat_eq_natCast]; omega)]
 simp only [aI]
 congr 3
 simp only [Int.ofNat_eq_natCast]
 omega
theorem dNc (H : ML m M h) (n : Nat) (w : Int) : fT CF1 (n + 5) 132 [.p m 0,.i .i64 w] h = some (.b (aLo w M.pl),h):=by
 rw [cI 132 rfl,dKt]
 have hm : aLo w M.pl = (decide (w = 0) || (decide (w = 2) || (decide (w = 4) || (iT w || !(Nat.beq (gO w M.pl) 0))))):=by
  unfold aLo
  split
  ·simp
  ·simp
  ·simp
  ·rename_i h1 h2 h3
   have e1 : w ≠ 0:=fun e=>h1 (by rw [e]; rfl)
   have e2 : w ≠ 2:=fun e=>h2 (by rw [e]; rfl)
   have e3 : w ≠ 4:=fun e=>h3 (by rw [e]; rfl)
   simp [e1,e2,e3]
 rw [hm]
 simp only [t20,g0,g1,fB,aI]
 have b0 : (w == Int.ofNat 0) = decide (w = 0):=rfl
 have b2 : (w == Int.ofNat 2) = decide (w = 2):=rfl
 have b4 : (w == Int.ofNat 4) = decide (w = 4):=rfl
 rw [b0]
 cases decide (w = 0) with
 | true=>simp only [dN,aI,bN,Bool.true_or]
 | false =>
  simp only [eU,aI,fB,bM,b2,Bool.false_or]
  cases decide (w = 2) with
  | true=>simp only [dN,aI,bN,Bool.true_or]
  | false =>
   simp only [eU,aI,fB,bM,b4,Bool.false_or]
   cases decide (w = 4) with
   | true=>simp only [dN,aI,bN,Bool.true_or]
   | false =>
    simp only [eU,aI,dAy,bM,Bool.false_or]
    cases iT w with
    | true=>simp only [dN,aI,bN,Bool.true_or]
    | false=>simp only [eU,aI,cIq H,bM,Bool.false_or]
theorem dPd (H : ML m M h) (n : Nat) (w : Int) : fT CF1 (n + 5) 125 [.p m 0,.i .i64 w] h = some (.b (aCg w M.pl),h):=by
 rw [cI 125 rfl,dKl]
 have hm : aCg w M.pl = (decide (w = 0) || !(Nat.beq (gO w M.pl) 0)):=by
  unfold aCg
  split
  ·simp
  ·rename_i h1
   have e1 : w ≠ 0:=fun e=>h1 (by rw [e]; rfl)
   simp [e1]
 rw [hm]
 have b0 : (w == Int.ofNat 0) = decide (w = 0):=rfl
 simp only [t74,g0,g1,fB,aI,b0]
 cases decide (w = 0) with
 | true=>simp only [dN,aI,bN,Bool.true_or]
 | false=>simp only [eU,aI,cIq H,bM,Bool.false_or]
theorem vL (H : ML m M h) (n : Nat) (w : Int) : fT CF1 (n + 5) 128 [.p m 0,.i .i64 w] h = some (.i .i64 (gO w M.pl),h):=by
 rw [cI 128 rfl,dCn]
 simp only [t105,g0,g1,cIq H,aI,vE,lY]
 rcases bZm w M.pl with e | ⟨e,e'⟩
 ·simp only [e,decide_true,Bool.not_true,Bool.not_false,bF]; rfl
 ·simp only [e,e',decide_false,Bool.not_false,Bool.not_true,bW,dKf,aI]
theorem wH {o : Int} {k : Nat → aH} {r : DV × Hp} (hh : nH M o k = some r) : gO o M.pl + 1 < M.n ∧ ∃ hd,M.t.get (gO o M.pl) = Int.ofNat hd ∧ hd < 1000000000000 ∧ k hd = some r:=by
 unfold nH at hh
 cases hb : Nat.blt (Nat.add (gO o M.pl) 1) M.n with
 | false=>rw [hb] at hh; cases hh
 | true =>
  rw [hb] at hh
  simp only [cond_true] at hh
  simp only [aBx,decide_eq_true_eq] at hb
  split at hh <;> (try (cases hh; done))
  rename_i hd he
  cases hc : Nat.blt hd 1000000000000 with
  | false=>rw [hc] at hh; cases hh
  | true =>
   rw [hc] at hh
   simp only [aBx,decide_eq_true_eq] at hc
   exact ⟨hb,hd,he,hc,hh⟩
theorem dUa (H : ML m M h) (n : Nat) (o : Int) (ho : gO o M.pl + 1 < M.n) : fT CF1 (n + 6) 243 [.p m 0,.i .i64 o] h = some (.i .i64 (M.t.get (gO o M.pl + 1)),h):=by
 rw [cI 243 rfl,dOb]
 have hn:=H.n_lt
 simp only [t50,g0,g1,aI,iF,eM,H.l0,vL H]
 rw [mV rfl (bRn _ _ _ _),Bool.and_self]
 simp only [cnd]
 rw [aBg _ _ _ (by simp only [Int.ofNat_eq_natCast]; omega)]
 have e : (gO o M.pl : Int) + Int.ofNat 1 = ((gO o M.pl + 1 : Nat) : Int):=by simp
 simp only [aI,e,H.ix ho,H.ld ho]
theorem dIr (H : ML m M h) (n : Nat) (o : Int) (ho : gO o M.pl < M.n) : fT CF1 (n + 6) 136 [.p m 0,.i .i64 o] h = some (.i .i64 (M.t.get (gO o M.pl) % 4),h):=by
 rw [cI 136 rfl,dPr]
 simp only [t51,g0,g1,aI,iF,eM,H.l0,vL H]
 rw [mV rfl (bRn _ _ _ _),Bool.and_self]
 simp only [cnd,aI,H.ix ho,H.ld ho,cBo]
theorem dKa (H : ML m M h) (n : Nat) (o : Int) (ho : gO o M.pl < M.n) : fT CF1 (n + 6) 201 [.p m 0,.i .i64 o] h = some (.i .i64 (M.t.get (gO o M.pl) / 4),h):=by
 rw [cI 201 rfl,dQb]
 simp only [t52,g0,g1,aI,iF,eM,H.l0,vL H]
 rw [mV rfl (bRn _ _ _ _),Bool.and_self]
 simp only [cnd,aI,H.ix ho,H.ld ho,cEy]
end
end Go.Dd

namespace Go.Dd
section
variable {m : Pos} {M : MemV} {h : Hp}
theorem bKa (H : ML m M h) {o i : Int} {bad : Nat → aH} {k : Nat → Nat → aH} {r : DV × Hp} (hf : lD M o i bad k = some r) :
  (∃ e : Nat,e ≠ 0 ∧ bad e = some r ∧ ∀ n,fT CF1 (n + 7) 135 [.p m 0,.i .i64 o,.i .i64 i] h = some (.t [.i .i64 (Int.ofNat 0),.i .i64 (Int.ofNat e)],h)) ∨
  (∃ hd a : Nat,gO o M.pl ≠ 0 ∧ a < M.n ∧ gO o M.pl + 1 < M.n ∧ M.t.get (gO o M.pl) = Int.ofNat hd ∧ k hd a = some r ∧ ∀ n,fT CF1 (n + 7) 135 [.p m 0,.i .i64 o,.i .i64 i] h = some (.t [.i .i64 (a : Int),.i .i64 (Int.ofNat 0)],h)):=by
 have hn:=H.n_lt
 unfold lD at hf
 rw [lY] at hf
 by_cases h0 : gO o M.pl = 0
 ·simp only [h0,decide_true,cond_true] at hf
  refine .inl ⟨1,by omega,hf,fun n => ?_⟩
  rw [cI 135 rfl,aGn]
  simp only [bEp,g0,g1,g2,vL H,aI,fB,h0]
  rfl
 ·simp only [h0,decide_false,cond_false] at hf
  have e0 : ((gO o M.pl : Int) == Int.ofNat 0) = false:=by simpa using h0
  cases i with
  | negSucc i =>
   refine .inl ⟨5,by omega,hf,fun n => ?_⟩
   rw [cI 135 rfl,aGn]
   have hlt : decide (Int.negSucc i < Int.ofNat 0) = true:=decide_eq_true (Int.negSucc_lt_zero i)
   simp only [bEp,g0,g1,g2,vL H,aI,fB,e0,bW,cO,hlt,dN,bN,bF]
  | ofNat i =>
   dsimp only at hf
   obtain ⟨h1,hd,h2,h3,h4⟩:=wH hf
   rw [aJz] at h4
   have hlt : decide (Int.ofNat i < Int.ofNat 0) = false:=by simp
   have h52:=fun n=>dKa H n o (show gO o M.pl < M.n by omega)
   rw [h2] at h52
   by_cases hi : Nat.div hd 4 ≤ i
   ·simp only [hi,decide_true,cond_true] at h4
    refine .inl ⟨5,by omega,h4,fun n => ?_⟩
    rw [cI 135 rfl,aGn]
    have hge : decide (Int.ofNat i ≥ Int.ofNat hd / 4) = true:=by
     have : hd / 4 ≤ i:=hi
     simp only [decide_eq_true_eq,Int.ofNat_eq_natCast]
     omega
    simp only [bEp,g0,g1,g2,vL H,aI,fB,e0,bW,cO,hlt,eU,h52,lJ,hge,bM,bF]
   ·simp only [hi,decide_false,cond_false] at h4
    rw [aBx] at h4
    by_cases ha : Nat.add (Nat.add (gO o M.pl) 3) i < M.n
    ·simp only [ha,decide_true,cond_true] at h4
     have ha' : gO o M.pl + 3 + i < M.n:=ha
     refine .inr ⟨hd,_,h0,ha,h1,h2,h4,fun n => ?_⟩
     rw [cI 135 rfl,aGn]
     have hge : decide (Int.ofNat i ≥ Int.ofNat hd / 4) = false:=by
      have : ¬ hd / 4 ≤ i:=hi
      simp only [decide_eq_false_iff_not,Int.ofNat_eq_natCast]
      omega
     simp only [bEp,g0,g1,g2,vL H,aI,fB,e0,bW,cO,hlt,eU,h52,lJ,hge,bM]
     rw [aBg _ _ _ (by simp only [Int.ofNat_eq_natCast]; omega)]
     simp only [aI]
     rw [aBg _ _ _ (by simp only [Int.ofNat_eq_natCast]; omega)]
     simp only [aI]
     congr 4
    ·simp only [ha,decide_false,cond_false] at h4
     cases h4
theorem nJ (a b : DV) (h : Hp) : aC 0 (.t [a,b]) h = some (a,h):=Eq.trans rfl rfl
theorem nL (a b : DV) (h : Hp) : aC 1 (.t [a,b]) h = some (b,h):=Eq.trans rfl rfl
theorem cQs {e : Nat} (he : e ≠ 0) : (Int.ofNat e != Int.ofNat 0) = true:=by
 simpa using he
theorem ML.put (H : ML m M h) {a : Nat} (ha : a < M.n) (w : Int) : aG 1 (.p M.wb a) (.i .i64 w) h = some (aS,⟨h.next,Tr.set (.row .ex (iO M.n (M.t.set a w))) M.wb h.bl⟩):=by
 have hput : ∀ (n : Nat) (l : List DV) (x : DV),(∀ v ∈ l,v.one = true) → x.one = true → n < l.length → fR n l [x] = some (l.set n x):=by
  intro n
  induction n with
  | zero =>
   intro l x hl hx hlt
   cases l with
   | nil=>simp at hlt
   | cons y l =>
    have hp : jS l [] = some l:=by cases l <;> rfl
    simp [fR,jS,hl y (by simp),hx,hp]
  | succ n ih =>
   intro l x hl hx hlt
   cases l with
   | nil=>simp at hlt
   | cons y l =>
    simp only [fR,List.set_cons_succ]
    rw [ih l x (fun v hv=>hl v (by simp [hv])) hx (by simpa using hlt)]
    rfl
 have hb : ∀ v ∈ iO M.n M.t,v.one = true:=by
  intro v hv
  simp only [iO,List.mem_map] at hv
  obtain ⟨i,_,rfl⟩:=hv
  rfl
 have hlen : (iO M.n M.t).length = M.n:=by simp [iO]
 have hset : (iO M.n M.t).set a (.i .i64 w) = iO M.n (M.t.set a w):=by
  apply List.ext_getElem?
  intro i
  rw [List.getElem?_set]
  by_cases hi : i < M.n
  ·rw [lR hi,lR hi,WT.get_set M.t a w i (by have:=H.n_lt; omega)]
   by_cases e : a = i
   ·subst e
    simp [hlen,hi]
   ·rw [if_neg e,if_neg (by omega)]
  ·have h1 : (iO M.n M.t)[i]? = none:=List.getElem?_eq_none (by omega)
   have h2 : (iO M.n (M.t.set a w))[i]? = none:=List.getElem?_eq_none (by simp [iO]; omega)
   rw [h2]
   split
   ·rename_i e; subst e; rw [if_neg (by omega)]
   ·exact h1
 simp only [aG,dD,List.length_singleton,if_true,cE,H.words,Kind.writable]
 rw [hput a _ _ hb rfl (by omega),hset]
theorem dTy (H : ML m M h) {o i : Int} {k : Nat → aH} {kk : Nat → Nat → aH} {r : DV × Hp} (hf : lD M o i k kk = some r) :
  (∃ e : Nat,k e = some r ∧ ∀ n,fT CF1 (n + 8) 245 [.p m 0,.i .i64 o,.i .i64 i] h = some (.t [.i .i64 (Int.ofNat 0),.i .i64 (Int.ofNat e)],h)) ∨
  (∃ hd a : Nat,kk hd a = some r ∧ ∀ n,fT CF1 (n + 8) 245 [.p m 0,.i .i64 o,.i .i64 i] h = some (.t [.i .i64 (M.t.get a),.i .i64 (Int.ofNat 0)],h)):=by
 rcases bKa H hf with ⟨e,he,h1,h2⟩ | ⟨hd,a,h0,h1,h2,h3,h4,h5⟩
 ·refine .inl ⟨e,h1,fun n => ?_⟩
  rw [cI 245 rfl,cRr]
  simp only [t73,g0,g1,g2,h2,aI,nJ,nL,lL,cQs he,bF]
 ·refine .inr ⟨hd,a,h4,fun n => ?_⟩
  rw [cI 245 rfl,cRr]
  have e0 : (Int.ofNat 0 != Int.ofNat 0) = false:=rfl
  simp only [t73,g0,g1,g2,h5,aI,nJ,nL,lL,e0,bW,iF,eM,H.l0,H.ix h1,H.ld h1]
end
theorem fA {args : List DV} {h : Hp} {k : MemV → List DV → aH} {r : DV × Hp} (hr : rV args h k = some r) :
  ∃ m rest M,args = .p m 0 :: rest ∧ sT m h = some M ∧ k M rest = some r:=by
 unfold rV at hr
 split at hr <;> (try (cases hr; done))
 rename_i m rest
 split at hr <;> (try (cases hr; done))
 rename_i M hM
 exact ⟨m,rest,M,rfl,hM,hr⟩
theorem dCl (n : Nat) (args : List DV) : SimP false (isF args) (fT CF1 (n + 12) 196 args):=fun h h' S v k e=>by
 obtain ⟨m,rest,M,rfl,hM,e⟩:=fA e
 split at e <;> (try (cases e; done))
 simp only [aU,bG] at e
 obtain ⟨rfl,rfl⟩:=e
 exact ⟨h',cIq (fS hM S) (n + 8) _,S⟩
theorem cEs (n : Nat) (args : List DV) : SimP false (bRa args) (fT CF1 (n + 12) 132 args):=fun h h' S v k e=>by
 obtain ⟨m,rest,M,rfl,hM,e⟩:=fA e
 split at e <;> (try (cases e; done))
 simp only [aU,bG] at e
 obtain ⟨rfl,rfl⟩:=e
 exact ⟨h',dNc (fS hM S) (n + 7) _,S⟩
theorem bJy (n : Nat) (args : List DV) : SimP false (aPd args) (fT CF1 (n + 12) 108 args):=fun h h' S v k e=>by
 obtain ⟨m,rest,M,rfl,hM,e⟩:=fA e
 split at e <;> (try (cases e; done))
 simp only [aU,bG] at e
 obtain ⟨rfl,rfl⟩:=e
 exact ⟨h',dRr (fS hM S) (n + 11),S⟩
theorem bJo (n : Nat) (args : List DV) : SimP false (aXd args) (fT CF1 (n + 12) 126 args):=fun h h' S v k e=>by
 obtain ⟨m,rest,M,rfl,hM,e⟩:=fA e
 split at e <;> (try (cases e; done))
 simp only [aU,bG] at e
 obtain ⟨rfl,rfl⟩:=e
 exact ⟨h',dOe (fS hM S) (n + 11),S⟩
theorem bGy (n : Nat) (args : List DV) : SimP false (uV args) (fT CF1 (n + 12) 243 args):=fun h h' S v k e=>by
 obtain ⟨m,rest,M,rfl,hM,e⟩:=fA e
 split at e <;> (try (cases e; done))
 obtain ⟨h1,hd,h2,h3,e⟩:=wH e
 simp only [aU,bG] at e
 obtain ⟨rfl,rfl⟩:=e
 exact ⟨h',dUa (fS hM S) (n + 6) _ h1,S⟩
theorem aTs (n : Nat) (args : List DV) : SimP false (wK args) (fT CF1 (n + 12) 136 args):=fun h h' S v k e=>by
 obtain ⟨m,rest,M,rfl,hM,e⟩:=fA e
 split at e <;> (try (cases e; done))
 obtain ⟨h1,hd,h2,h3,e⟩:=wH e
 simp only [aU,bG] at e
 obtain ⟨rfl,rfl⟩:=e
 refine ⟨h', ?_,S⟩
 rw [dIr (fS hM S) (n + 6) _ (by omega),h2]
 rfl
theorem aTt (n : Nat) (args : List DV) : SimP false (sR args) (fT CF1 (n + 12) 201 args):=fun h h' S v k e=>by
 obtain ⟨m,rest,M,rfl,hM,e⟩:=fA e
 split at e <;> (try (cases e; done))
 obtain ⟨h1,hd,h2,h3,e⟩:=wH e
 simp only [aU,bG] at e
 obtain ⟨rfl,rfl⟩:=e
 refine ⟨h', ?_,S⟩
 rw [dKa (fS hM S) (n + 6) _ (by omega),h2]
 rfl
theorem cHz (n : Nat) (args : List DV) : SimP false (bOi args) (fT CF1 (n + 12) 245 args):=fun h h' S v k e=>by
 obtain ⟨m,rest,M,rfl,hM,e⟩:=fA e
 split at e <;> (try (cases e; done))
 rename_i o i
 rcases dTy (fS hM S) e with ⟨er,e1,e2⟩ | ⟨hd,a,e1,e2⟩
 ·simp only [err,aU,bG] at e1
  obtain ⟨rfl,rfl⟩:=e1
  exact ⟨h',e2 (n + 4),S⟩
 ·simp only [aU,bG] at e1
  obtain ⟨rfl,rfl⟩:=e1
  exact ⟨h',e2 (n + 4),S⟩
theorem aMc (n : Nat) (args : List DV) : SimP false (kI args) (fT CF1 (n + 12) 200 args):=fun h h' S v k e=>by
 unfold kI at e
 split at e <;> (try (cases e; done))
 simp only [aU,bG] at e
 obtain ⟨rfl,rfl⟩:=e
 exact ⟨h',dAy (n + 10) _ h',S⟩
theorem bEt (n : Nat) (args : List DV) : SimP false (tS args) (fT CF1 (n + 12) 216 args):=fun h h' S v k e=>by
 unfold tS at e
 split at e <;> (try (cases e; done))
 rename_i w
 have hc:=dXf (n + 9) w h'
 cases hs : iT w with
 | true =>
  rw [hs] at e hc
  simp only [cond_true,aU,bG] at e
  obtain ⟨rfl,rfl⟩:=e
  exact ⟨h',by rw [hc,bEj]; rfl,S⟩
 | false =>
  rw [hs] at e hc
  simp only [cond_false,aU,bG] at e
  obtain ⟨rfl,rfl⟩:=e
  exact ⟨h',by rw [hc]; rfl,S⟩
theorem bGn (n : Nat) (args : List DV) : SimP false (rD args) (fT CF1 (n + 12) 134 args):=fun h h' S v k e=>by
 unfold rD at e
 split at e <;> (try (cases e; done))
 ·rename_i w
  have hc:=dIb (n + 10) (Int.ofNat w) h'
  rw [aBx] at e
  by_cases hw : w < 1073741824
  ·simp only [hw,decide_true,cond_true,aU,bG] at e
   obtain ⟨rfl,rfl⟩:=e
   rw [if_pos (by simp only [Int.ofNat_eq_natCast]; omega)] at hc
   refine ⟨h', ?_,S⟩
   rw [hc]
   have : 2 * Int.ofNat w + 1 = Int.ofNat (Nat.succ (Nat.mul w 2)):=by
    have : Nat.mul w 2 = w * 2:=rfl
    rw [this]
    simp only [Int.ofNat_eq_natCast]; omega
   rw [this]
  ·simp only [hw,decide_false,cond_false,aU,bG] at e
   obtain ⟨rfl,rfl⟩:=e
   rw [if_neg (by simp only [Int.ofNat_eq_natCast]; omega)] at hc
   exact ⟨h',by rw [hc]; rfl,S⟩
 ·rename_i w
  have hc:=dIb (n + 10) (Int.negSucc w) h'
  rw [aBx] at e
  by_cases hw : w < 1073741824
  ·simp only [hw,decide_true,cond_true,aU,bG] at e
   obtain ⟨rfl,rfl⟩:=e
   rw [if_pos (by omega)] at hc
   refine ⟨h', ?_,S⟩
   rw [hc]
   have : 2 * Int.negSucc w + 1 = Int.negSucc (Nat.mul w 2):=by
    have : Nat.mul w 2 = w * 2:=rfl
    rw [this]; omega
   rw [this]
  ·simp only [hw,decide_false,cond_false,aU,bG] at e
   obtain ⟨rfl,rfl⟩:=e
   rw [if_neg (by omega)] at hc
   exact ⟨h',by rw [hc]; rfl,S⟩
end Go.Dd

namespace Go.Dd
def Oth (m wb pb : Pos) (h h1 : Hp) : Prop:=h1.next = h.next ∧ ∀ b,b ≠ m → b ≠ wb → b ≠ pb → h1.bl.get b = h.bl.get b
theorem Oth.refl (m wb pb : Pos) (h : Hp) : Oth m wb pb h h:=⟨rfl,fun _ _ _ _=>rfl⟩
theorem Oth.trans {m wb pb : Pos} {a b c : Hp} (h : Oth m wb pb a b) (k : Oth m wb pb b c) : Oth m wb pb a c:=⟨k.1.trans h.1,fun x h1 h2 h3=>(k.2 x h1 h2 h3).trans (h.2 x h1 h2 h3)⟩
section
variable {m : Pos} {M : MemV} {h : Hp}
def bWm (M : MemV) : Ob:=.row .ex [.l M.wb 0 M.n M.n,.i .i64 (Int.ofNat M.fin),.i .i64 (Int.ofNat M.made),.m M.pb]
theorem ML.setM (H : ML m M h) (M' : MemV) (e1 : M'.wb = M.wb) (e2 : M'.pb = M.pb) (e3 : M'.n = M.n) (e4 : M'.t = M.t) (e5 : M'.pl = M.pl) (h1 : M'.fin ≤ M.n) (h2 : M'.made < 2000000) :
  ML m M' ⟨h.next,Tr.set (bWm M') m h.bl⟩ ∧ Oth m M.wb M.pb h ⟨h.next,Tr.set (bWm M') m h.bl⟩:=by
 refine ⟨⟨by rw [dXv]; rfl, ?_, ?_,by rw [e3]; exact H.n_lt,by rw [e3]; exact h1,h2,by rw [e1]; exact H.d1,by rw [e2]; exact H.d2,by rw [e1,e2]; exact H.d3⟩,rfl,fun b h1 _ _=>dXu _ _ _ _ h1⟩
 ·rw [e1,e3,e4,dXu _ _ _ _ (Ne.symm H.d1)]; exact H.words
 ·rw [e2,e5,dXu _ _ _ _ (Ne.symm H.d2)]; exact H.places
theorem ML.st1 (H : ML m M h) {x : Nat} (hx : x ≤ M.n) : ∃ h1,aG 1 (.p m (0 + 1)) (.i .i64 (Int.ofNat x)) h = some (aS,h1) ∧ ML m { M with fin:=x } h1 ∧ Oth m M.wb M.pb h h1:=by
 obtain ⟨a,b⟩:=H.setM { M with fin:=x } rfl rfl rfl rfl rfl hx H.made_lt
 exact ⟨_,by simp [aG,dD,cE,H.row,Kind.writable,fR,jS,DV.one,bWm],a,b⟩
theorem ML.st2 (H : ML m M h) {x : Nat} (hx : x < 2000000) : ∃ h1,aG 1 (.p m (0 + 2)) (.i .i64 (Int.ofNat x)) h = some (aS,h1) ∧ ML m { M with made:=x } h1 ∧ Oth m M.wb M.pb h h1:=by
 obtain ⟨a,b⟩:=H.setM { M with made:=x } rfl rfl rfl rfl rfl H.fin_le hx
 exact ⟨_,by simp [aG,dD,cE,H.row,Kind.writable,fR,jS,DV.one,bWm],a,b⟩
theorem ML.setW (H : ML m M h) (t : WT) : ML m { M with t:=t } ⟨h.next,Tr.set (.row .ex (iO M.n t)) M.wb h.bl⟩ ∧ Oth m M.wb M.pb h ⟨h.next,Tr.set (.row .ex (iO M.n t)) M.wb h.bl⟩:=by
 refine ⟨⟨?_,by rw [dXv], ?_,H.n_lt,H.fin_le,H.made_lt,H.d1,H.d2,H.d3⟩,rfl,fun b _ h1 _=>dXu _ _ _ _ h1⟩
 ·rw [dXu _ _ _ _ H.d1]; exact H.row
 ·rw [dXu _ _ _ _ (Ne.symm H.d3)]; exact H.places
theorem ML.put' (H : ML m M h) {a : Nat} (ha : a < M.n) (w : Int) : ∃ h1,aG 1 (.p M.wb a) (.i .i64 w) h = some (aS,h1) ∧ ML m { M with t:=M.t.set a w } h1 ∧ Oth m M.wb M.pb h h1 :=
 ⟨_,H.put ha w,(H.setW _).1,(H.setW _).2⟩
theorem bHk {a : Int} {es : List (DV × DV)} : ∀ (b : Int) {r r' : Option DV},fQ (.int .i64) (.i .i64 a) es = some r → fQ (.int .i64) (.i .i64 b) es = some r' →
  fQ (.int .i64) (.i .i64 b) (rT (.int .i64) (.i .i64 a) (.b true) es) = some (if b = a then some (.b true) else r'):=by
 induction es with
 | nil =>
  intro b r r' h1 h2
  simp only [fQ,aU] at h2
  subst h2
  simp only [rT,fQ,uR,if_true]
  by_cases e : b = a
  ·simp [e]
  ·have : (b == a) = false:=by simpa using e
   simp [e,this]
 | cons e es ih =>
  intro b r r' h1 h2
  simp only [fQ] at h1 h2
  have hk : ∃ c,e.1 = .i .i64 c:=by
   obtain ⟨x,y⟩:=e
   cases x <;> simp [uR] at h1
   rename_i k c
   cases k <;> simp at h1
   exact ⟨c,rfl⟩
  obtain ⟨c,hc⟩:=hk
  simp only [hc,uR,if_true] at h1 h2
  simp only [rT,hc,uR,if_true]
  by_cases hac : a = c
  ·subst hac
   simp only [beq_self_eq_true] at h1 ⊢
   simp only [fQ,uR,if_true]
   by_cases hba : b = a
   ·subst hba; simp
   ·have : (b == a) = false:=by simpa using hba
    simp only [this] at h2 ⊢
    rw [h2]; simp [hba]
  ·have hac' : (a == c) = false:=by simpa using hac
   simp only [hac'] at h1 ⊢
   simp only [fQ,hc,uR,if_true]
   by_cases hbc : b = c
   ·subst hbc
    simp only [beq_self_eq_true,aU] at h2 ⊢
    rw [if_neg (fun e=>hac e.symm),h2]
   ·have hbc' : (b == c) = false:=by simpa using hbc
    simp only [hbc'] at h2 ⊢
    exact ih b h1 h2
theorem ML.place (H : ML m M h) {a : Nat} (ha : a < 16000000) : ∃ h1,dS (.int .i64) (.m M.pb) (.i .i64 (a : Int)) (.b true) h = some (aS,h1) ∧ ML m { M with pl:=M.pl.set a 1 } h1 ∧ Oth m M.wb M.pb h h1:=by
 obtain ⟨es,h1,h2⟩:=H.places
 refine ⟨⟨h.next,Tr.set (.mp (rT (.int .i64) (.i .i64 (a : Int)) (.b true) es)) M.pb h.bl⟩,by simp [dS,h1,h2 a],⟨?_, ?_,⟨_,by rw [dXv],fun b => ?_⟩,H.n_lt,H.fin_le,H.made_lt,H.d1,H.d2,H.d3⟩,rfl,fun b _ _ h1=>dXu _ _ _ _ h1⟩
 ·rw [dXu _ _ _ _ H.d2]; exact H.row
 ·rw [dXu _ _ _ _ H.d3]; exact H.words
 ·rw [bHk b (h2 a) (h2 b)]
  congr 1
  by_cases e : b = (a : Int)
  ·subst e
   simp [WT.get_set _ _ _ _ ha]
  ·rw [if_neg e]
   by_cases hb : 0 ≤ b
   ·have : b.toNat ≠ a:=by omega
    rw [WT.get_set _ _ _ _ ha,if_neg this]
   ·simp [hb]
theorem cNc {h' h1 : Hp} {M' : MemV} (S : Sim false h h') (hM : sT m h = some M) (H1 : ML m M' h1) (e1 : M'.wb = M.wb) (e2 : M'.pb = M.pb) (e3 : M'.n = M.n) (O : Oth m M.wb M.pb h' h1) :
  Sim false ⟨h.next,Tr.set (bWm M') m (Tr.set (.mi M'.pl) M.pb (Tr.set (.big M.n M'.t) M.wb h.bl))⟩ h1:=by
 have H:=fS hM S
 refine ⟨O.1.trans S.next,fun b o hb => ?_⟩
 by_cases b1 : b = m
 ·subst b1
  simp only [dXv,aU] at hb
  subst hb
  exact ⟨_,H1.row,rfl⟩
 ·simp only [dXu _ _ _ _ b1] at hb
  by_cases b2 : b = M.pb
  ·subst b2
   simp only [dXv,aU] at hb
   subst hb
   obtain ⟨es,p1,p2⟩:=H1.places
   rw [e2] at p1
   exact ⟨_,p1,by simp only [wE]; exact ⟨es,rfl,p2⟩⟩
  ·simp only [dXu _ _ _ _ b2] at hb
   by_cases b3 : b = M.wb
   ·subst b3
    simp only [dXv,aU] at hb
    subst hb
    have:=H1.words
    rw [e1,e3] at this
    exact ⟨_,this,by simp [wE]⟩
   ·simp only [dXu _ _ _ _ b3] at hb
    rw [O.2 b b1 b3 b2]
    exact S.get b o hb
theorem bId {h' h1 : Hp} {t : WT} (S : Sim false h h') (hM : sT m h = some M) (H1 : ML m { M with t:=t } h1) (O : Oth m M.wb M.pb h' h1) (hm : h1.bl.get m = h'.bl.get m) (hp : h1.bl.get M.pb = h'.bl.get M.pb) :
  Sim false ⟨h.next,Tr.set (.big M.n t) M.wb h.bl⟩ h1:=by
 refine ⟨O.1.trans S.next,fun b o hb => ?_⟩
 by_cases b3 : b = M.wb
 ·subst b3
  simp only [dXv,aU] at hb
  subst hb
  exact ⟨_,H1.words,by simp [wE]⟩
 ·simp only [dXu _ _ _ _ b3] at hb
  by_cases b1 : b = m
  ·subst b1; rw [hm]; exact S.get _ o hb
  ·by_cases b2 : b = M.pb
   ·subst b2; rw [hp]; exact S.get _ o hb
   ·rw [O.2 b b1 b3 b2]
    exact S.get b o hb
end
theorem aOr {m : Pos} {M : MemV} {h h' : Hp} (S : Sim false h h') (hM : sT m h = some M) {a : Nat} (ha : a < M.n) (w : Int) {v : DV} {k : Hp} (hp : sM M a w h = some (v,k)) :
  v = .i .i64 (Int.ofNat 0) ∧ ∃ h1,aG 1 (.p M.wb a) (.i .i64 w) h' = some (aS,h1) ∧ Sim false k h1:=by
 have H:=fS hM S
 simp only [sM,aU,bG] at hp
 obtain ⟨rfl,rfl⟩:=hp
 refine ⟨rfl,_,H.put ha w,bId S hM (H.setW _).1 (H.setW _).2 ?_ ?_⟩
 ·exact dXu _ _ _ _ H.d1
 ·exact dXu _ _ _ _ (Ne.symm H.d3)
theorem cFk (n : Nat) (args : List DV) : SimP false (aMi args) (fT CF1 (n + 12) 84 args):=fun h h' S v k e=>by
 obtain ⟨m,rest,M,rfl,hM,e⟩:=fA e
 split at e <;> (try (cases e; done))
 rename_i o i w _
 have H:=fS hM S
 rw [cI 84 rfl,dOz]
 simp only [t47,bAg,g0,g1,g2,g3]
 rcases bKa H e with ⟨er,he,e1,e2⟩ | ⟨hd,a,h0,h1,h2,h3,e1,e2⟩
 ·simp only [aU,bG] at e1
  obtain ⟨rfl,rfl⟩:=e1
  refine ⟨h', ?_,S⟩
  simp only [e2 (n + 4),aI,nJ,nL,aOn,lL,cQs he,bF]
 ·have e0 : (Int.ofNat 0 != Int.ofNat 0) = false:=rfl
  have h51:=dIr H (n + 5) o (show gO o M.pl < M.n by omega)
  rw [h3] at h51
  simp only [e2 (n + 4),aI,nJ,nL,aOn,lL,e0,bW,bAa,h51,fB]
  have hmod : Int.ofNat hd % 4 = Int.ofNat (Nat.mod hd 4):=rfl
  have h4 : vN (fT CF1 (n + 11)) (n + 11) (.p m 0) (.i .i64 w) (.i .i64 (a : Int)) h' = bnd (aG 1 (.p M.wb a) (.i .i64 w) h') fun _ h5=>some (.i .i64 (Int.ofNat 0),h5):=by
   simp only [vN,iF,eM,aI,H.l0,H.ix h1]
  have hput : sM M a w h = some (v,k) → ∃ h1,vN (fT CF1 (n + 11)) (n + 11) (.p m 0) (.i .i64 w) (.i .i64 (a : Int)) h' = some (v,h1) ∧ Sim false k h1:=by
   intro hp
   obtain ⟨rfl,h1',p1,p2⟩:=aOr S hM h1 w hp
   exact ⟨h1',by rw [h4,p1]; rfl,p2⟩
  rw [hmod]
  split at e1
  ·rename_i hz
   rw [hz]
   have : (Int.ofNat 0 == Int.ofNat 0) = true:=rfl
   simp only [this,bF,dNc H,aI,vE]
   cases hmay : aLo w M.pl with
   | true =>
    rw [hmay] at e1
    simp only [cond_true] at e1
    simp only [Bool.not_true,bW]
    exact hput e1
   | false =>
    rw [hmay] at e1
    simp only [cond_false,aU,bG] at e1
    obtain ⟨rfl,rfl⟩:=e1
    exact ⟨h',rfl,S⟩
  ·rename_i hz
   rw [hz]
   have q0 : (Int.ofNat 2 == Int.ofNat 0) = false:=rfl
   have q2 : (Int.ofNat 2 == Int.ofNat 2) = true:=rfl
   simp only [q0,bW,aI,q2,bF,cO]
   cases w with
   | negSucc c =>
    simp only [aU,bG] at e1
    obtain ⟨rfl,rfl⟩:=e1
    have hlt : decide (Int.negSucc c < Int.ofNat 0) = true:=decide_eq_true (Int.negSucc_lt_zero c)
    simp only [hlt,dN,aI,bN,bF]
    exact ⟨h',rfl,S⟩
   | ofNat c =>
    dsimp only at e1
    have hlt : decide (Int.ofNat c < Int.ofNat 0) = false:=by simp
    simp only [hlt,eU,aI,bM,fP]
    rw [aJz] at e1
    by_cases hc : c ≤ 255
    ·simp only [hc,decide_true,cond_true] at e1
     have hgt : decide (Int.ofNat c > Int.ofNat 255) = false:=by
      simp only [decide_eq_false_iff_not,Int.ofNat_eq_natCast]; omega
     simp only [hgt,bW]
     exact hput e1
    ·simp only [hc,decide_false,cond_false,aU,bG] at e1
     obtain ⟨rfl,rfl⟩:=e1
     have hgt : decide (Int.ofNat c > Int.ofNat 255) = true:=by
      simp only [decide_eq_true_eq,Int.ofNat_eq_natCast]; omega
     simp only [hgt,bF]
     exact ⟨h',rfl,S⟩
  ·rename_i hz0 hz2
   have q0 : (Int.ofNat (Nat.mod hd 4) == Int.ofNat 0) = false:=by
    simp only [beq_eq_false_iff_ne,ne_eq,Int.ofNat_eq_natCast]
    intro e; exact hz0 (by exact_mod_cast e)
   have q2 : (Int.ofNat (Nat.mod hd 4) == Int.ofNat 2) = false:=by
    simp only [beq_eq_false_iff_ne,ne_eq,Int.ofNat_eq_natCast]
    intro e; exact hz2 (by exact_mod_cast e)
   simp only [q0,bW,aI,q2,bW]
   exact hput e1
theorem aHp (n : Nat) (args : List DV) : SimP false (lV args) (fT CF1 (n + 12) 80 args):=fun h h' S v k e=>by
 obtain ⟨m,rest,M,rfl,hM,e⟩:=fA e
 split at e <;> (try (cases e; done))
 rename_i o c _
 have H:=fS hM S
 rw [cI 80 rfl,dLo]
 simp only [t44,g0,g1,g2,vL H,aI,fB]
 rw [lY] at e
 by_cases h0 : gO o M.pl = 0
 ·simp only [h0,decide_true,Bool.true_or,cond_true,aU,bG] at e
  obtain ⟨rfl,rfl⟩:=e
  have : ((0 : Nat) : Int) = Int.ofNat 0:=rfl
  have q : (((gO o M.pl : Nat) : Int) == Int.ofNat 0) = true:=by rw [h0]; rfl
  simp only [q,dN,aI,bN,bF]
  exact ⟨h',rfl,S⟩
 ·have q : (((gO o M.pl : Nat) : Int) == Int.ofNat 0) = false:=by simpa using h0
  simp only [q,eU,aI,bM,dPd H,vE]
  cases hc : aCg c M.pl with
  | false =>
   rw [hc] at e
   simp only [h0,decide_false,Bool.not_false,Bool.false_or,cond_true,aU,bG] at e
   obtain ⟨rfl,rfl⟩:=e
   simp only [Bool.not_false,bF]
   exact ⟨h',rfl,S⟩
  | true =>
   rw [hc] at e
   simp only [h0,decide_false,Bool.not_true,Bool.false_or,cond_false] at e
   rw [aBx] at e
   by_cases ha : Nat.add (gO o M.pl) 1 < M.n
   ·simp only [ha,decide_true,cond_true] at e
    have ha' : gO o M.pl + 1 < M.n:=ha
    have hn:=H.n_lt
    simp only [Bool.not_true,bW,iF,eM,aI,H.l0]
    rw [aBg _ _ _ (by simp only [Int.ofNat_eq_natCast]; omega)]
    have ee : (gO o M.pl : Int) + Int.ofNat 1 = ((gO o M.pl + 1 : Nat) : Int):=by simp
    obtain ⟨rfl,h1',p1,p2⟩:=aOr S hM ha' c e
    simp only [aI,ee,H.ix ha',p1]
    exact ⟨h1',rfl,p2⟩
   ·simp only [ha,decide_false,cond_false] at e
    cases e
end Go.Dd

namespace Go.Dd
theorem bZ (a b : Nat) (h : Hp) (hr : a + b < 4611686018427387904) : aD .add (.i .i64 (Int.ofNat a)) (.i .i64 (Int.ofNat b)) h = some (.i .i64 (Int.ofNat (a + b)),h):=by
 rw [aBg _ _ _ (by simp only [Int.ofNat_eq_natCast]; omega)]
 rfl
theorem dAw (c f : Nat) (h : Hp) (hc : c ≤ 256) (hf : f ≤ 2) : aD .or (.i .i64 (4 * Int.ofNat c)) (.i .i64 (Int.ofNat f)) h = some (.i .i64 (Int.ofNat (c * 4 + f)),h):=by
 have hb : fF .or .i64 (4 * Int.ofNat c) (Int.ofNat f) = some (.i .i64 (Int.ofNat (c * 4 + f))):=by
  have:=cXx c 2 f (by omega) (by omega)
  have e1 : ((c * 2 ^ 2 : Nat) : Int) = 4 * Int.ofNat c:=by simp only [Int.ofNat_eq_natCast]; omega
  have e2 : ((c * 2 ^ 2 + f : Nat) : Int) = Int.ofNat (c * 4 + f):=rfl
  rw [e1,e2] at this
  rw [← this]; rfl
 simp only [aD,if_true,hb]
theorem aDv (t : WT) : ∀ (c a j : Nat),a + c < 16000000 → (pU t c a).get j = if a ≤ j ∧ j < a + c then 0 else t.get j
 | 0,a,j,h=>by rw [if_neg (by omega)]; rfl
 | c + 1,a,j,h=>by
  have e : pU t (c + 1) a = (pU t c (a + 1)).set a (.ofNat 0):=rfl
  rw [e,WT.get_set _ _ _ _ (by omega),aDv t c (a + 1) j (by omega)]
  by_cases h1 : j = a
  ·rw [if_pos h1,if_pos (by omega)]; rfl
  ·rw [if_neg h1]
   by_cases h2 : a + 1 ≤ j ∧ j < a + 1 + c
   ·rw [if_pos h2,if_pos (by omega)]
   ·rw [if_neg h2,if_neg (by omega)]
theorem bBv : ∀ (l vs : List DV),(∀ v ∈ l,v.one = true) → (∀ v ∈ vs,v.one = true) → vs.length ≤ l.length → ∃ l',jS l vs = some l'
 | l,[],_,_,_=>⟨l,by cases l <;> rfl⟩
 | [],v :: vs,_,_,h=>by simp at h
 | x :: l,v :: vs,h1,h2,h3=>by
  obtain ⟨l',e⟩:=bBv l vs (fun u hu=>h1 u (by simp [hu])) (fun u hu=>h2 u (by simp [hu])) (by simpa using h3)
  exact ⟨v :: l',by simp [jS,h1 x (by simp),h2 v (by simp),e]⟩
theorem aNp : ∀ (o : Nat) (l vs : List DV),(∀ v ∈ l,v.one = true) → (∀ v ∈ vs,v.one = true) → o + vs.length ≤ l.length → ∃ l',fR o l vs = some l'
 | 0,l,vs,h1,h2,h3=>by
  obtain ⟨l',e⟩:=bBv l vs h1 h2 (by omega)
  exact ⟨l',e⟩
 | o + 1,[],vs,h1,h2,h3=>by simp at h3
 | o + 1,x :: l,vs,h1,h2,h3=>by
  obtain ⟨l',e⟩:=aNp o l vs (fun u hu=>h1 u (by simp [hu])) h2 (by simp at h3; omega)
  exact ⟨x :: l',by simp [fR,e]⟩
section
variable {m : Pos} {M : MemV} {h : Hp}
theorem bYk {n : Nat} {t : WT} : ∀ v ∈ iO n t,v.one = true:=by
 intro v hv
 simp only [iO,List.mem_map] at hv
 obtain ⟨i,_,rfl⟩:=hv
 rfl
theorem ML.ix' (H : ML m M h) {a : Nat} (ha : a < M.n) : aE 1 (.l M.wb 0 M.n M.n) (.i .i64 (Int.ofNat a)) h = some (.p M.wb a,h):=H.ix ha
theorem aAz (c : Nat) : (List.replicate c [DV.i .i64 (Int.ofNat 0)]).flatten = List.replicate c (.i .i64 (Int.ofNat 0)):=by
 induction c with
 | zero=>rfl
 | succ c ih=>simp [List.replicate_succ,ih]
theorem ML.clear (H : ML m M h) {a c : Nat} (hac : a + c ≤ M.n) : ∃ v h1,dF 1 (.l M.wb 0 M.n M.n) (some (.i .i64 (Int.ofNat a))) (some (.i .i64 (Int.ofNat (a + c)))) h = some (v,h) ∧
  kG [.i .i64 (Int.ofNat 0)] v h = some (.t [],h1) ∧ ML m { M with t:=pU M.t c a } h1 ∧ Oth m M.wb M.pb h h1:=by
 have hn:=H.n_lt
 have e1 : fL (.i .i64 (Int.ofNat (a + c))) M.n = some (a + c):=by
  have : (0 : Int) ≤ Int.ofNat (a + c) ∧ Int.ofNat (a + c) ≤ (M.n : Int):=by simp only [Int.ofNat_eq_natCast]; omega
  simp only [fL,this,and_self,if_true]
  rfl
 have e2 : fL (.i .i64 (Int.ofNat a)) (a + c) = some a:=by
  have : (0 : Int) ≤ Int.ofNat a ∧ Int.ofNat a ≤ ((a + c : Nat) : Int):=by simp only [Int.ofNat_eq_natCast]; omega
  simp only [fL,this,and_self,if_true]
  rfl
 refine ⟨.l M.wb (if M.n = a then 0 else 0 + a * 1) (a + c - a) (M.n - a), ?_⟩
 have hs : dF 1 (.l M.wb 0 M.n M.n) (some (.i .i64 (Int.ofNat a))) (some (.i .i64 (Int.ofNat (a + c)))) h = some (.l M.wb (if M.n = a then 0 else 0 + a * 1) (a + c - a) (M.n - a),h):=by
  simp only [dF,hiD,loD,e1,e2,H.words]
 by_cases hc : c = 0
 ·subst hc
  refine ⟨h,hs,by simp [kG],H,Oth.refl _ _ _ _⟩
 ·obtain ⟨l',hl'⟩:=aNp a (iO M.n M.t) (List.replicate c (.i .i64 (Int.ofNat 0))) bYk (fun v hv=>by rw [List.eq_of_mem_replicate hv]; rfl) (by simp [iO]; omega)
  obtain ⟨p1,p2,p3,p4,p5⟩:=kE _ _ _ _ hl'
  have hll : l' = iO M.n (pU M.t c a):=by
   apply List.ext_getElem?
   intro j
   by_cases hj : j < M.n
   ·rw [lR hj,aDv _ _ _ _ (by omega)]
    by_cases hin : a ≤ j ∧ j < a + c
    ·rw [if_pos hin]
     obtain ⟨q1,_⟩:=p4 (j - a) (.i .i64 (Int.ofNat 0)) (by rw [List.getElem?_replicate,if_pos (by omega)])
     rw [show a + (j - a) = j from by omega] at q1
     exact q1
    ·rw [if_neg hin,p5 j (by rw [List.length_replicate]; omega),lR hj]
   ·rw [List.getElem?_eq_none (by rw [p1]; simp [iO]; omega),List.getElem?_eq_none (by simp [iO]; omega)]
  refine ⟨⟨h.next,Tr.set (.row .ex (iO M.n (pU M.t c a))) M.wb h.bl⟩,hs, ?_,(H.setW _).1,(H.setW _).2⟩
  have hna : M.n ≠ a:=by omega
  rw [if_neg hna]
  simp only [kG,show a + c - a = c from by omega,hc,if_false,aAz,cE,H.words,Kind.writable,if_true,Nat.zero_add,Nat.mul_one,hl',hll]
end
def bEb (rec : FuncId → List DV → Hp → aH) (x0 x3 v26 : DV) (h0 : Hp) : aH :=
 bnd (aY x0 h0) fun v64 h64 =>
 bnd (aB 1 v64 h64) fun v65 h65 =>
 bnd (aA v65 h65) fun v66 h66 =>
 bnd (aD .add x3 (.i .i64 (Int.ofNat 3)) h66) fun v67 h67 =>
 bnd (aD .add v66 v67 h67) fun v68 h68 =>
 bnd (aY x0 h68) fun v69 h69 =>
 bnd (aB 1 v69 h69) fun v70 h70 =>
 bnd (aG 1 v70 v68 h70) fun _ h71 =>
 bnd (aY x0 h71) fun v72 h72 =>
 bnd (aB 3 v72 h72) fun v73 h73 =>
 bnd (aA v73 h73) fun v74 h74 =>
 bnd (dS (.int .i64) v74 v26 (.b true) h74) fun _ h75 =>
 bnd (rec 127 [v26] h75) fun v76 h76 =>
 bnd (aC 0 v76 h76) fun v77 h77 =>
 bnd (aC 1 v76 h77) fun v78 h78 =>
 some (.t [v77,(.i .i64 (Int.ofNat 0))],h78)
def bDw (rec : FuncId → List DV → Hp → aH) (x0 x3 v26 : DV) (h0 : Hp) : aH :=
 bnd (aY x0 h0) fun v56 h56 =>
 bnd (aB 0 v56 h56) fun v57 h57 =>
 bnd (aA v57 h57) fun v58 h58 =>
 bnd (aD .add v26 (.i .i64 (Int.ofNat 3)) h58) fun v59 h59 =>
 bnd (aD .add v26 (.i .i64 (Int.ofNat 3)) h59) fun v60 h60 =>
 bnd (aD .add v60 x3 h60) fun v61 h61 =>
 bnd (dF 1 v58 (some v59) (some v61) h61) fun v62 h62 =>
 bnd (kG [(.i .i64 (Int.ofNat 0))] v62 h62) fun _ h63 =>
 bEb rec x0 x3 v26 h63
def aZw (rec : FuncId → List DV → Hp → aH) (x0 x1 x2 x3 v26 : DV) (h0 : Hp) : aH :=
 bnd (aY x0 h0) fun v34 h34 =>
 bnd (aB 0 v34 h34) fun v35 h35 =>
 bnd (aA v35 h35) fun v36 h36 =>
 bnd (aY x0 h36) fun v37 h37 =>
 bnd (aB 0 v37 h37) fun v38 h38 =>
 bnd (aA v38 h38) fun v39 h39 =>
 bnd (aD .add v26 (.i .i64 (Int.ofNat 1)) h39) fun v40 h40 =>
 bnd (aY x0 h40) fun v41 h41 =>
 bnd (aB 0 v41 h41) fun v42 h42 =>
 bnd (aA v42 h42) fun v43 h43 =>
 bnd (aD .add v26 (.i .i64 (Int.ofNat 2)) h43) fun v44 h44 =>
 bnd (dZ .shl x3 (.i .u64 (Int.ofNat 2)) h44) fun v45 h45 =>
 bnd (aD .or v45 x2 h45) fun v46 h46 =>
 bnd (aY x0 h46) fun v47 h47 =>
 bnd (aB 2 v47 h47) fun v48 h48 =>
 bnd (aA v48 h48) fun v49 h49 =>
 bnd (aE 1 v36 v26 h49) fun v50 h50 =>
 bnd (aG 1 v50 v46 h50) fun v51 h51 =>
 bnd (aE 1 v39 v40 h51) fun v52 h52 =>
 bnd (aG 1 v52 x1 h52) fun v53 h53 =>
 bnd (aE 1 v43 v44 h53) fun v54 h54 =>
 bnd (aG 1 v54 v49 h54) fun v55 h55 =>
 bDw rec x0 x3 v26 h55
def aHo (rec : FuncId → List DV → Hp → aH) (x0 x1 x2 x3 : DV) (h0 : Hp) : aH :=
 bnd (aY x0 h0) fun v24 h24 =>
 bnd (aB 1 v24 h24) fun v25 h25 =>
 bnd (aA v25 h25) fun v26 h26 =>
 bnd (aY x0 h26) fun v27 h27 =>
 bnd (aB 2 v27 h27) fun v28 h28 =>
 bnd (aA v28 h28) fun v29 h29 =>
 bnd (aD .add v29 (.i .i64 (Int.ofNat 1)) h29) fun v30 h30 =>
 bnd (aY x0 h30) fun v31 h31 =>
 bnd (aB 2 v31 h31) fun v32 h32 =>
 bnd (aG 1 v32 v30 h32) fun _ h33 =>
 aZw rec x0 x1 x2 x3 v26 h33
theorem dCj (rec : FuncId → List DV → Hp → aH) (n : Nat) (x0 x1 x2 x3 : DV) (h0 : Hp) : t30 rec n x0 x1 x2 x3 h0 = (
 bnd (rec 125 [x0,x1] h0) fun v1 h1 =>
 bnd (gQ .not v1 h1) fun v2 h2 =>
 bnd (gD v2 false (some (x2,h2)) h2) fun v3 h3 =>
 bnd (gD v2 false (aD .lss v3 (.i .i64 (Int.ofNat 0)) h3) h3) fun v4 h4 =>
 bnd (aP v2 (.b true) v4 h4) fun v5 h5 =>
 bnd (gD v5 false (some (x2,h5)) h5) fun v6 h6 =>
 bnd (gD v5 false (aD .gtr v6 (.i .i64 (Int.ofNat 2)) h6) h6) fun v7 h7 =>
 bnd (aP v5 (.b true) v7 h7) fun v8 h8 =>
 bnd (gD v8 false (some (x3,h8)) h8) fun v9 h9 =>
 bnd (gD v8 false (aD .lss v9 (.i .i64 (Int.ofNat 0)) h9) h9) fun v10 h10 =>
 bnd (aP v8 (.b true) v10 h10) fun v11 h11 =>
 bnd (gD v11 false (some (x3,h11)) h11) fun v12 h12 =>
 bnd (gD v11 false (aD .gtr v12 (.i .i64 (Int.ofNat 256)) h12) h12) fun v13 h13 =>
 bnd (aP v11 (.b true) v13 h13) fun v14 h14 =>
 aT v14 (
 some (.t [(.i .i64 (Int.ofNat 0)),(.i .i64 (Int.ofNat 1))],h14)) (
 bnd (rec 126 [x0] h14) fun v15 h15 =>
 bnd (aD .add x3 (.i .i64 (Int.ofNat 3)) h15) fun v16 h16 =>
 bnd (aD .lss v15 v16 h16) fun v17 h17 =>
 bnd (gD v17 false (some (x0,h17)) h17) fun v18 h18 =>
 bnd (gD v17 false (aY v18 h18) h18) fun v19 h19 =>
 bnd (gD v17 false (aB 2 v19 h19) h19) fun v20 h20 =>
 bnd (gD v17 false (aA v20 h20) h20) fun v21 h21 =>
 bnd (gD v17 false (aD .geq v21 (.i .i64 (Int.ofNat 1099511627776)) h21) h21) fun v22 h22 =>
 bnd (aP v17 (.b true) v22 h22) fun v23 h23 =>
 aT v23 (
 some (.t [(.i .i64 (Int.ofNat 0)),(.i .i64 (Int.ofNat 4))],h23)) (
 aHo rec x0 x1 x2 x3 h23))):=rfl
section
variable {m : Pos} {M : MemV} {h : Hp}
theorem bVb (H : ML m M h) {c : Nat} (hr : M.fin + (c + 3) ≤ M.n) (ha : 3 ≤ M.fin ∧ M.fin ≤ 131072) (n : Nat) :
  ∃ h1,bEb (fT CF1 (n + 11)) (.p m 0) (.i .i64 (Int.ofNat c)) (.i .i64 (Int.ofNat M.fin)) h = some (.t [.i .i64 (Int.ofNat (Nat.mul M.fin 2)),.i .i64 (Int.ofNat 0)],h1) ∧
   ML m { M with fin:=M.fin + (c + 3),pl:=M.pl.set M.fin 1 } h1 ∧ Oth m M.wb M.pb h h1:=by
 have hn:=H.n_lt
 simp only [bEb,iF,eM,aI,H.l1,bZ c 3 _ (show c + 3 < 4611686018427387904 by omega),bZ M.fin (c + 3) _ (show M.fin + (c + 3) < 4611686018427387904 by omega)]
 obtain ⟨h6,s6,H6,O6⟩:=H.st1 (x:=M.fin + (c + 3)) hr
 simp only [s6,aI,H6.l3]
 obtain ⟨h7,s7,H7,O7⟩:=H6.place (a:=M.fin) (by omega)
 rw [show dS (.int .i64) (.m M.pb) (.i .i64 (Int.ofNat M.fin)) (.b true) h6 = some (aS,h7) from s7]
 have hp : 3 ≤ Int.ofNat M.fin ∧ Int.ofNat M.fin ≤ 131072:=by simp only [Int.ofNat_eq_natCast]; omega
 have e2 : 2 * Int.ofNat M.fin = Int.ofNat (Nat.mul M.fin 2):=by
  have : Nat.mul M.fin 2 = M.fin * 2:=rfl
  rw [this]; simp only [Int.ofNat_eq_natCast]; omega
 have h75:=dTo (n + 9) (Int.ofNat M.fin) h7
 rw [if_pos hp,e2] at h75
 simp only [aI,h75,nJ,nL]
 exact ⟨h7,rfl,H7,O6.trans O7⟩
theorem bTa (H : ML m M h) {c : Nat} (hr : M.fin + (c + 3) ≤ M.n) (n : Nat) :
  ∃ h1,bDw (fT CF1 (n + 11)) (.p m 0) (.i .i64 (Int.ofNat c)) (.i .i64 (Int.ofNat M.fin)) h = bEb (fT CF1 (n + 11)) (.p m 0) (.i .i64 (Int.ofNat c)) (.i .i64 (Int.ofNat M.fin)) h1 ∧
   ML m { M with t:=pU M.t c (M.fin + 3) } h1 ∧ Oth m M.wb M.pb h h1:=by
 have hn:=H.n_lt
 obtain ⟨vv,h5,s5,s5',H5,O5⟩:=H.clear (a:=M.fin + 3) (c:=c) (show M.fin + 3 + c ≤ M.n by omega)
 refine ⟨h5, ?_,H5,O5⟩
 simp only [bDw,iF,eM,aI,H.l0,bZ M.fin 3 _ (show M.fin + 3 < 4611686018427387904 by omega),bZ (M.fin + 3) c _ (show M.fin + 3 + c < 4611686018427387904 by omega),s5,s5']
theorem bJt (H : ML m M h) {cls : Int} {c f : Nat} (hcc : c ≤ 256) (hf : f ≤ 2) (hr : M.fin + (c + 3) ≤ M.n) (n : Nat) :
  ∃ h1,aZw (fT CF1 (n + 11)) (.p m 0) (.i .i64 cls) (.i .i64 (Int.ofNat f)) (.i .i64 (Int.ofNat c)) (.i .i64 (Int.ofNat M.fin)) h = bDw (fT CF1 (n + 11)) (.p m 0) (.i .i64 (Int.ofNat c)) (.i .i64 (Int.ofNat M.fin)) h1 ∧
   ML m { M with t:=((M.t.set M.fin (Int.ofNat (c * 4 + f))).set (M.fin + 1) cls).set (M.fin + 2) (Int.ofNat M.made) } h1 ∧ Oth m M.wb M.pb h h1:=by
 have hn:=H.n_lt
 obtain ⟨h2,s2,H2,O2⟩:=H.put' (a:=M.fin) (show M.fin < M.n by omega) (Int.ofNat (c * 4 + f))
 obtain ⟨h3,s3,H3,O3⟩:=H2.put' (a:=M.fin + 1) (show M.fin + 1 < M.n by omega) cls
 obtain ⟨h4,s4,H4,O4⟩:=H3.put' (a:=M.fin + 2) (show M.fin + 2 < M.n by omega) (Int.ofNat M.made)
 have i1:=H.ix' (a:=M.fin) (by omega)
 have i2 : aE 1 (.l M.wb 0 M.n M.n) (.i .i64 (Int.ofNat (M.fin + 1))) h2 = some (.p M.wb (M.fin + 1),h2):=H2.ix' (a:=M.fin + 1) (show M.fin + 1 < M.n by omega)
 have i3 : aE 1 (.l M.wb 0 M.n M.n) (.i .i64 (Int.ofNat (M.fin + 2))) h3 = some (.p M.wb (M.fin + 2),h3):=H3.ix' (a:=M.fin + 2) (show M.fin + 2 < M.n by omega)
 have s3' : aG 1 (.p M.wb (M.fin + 1)) (.i .i64 cls) h2 = some (aS,h3):=s3
 have s4' : aG 1 (.p M.wb (M.fin + 2)) (.i .i64 (Int.ofNat M.made)) h3 = some (aS,h4):=s4
 refine ⟨h4, ?_,H4,(O2.trans O3).trans O4⟩
 simp only [aZw,iF,eM,aI,H.l0,H.l2,bZ M.fin 1 _ (show M.fin + 1 < 4611686018427387904 by omega),bZ M.fin 2 _ (show M.fin + 2 < 4611686018427387904 by omega),
  cOy (Int.ofNat c) _ (show -2305843009213693952 ≤ Int.ofNat c ∧ Int.ofNat c ≤ 2305843009213693951 by simp only [Int.ofNat_eq_natCast]; omega),dAw c f _ hcc hf,i1,s2,i2,s3',i3,s4']
end
theorem bEz {m : Pos} {M : MemV} {h h' : Hp} (S : Sim false h h') (hM : sT m h = some M) {cls : Int} {c f : Nat} (hcc : c ≤ 256) (hf : f ≤ 2) (hr : M.fin + (c + 3) ≤ M.n) (ha : 3 ≤ M.fin ∧ M.fin ≤ 131072) (n : Nat) :
  ∃ h1,aHo (fT CF1 (n + 11)) (.p m 0) (.i .i64 cls) (.i .i64 (Int.ofNat f)) (.i .i64 (Int.ofNat c)) h' = some (.t [.i .i64 (Int.ofNat (Nat.mul M.fin 2)),.i .i64 (Int.ofNat 0)],h1) ∧
   Sim false ⟨h.next,Tr.set (.row .ex [.l M.wb 0 M.n M.n,.i .i64 (Int.ofNat (M.fin + (c + 3))),.i .i64 (Int.ofNat (M.made + 1)),.m M.pb]) m
    (Tr.set (.mi (M.pl.set M.fin 1)) M.pb
     (Tr.set (.big M.n (pU (((M.t.set M.fin (Int.ofNat (c * 4 + f))).set (M.fin + 1) cls).set (M.fin + 2) (Int.ofNat (M.made + 1))) c (M.fin + 3))) M.wb h.bl))⟩ h1:=by
 have H:=fS hM S
 have hmd : M.made < 1000000:=(tI hM).2.2.2.2.2
 obtain ⟨h1,s1,H1,O1⟩:=H.st2 (x:=M.made + 1) (by omega)
 obtain ⟨h2,s2,H2,O2⟩:=bJt H1 (cls:=cls) hcc hf hr n
 obtain ⟨h3,s3,H3,O3⟩:=bTa H2 hr n
 obtain ⟨h4,s4,H4,O4⟩:=bVb H3 hr ha n
 have e : aHo (fT CF1 (n + 11)) (.p m 0) (.i .i64 cls) (.i .i64 (Int.ofNat f)) (.i .i64 (Int.ofNat c)) h' = aZw (fT CF1 (n + 11)) (.p m 0) (.i .i64 cls) (.i .i64 (Int.ofNat f)) (.i .i64 (Int.ofNat c)) (.i .i64 (Int.ofNat M.fin)) h1:=by
  simp only [aHo,iF,eM,aI,H.l1,H.l2,bZ M.made 1 _ (show M.made + 1 < 4611686018427387904 by omega),s1]
 refine ⟨h4,e.trans (s2.trans (s3.trans s4)), ?_⟩
 dsimp only at H4
 have H5 : ML m ⟨M.wb,M.n,M.fin + (c + 3),M.made + 1,M.pb,pU (((M.t.set M.fin (Int.ofNat (c * 4 + f))).set (M.fin + 1) cls).set (M.fin + 2) (Int.ofNat (M.made + 1))) c (M.fin + 3),M.pl.set M.fin 1⟩ h4:=H4
 exact cNc S hM H5 rfl rfl rfl (((O1.trans O2).trans O3).trans O4)
theorem bPv (n : Nat) (args : List DV) : SimP false (uZ args) (fT CF1 (n + 12) 77 args):=fun h h' S v k e=>by
 unfold uZ at e
 split at e <;> (try (cases e; done))
 rename_i m cls fmt cnt
 split at e <;> (try (cases e; done))
 rename_i M hM
 have H:=fS hM S
 have hn:=H.n_lt
 have hfn:=H.fin_le
 rw [cI 77 rfl,dNl,dCj]
 simp only [g0,g1,g2,g3,dPd H,aI,vE]
 have herr : ∀ er : Nat,err er h = some (v,k) → ∃ h1,(some (.t [.i .i64 (Int.ofNat 0),.i .i64 (Int.ofNat er)],h') : aH) = some (v,h1) ∧ Sim false k h1:=by
  intro er he
  simp only [err,aU,bG] at he
  obtain ⟨rfl,rfl⟩:=he
  exact ⟨h',rfl,S⟩
 cases hc : aCg cls M.pl with
 | false =>
  rw [hc] at e
  simp only [Bool.not_false,cond_true] at e
  simp only [Bool.not_false,dN,aI,bN,bF]
  exact herr 1 e
 | true =>
  rw [hc] at e
  simp only [Bool.not_true,cond_false] at e
  simp only [Bool.not_true,eU,aI,bM,cO]
  cases fmt with
  | negSucc f =>
   have hlt : decide (Int.negSucc f < Int.ofNat 0) = true:=decide_eq_true (Int.negSucc_lt_zero f)
   simp only [hlt,dN,aI,bN,bF]
   exact herr 1 e
  | ofNat f =>
   have hlt : decide (Int.ofNat f < Int.ofNat 0) = false:=by simp
   simp only [hlt,eU,aI,bM,fP]
   by_cases hf : f ≤ 2
   ·have hgt : decide (Int.ofNat f > Int.ofNat 2) = false:=by simp only [decide_eq_false_iff_not,Int.ofNat_eq_natCast]; omega
    simp only [hgt,eU,aI,bM,cO]
    cases cnt with
    | negSucc c =>
     have hlt : decide (Int.negSucc c < Int.ofNat 0) = true:=decide_eq_true (Int.negSucc_lt_zero c)
     simp only [hlt,dN,aI,bN,bF]
     exact herr 1 e
    | ofNat c =>
     have hlt : decide (Int.ofNat c < Int.ofNat 0) = false:=by simp
     simp only [hlt,eU,aI,bM,fP]
     dsimp only at e
     simp only [aJz,aBx,hf,decide_true,Bool.true_and] at e
     by_cases hcc : c ≤ 256
     ·have hgt : decide (Int.ofNat c > Int.ofNat 256) = false:=by simp only [decide_eq_false_iff_not,Int.ofNat_eq_natCast]; omega
      simp only [hgt,bW,dOe H,aI,bZ c 3 _ (by omega),cO]
      simp only [hcc,decide_true,cond_true] at e
      have hsub : Nat.sub M.n M.fin = M.n - M.fin:=rfl
      have hadd : Nat.add c 3 = c + 3:=rfl
      rw [hsub,hadd] at e
      by_cases hr : M.n - M.fin < c + 3
      ·simp only [hr,decide_true,cond_true] at e
       have hl : decide (Int.ofNat (M.n - M.fin) < Int.ofNat (c + 3)) = true:=by simp only [decide_eq_true_eq,Int.ofNat_eq_natCast]; omega
       simp only [hl,dN,aI,bN,bF]
       exact herr 4 e
      ·simp only [hr,decide_false,cond_false] at e
       have hl : decide (Int.ofNat (M.n - M.fin) < Int.ofNat (c + 3)) = false:=by simp only [decide_eq_false_iff_not,Int.ofNat_eq_natCast]; omega
       simp only [hl,eU,aI,bM,iF,eM,H.l2,lJ]
       have hg : decide (Int.ofNat M.made ≥ Int.ofNat 1099511627776) = false:=by
        have hmd : M.made < 1000000:=(tI hM).2.2.2.2.2
        simp only [decide_eq_false_iff_not,Int.ofNat_eq_natCast]; omega
       simp only [hg,bW]
       by_cases ha : 3 ≤ M.fin ∧ M.fin ≤ 131072
       ·simp only [ha.1,ha.2,decide_true,Bool.and_self,cond_true,aU,bG] at e
        obtain ⟨rfl,rfl⟩:=e
        exact bEz S hM hcc hf (by omega) ha n
       ·have : (decide (3 ≤ M.fin) && decide (M.fin ≤ 131072)) = false:=by
         rw [← Bool.not_eq_true]
         simpa using ha
        rw [this] at e
        simp only [cond_false] at e
        cases e
     ·have hgt : decide (Int.ofNat c > Int.ofNat 256) = true:=by simp only [decide_eq_true_eq,Int.ofNat_eq_natCast]; omega
      simp only [hcc,decide_false,cond_false] at e
      simp only [hgt,bF]
      exact herr 1 e
   ·have hgt : decide (Int.ofNat f > Int.ofNat 2) = true:=by simp only [decide_eq_true_eq,Int.ofNat_eq_natCast]; omega
    simp only [hgt,dN,aI,bN,bF]
    cases cnt with
    | negSucc c=>exact herr 1 e
    | ofNat c =>
     dsimp only at e
     simp only [aJz,hf,decide_false,Bool.false_and,cond_false] at e
     exact herr 1 e
theorem aQs (n : Nat) (args : List DV) : SimP false (aUy args) (fT CF1 (n + 12) 76 args):=fun h h' S v k e=>by
 unfold aUy at e
 split at e <;> (try (cases e; done))
 ·rename_i w
  rw [cI 76 rfl,cUg]
  simp only [t41,g0,cO,aI]
  simp only [aBx] at e
  by_cases h1 : w < 16
  ·simp only [h1,decide_true,Bool.true_or,cond_true,aU,bG] at e
   obtain ⟨rfl,rfl⟩:=e
   have hl : decide (Int.ofNat w < Int.ofNat 16) = true:=by simp only [decide_eq_true_eq,Int.ofNat_eq_natCast]; omega
   simp only [hl,dN,aI,bN,bF]
   exact ⟨h',rfl,S⟩
  ·have hl : decide (Int.ofNat w < Int.ofNat 16) = false:=by simp only [decide_eq_false_iff_not,Int.ofNat_eq_natCast]; omega
   simp only [hl,eU,aI,bM,fP]
   by_cases h2 : 131072 < w
   ·simp only [h2,decide_true,Bool.or_true,cond_true,aU,bG] at e
    obtain ⟨rfl,rfl⟩:=e
    have hg : decide (Int.ofNat w > Int.ofNat 131072) = true:=by simp only [decide_eq_true_eq,Int.ofNat_eq_natCast]; omega
    simp only [hg,bF]
    exact ⟨h',rfl,S⟩
   ·simp only [h1,h2,decide_false,Bool.or_self,cond_false,aU,bG] at e
    obtain ⟨rfl,rfl⟩:=e
    have hg : decide (Int.ofNat w > Int.ofNat 131072) = false:=by simp only [decide_eq_false_iff_not,Int.ofNat_eq_natCast]; omega
    simp only [hg,bW]
    have hms : bU 1 8 [.i .i64 (Int.ofNat 0)] (.i .i64 (Int.ofNat w)) (.i .i64 (Int.ofNat w)) h' = some (.l h'.next 0 w w,⟨h'.next.succ,Tr.set (.row .ex (iO w .e)) h'.next h'.bl⟩):=by
     have hc : (0 : Int) ≤ Int.ofNat w ∧ Int.ofNat w ≤ Int.ofNat w ∧ (Int.ofNat w).toNat * 8 ≤ 2 ^ 30 ∧ (Int.ofNat w).toNat * 1 ≤ 2 ^ 24 ∧ Int.ofNat w < 2 ^ 32:=by
      have : (Int.ofNat w).toNat = w:=rfl
      rw [this]
      simp only [Int.ofNat_eq_natCast]
      omega
     have hz : (List.replicate (Int.ofNat w).toNat [DV.i .i64 (Int.ofNat 0)]).flatten = iO w .e:=by
      have : (Int.ofNat w).toNat = w:=rfl
      rw [this,aAz]
      apply List.ext_getElem?
      intro j
      by_cases hj : j < w
      ·rw [lR hj,List.getElem?_replicate,if_pos hj]; rfl
      ·rw [List.getElem?_replicate,if_neg hj,List.getElem?_eq_none (by simp [iO]; omega)]
     simp only [bU,hc,and_self,if_true,hz]
     rfl
    simp only [hms,aI,dW]
    have hb : ∀ x y h,bK [.l0,.i .i64 (Int.ofNat 0),.i .i64 (Int.ofNat 0),.m0] [(0,1,.l x 0 w w),(1,1,.i .i64 (Int.ofNat 3)),(3,1,.m y)] h = some (.a [.l x 0 w w,.i .i64 (Int.ofNat 3),.i .i64 (Int.ofNat 0),.m y],h):=fun x y h=>rfl
    simp only [hb,aI,dA,dD,bY]
    have hnx:=S.next
    refine ⟨_,by rw [hnx]; rfl, ?_⟩
    refine ⟨rfl,fun b o hb => ?_⟩
    show ∃ o',(Tr.set _ (cW 2 h.next) (Tr.set _ (cW 1 h.next) (Tr.set _ h.next h'.bl))).get b = some o' ∧ _
    by_cases b1 : b = cW 2 h.next
    ·subst b1
     simp only [dXv,aU] at hb ⊢
     subst hb
     exact ⟨_,rfl,rfl⟩
    ·simp only [dXu _ _ _ _ b1] at hb ⊢
     by_cases b2 : b = cW 1 h.next
     ·subst b2
      simp only [dXv,aU] at hb ⊢
      subst hb
      exact ⟨_,rfl,by simp only [wE]; exact ⟨[],rfl,fun a=>by simp [fQ,WT.get_e]⟩⟩
     ·simp only [dXu _ _ _ _ b2] at hb ⊢
      by_cases b3 : b = h.next
      ·subst b3
       simp only [dXv,aU] at hb ⊢
       subst hb
       exact ⟨_,rfl,by simp [wE]⟩
      ·simp only [dXu _ _ _ _ b3] at hb ⊢
       exact S.get b o hb
 ·rename_i w
  simp only [aU,bG] at e
  obtain ⟨rfl,rfl⟩:=e
  rw [cI 76 rfl,cUg]
  have hl : decide (Int.negSucc w < Int.ofNat 16) = true:=by simp only [decide_eq_true_eq]; have:=Int.negSucc_lt_zero w; simp only [Int.ofNat_eq_natCast]; omega
  simp only [t41,g0,cO,aI,hl,dN,bN,bF]
  exact ⟨h',rfl,S⟩
end Go.Dd

namespace Go.Dd
theorem cPt {gg : Bool} (args : List DV) : SimP gg (aNu args) (aNu args):=fun h h' S v k e=>by
 unfold aNu at e ⊢
 split at e <;> (try (cases e; done))
 rename_i l c
 cases hc : Nat.blt c 256 with
 | false=>rw [hc] at e; cases e
 | true =>
  rw [hc] at e
  simp only [cond_true,aU,bG] at e
  obtain ⟨rfl,rfl⟩:=e
  exact ⟨h',rfl,S⟩
theorem aUi {gg : Bool} (q : Pos) (l1 : DV) (cs : List DV) : SimP gg (kR q l1 cs) (kR q l1 cs):=fun h h' S v k e=>by
 unfold kR at e ⊢
 split at e <;> (try (cases e; done))
 ·simp only [aU,bG] at e ⊢
  obtain ⟨rfl,rfl⟩:=e
  exact ⟨_,⟨by rw [S.next],rfl⟩,by rw [S.next]; exact S.setR _ _ _ _⟩
 ·rename_i b o len cap
  cases hc : (Nat.ble cap len && !(nS b q)) with
  | false=>rw [hc] at e; cases e
  | true =>
   rw [hc] at e
   simp only [cnd] at e ⊢
   split at e <;> (try (cases e; done))
   rename_i es l old hb hold
   rw [S.row hb,S.cellsAt hold]
   dsimp only
   split at e <;> (try (cases e; done))
   rename_i hr
   rw [if_pos hr]
   simp only [aU,bG] at e ⊢
   obtain ⟨rfl,rfl⟩:=e
   refine ⟨_,⟨by rw [S.next],rfl⟩, ?_⟩
   rw [S.next]
   exact (S.setR .sp (bR o l) b h.next).setR _ _ _ _
theorem aSp {gg : Bool} (c q : Pos) : SimP gg (uS c q) (uS c q):=by
 intro h h' S
 unfold uS
 refine dYc (lT _ h h' S) fun l1 _ _ _ => ?_
 refine dYc (dXy (nX l1) h h' S) fun n _ _ _ => ?_
 refine dYc (lP _ _ h h' S) fun x _ _ _ => ?_
 split
 ·refine dYw id ?_
  have S2 : Sim gg ⟨h.next.succ.succ,h.bl⟩ ⟨h'.next.succ.succ,h'.bl⟩:=⟨by show h'.next.succ.succ = _; rw [S.next],S.get⟩
  refine dYc (aUi _ _ _ _ _ S2) fun l2 h3 h3' T3 => ?_
  exact dYc (mI _ _ _ h3 h3' T3) fun u h4 h4' T4=>SimR.some T4 _
 ·exact SimR.none _
theorem cMu {gg : Bool} (n : Nat) (f : FuncId) (args : List DV) : SimP gg (mS CF0 n f args) (mS CF0 n f args) :=
 bMq (gg:=gg) (P:=Go.Proofs.Tryz.prog) (I2:=fun _=>none) (I1:=fun _=>none) 0 (fun _ _=>rfl) (fun _ _ h=>by cases h) n f args
theorem cHx {gg : Bool} (args : List DV) : SimP gg (bFm args) (bFm args):=by
 unfold bFm
 intro h h' S
 split
 ·rename_i c lit
  dsimp only
  rw [show h'.next = h.next from S.next]
  refine dYc (aJr _ h h' S) fun b h1 h1' T1 => ?_
  refine dYc (lT _ h1 h1' T1) fun ls h2 h2' T2 => ?_
  refine dYc (cMu _ _ _ h2 h2' T2) fun i h3 h3' T3 => ?_
  refine dYc (dXy (aAp _ _ _) h3 h3' T3) fun t h4 h4' T4 => ?_
  exact aHd (aSp _ _ h4 h4' T4) (SimR.some T4 _)
 ·exact SimR.none _
theorem aDr {C : Cfg} {rec : FuncId → List DV → Hp → aH} {g : FuncId} (h : C.I g = none) (args : List DV) : cD C rec g args = rec g args:=by
 funext k
 unfold cD
 rw [h]
theorem bSf {gg : Bool} (args : List DV) : SimP gg (aDd args) (aDd args):=fun h h' S v k e=>by
 unfold aDd at e ⊢
 split at e <;> (try (cases e; done))
 rename_i s c new
 cases hc : Nat.blt c 256 with
 | false=>rw [hc] at e; cases e
 | true =>
 rw [hc] at e
 cases hc2 : Nat.ble s.length 4000000000 with
 | false=>rw [hc2] at e; cases e
 | true =>
 rw [hc2] at e
 cases hc3 : Nat.ble new.length 1000 with
 | false=>rw [hc3] at e; cases e
 | true =>
  rw [hc3] at e
  simp only [cond_true,aU,bG] at e
  obtain ⟨rfl,rfl⟩:=e
  exact ⟨h',by simp only [hc3,cond_true],S⟩
theorem bLm {gg : Bool} (args : List DV) : SimP gg (jP args) (jP args):=fun h h' S v k e=>by
 unfold jP at e ⊢
 split at e <;> (try (cases e; done))
 rename_i n
 cases hc : (decide (-9223372036854775808 ≤ n) && decide (n ≤ 9223372036854775807)) with
 | false=>rw [hc] at e; cases e
 | true =>
  rw [hc] at e
  simp only [cond_true,aU,bG] at e
  obtain ⟨rfl,rfl⟩:=e
  exact ⟨h',by simp only [hc,cond_true],S⟩
theorem cKc {gg : Bool} (args : List DV) : SimP gg (tL args) (tL args):=fun h h' S v k e=>by
 unfold tL at e ⊢
 split at e <;> (try (cases e; done))
 rename_i s c
 cases hc : Nat.blt c 256 with
 | false=>rw [hc] at e; cases e
 | true =>
 cases hc2 : Nat.ble s.length 4000000000 with
 | false=>rw [hc,hc2] at e; cases e
 | true =>
 cases hq : eQ c s with
 | none =>
  rw [hc,hc2,hq] at e
  simp only [cond_true,aU,bG] at e
  obtain ⟨rfl,rfl⟩:=e
  exact ⟨h',by simp only [hc2,hq,cond_true],S⟩
 | some p =>
  obtain ⟨a,r⟩:=p
  rw [hc,hc2,hq] at e
  simp only [cond_true,aU,bG] at e
  obtain ⟨rfl,rfl⟩:=e
  exact ⟨h',by simp only [hc2,hq,cond_true],S⟩
theorem aRs {gg : Bool} (args : List DV) : SimP gg (gK args) (gK args):=fun h h' S v k e=>by
 unfold gK at e ⊢
 split at e <;> (try (cases e; done))
 rename_i s
 cases hc2 : Nat.ble s.length 4000000000 with
 | false=>rw [hc2] at e; cases e
 | true =>
 cases hq : eR s with
 | none =>
  rw [hc2,hq] at e
  simp only [cond_true,aU,bG] at e
  obtain ⟨rfl,rfl⟩:=e
  exact ⟨h',by simp only [hq,cond_true],S⟩
 | some n =>
  rw [hc2,hq] at e
  simp only [cond_true,aU,bG] at e
  obtain ⟨rfl,rfl⟩:=e
  exact ⟨h',by simp only [hq,cond_true],S⟩
theorem aTc {gg : Bool} (args : List DV) : SimP gg (lB args) (lB args):=fun h h' S v k e=>by
 unfold lB at e ⊢
 split at e <;> (try (cases e; done))
 rename_i s
 cases hc2 : Nat.ble s.length 100000 with
 | false=>rw [hc2] at e; cases e
 | true =>
  rw [hc2] at e
  simp only [cond_true,aU,bG] at e
  obtain ⟨rfl,rfl⟩:=e
  exact ⟨h',by simp only [cond_true],S⟩
theorem bEy {gg : Bool} (args : List DV) : SimP gg (mU args) (mU args):=fun h h' S v k e=>by
 unfold mU at e ⊢
 split at e <;> (try (cases e; done))
 rename_i s c
 cases hc : Nat.blt c 256 with
 | false=>rw [hc] at e; cases e
 | true =>
 cases hc2 : Nat.ble s.length 4000000000 with
 | false=>rw [hc,hc2] at e; cases e
 | true =>
  rw [hc,hc2] at e
  simp only [cond_true,aU,bG] at e
  obtain ⟨rfl,rfl⟩:=e
  exact ⟨⟨h.next.succ,Tr.set (.row .ex ((cA c s).map DV.s)) h.next h'.bl⟩,by simp only [hc2,cond_true,S.next],S.setR _ _ _ _⟩
theorem bQz {gg : Bool} (args : List DV) : SimP gg (pT args) (pT args):=fun h h' S v k e=>by
 unfold pT at e ⊢
 split at e <;> (try (cases e; done))
 rename_i x sep _
 split at e <;> (try (cases e; done))
 rename_i n cells hs
 rw [S.src hs]
 cases hq : nO cells with
 | none=>rw [hq] at e; cases e
 | some l =>
 rw [hq] at e
 dsimp only at e ⊢
 cases c1 : Nat.ble (jK sep l).length 100000000000 with
 | false=>rw [c1] at e; cases e
 | true =>
 cases c2 : (Nat.ble n 100000000000 && bKy x) with
 | false=>rw [c1,c2] at e; cases e
 | true =>
  rw [c1,c2] at e
  simp only [cond_true,aU,bG] at e
  obtain ⟨rfl,rfl⟩:=e
  exact ⟨h',by simp only [hq,c1,cond_true],S⟩
theorem aHc {gg : Bool} {g : FuncId} {F : List DV → Hp → aH} (hg : qC g = some F) (args : List DV) : SimP gg (F args) (F args):=by
 unfold qC at hg
 cases h1 : Nat.beq g 68 with
 | true=>rw [h1] at hg; cases hg; exact cPt args
 | false =>
 cases h2 : Nat.beq g 351 with
 | true=>rw [h1,h2] at hg; cases hg; exact cHx args
 | false =>
 cases h3 : Nat.beq g 24 with
 | true=>rw [h1,h2,h3] at hg; cases hg; exact bLm args
 | false =>
 cases h4 : Nat.beq g 235 with
 | true=>rw [h1,h2,h3,h4] at hg; cases hg; exact bSf args
 | false =>
 cases h5 : Nat.beq g 23 with
 | true=>rw [h1,h2,h3,h4,h5] at hg; cases hg; exact bQz args
 | false =>
 cases h6 : Nat.beq g 32 with
 | true=>rw [h1,h2,h3,h4,h5,h6] at hg; cases hg; exact bEy args
 | false =>
 cases h7 : Nat.beq g 33 with
 | true=>rw [h1,h2,h3,h4,h5,h6,h7] at hg; cases hg; exact cKc args
 | false =>
 cases h8 : Nat.beq g 74 with
 | true=>rw [h1,h2,h3,h4,h5,h6,h7,h8] at hg; cases hg; exact aRs args
 | false =>
 cases h9 : Nat.beq g 25 with
 | true=>rw [h1,h2,h3,h4,h5,h6,h7,h8,h9] at hg; cases hg; exact aTc args
 | false =>
 rw [h1,h2,h3,h4,h5,h6,h7,h8,h9] at hg
 cases hg
theorem aLr {g : FuncId} (hg : CF.I g = none) : qC g = none ∧ aKp g = none:=by
 change orI (qC g) (aKp g) = none at hg
 cases h : qC g with
 | none=>rw [h] at hg; exact ⟨rfl,hg⟩
 | some F=>rw [h] at hg; cases hg
theorem yK {g : FuncId} {F : List DV → Hp → aH} (hg : CF.I g = some F) : qC g = some F ∨ (qC g = none ∧ aKp g = some F):=by
 change orI (qC g) (aKp g) = some F at hg
 cases h : qC g with
 | none=>rw [h] at hg; exact .inr ⟨rfl,hg⟩
 | some F'=>rw [h] at hg; cases hg; exact .inl rfl
theorem aMw (g : FuncId) (F : List DV → Hp → aH) (hg : aKp g = some F) (n : Nat) (args : List DV) : SimP false (F args) (fT CF1 (n + 12) g args):=by
 unfold aKp at hg
 have hb : ∀ k,Nat.beq g k = true → g = k:=fun k h=>Nat.eq_of_beq_eq_true h
 cases h1 : Nat.beq g 132 with
 | true=>rw [h1] at hg; cases hg; rw [hb _ h1]; exact cEs n args
 | false =>
 cases h2 : Nat.beq g 196 with
 | true=>rw [h1,h2] at hg; cases hg; rw [hb _ h2]; exact dCl n args
 | false =>
 cases h3 : Nat.beq g 108 with
 | true=>rw [h1,h2,h3] at hg; cases hg; rw [hb _ h3]; exact bJy n args
 | false =>
 cases h4 : Nat.beq g 126 with
 | true=>rw [h1,h2,h3,h4] at hg; cases hg; rw [hb _ h4]; exact bJo n args
 | false =>
 cases h5 : Nat.beq g 77 with
 | true=>rw [h1,h2,h3,h4,h5] at hg; cases hg; rw [hb _ h5]; exact bPv n args
 | false =>
 cases h6 : Nat.beq g 76 with
 | true=>rw [h1,h2,h3,h4,h5,h6] at hg; cases hg; rw [hb _ h6]; exact aQs n args
 | false =>
 cases h7 : Nat.beq g 80 with
 | true=>rw [h1,h2,h3,h4,h5,h6,h7] at hg; cases hg; rw [hb _ h7]; exact aHp n args
 | false =>
 cases h8 : Nat.beq g 84 with
 | true=>rw [h1,h2,h3,h4,h5,h6,h7,h8] at hg; cases hg; rw [hb _ h8]; exact cFk n args
 | false =>
 cases h9 : Nat.beq g 243 with
 | true=>rw [h1,h2,h3,h4,h5,h6,h7,h8,h9] at hg; cases hg; rw [hb _ h9]; exact bGy n args
 | false =>
 cases h10 : Nat.beq g 136 with
 | true=>rw [h1,h2,h3,h4,h5,h6,h7,h8,h9,h10] at hg; cases hg; rw [hb _ h10]; exact aTs n args
 | false =>
 cases h11 : Nat.beq g 201 with
 | true=>rw [h1,h2,h3,h4,h5,h6,h7,h8,h9,h10,h11] at hg; cases hg; rw [hb _ h11]; exact aTt n args
 | false =>
 cases h12 : Nat.beq g 200 with
 | true=>rw [h1,h2,h3,h4,h5,h6,h7,h8,h9,h10,h11,h12] at hg; cases hg; rw [hb _ h12]; exact aMc n args
 | false =>
 cases h13 : Nat.beq g 134 with
 | true=>rw [h1,h2,h3,h4,h5,h6,h7,h8,h9,h10,h11,h12,h13] at hg; cases hg; rw [hb _ h13]; exact bGn n args
 | false =>
 cases h14 : Nat.beq g 216 with
 | true=>rw [h1,h2,h3,h4,h5,h6,h7,h8,h9,h10,h11,h12,h13,h14] at hg; cases hg; rw [hb _ h14]; exact bEt n args
 | false =>
 cases h15 : Nat.beq g 245 with
 | true=>rw [h1,h2,h3,h4,h5,h6,h7,h8,h9,h10,h11,h12,h13,h14,h15] at hg; cases hg; rw [hb _ h15]; exact cHz n args
 | false=>rw [h1,h2,h3,h4,h5,h6,h7,h8,h9,h10,h11,h12,h13,h14,h15] at hg; cases hg
theorem aTy (n : Nat) (f : FuncId) (args : List DV) : SimP false (fT CF n f args) (fT CF1 (n + 12) f args):=by
 have key:=aFc (I:=itm) (q:=rgB) (gg:=false) (P:=Go.Proofs.Tryz.prog) (I2:=CF.I) (I1:=CF1.I) 12 (fun g hg=>(aLr hg).1) (fun g F hg n args=>by
  have hcall : cD ⟨Go.Proofs.Tryz.prog,CF1.I⟩ (fT ⟨Go.Proofs.Tryz.prog,CF1.I⟩ (n + 12)) g args = fun h=>match qC g with
   | some F=>F args h
   | none=>fT ⟨Go.Proofs.Tryz.prog,CF1.I⟩ (n + 12) g args h:=rfl
  rw [hcall]
  rcases yK hg with h1 | ⟨h1,h2⟩
  ·rw [h1]; exact aHc h1 args
  ·rw [h1]; exact aMw g F h2 n args) n f args
 exact key
end Go.Dd

namespace Go.Dd
open Go.Proofs
theorem aDn {m : Pos} {M : MemV} {h h' : Hp} (S : Sim true h h') (hm : sT m h = some M) : sT m h' = some M:=by
 have hget : ∀ b o,h.bl.get b = some o → h'.bl.get b = some o:=fun b o hb=>by
  obtain ⟨o',h1,h2⟩:=S.get b o hb
  rw [h1,lA h2]
 unfold sT at hm ⊢
 split at hm <;> (try (cases hm; done))
 rename_i wb n c fin made pb hr
 split at hm <;> (try (cases hm; done))
 rename_i n' t pl h1 h2
 simp only [hget _ _ hr,hget _ _ h1,hget _ _ h2]
 exact hm
theorem fO {args : List DV} {k : Hp → MemV → List DV → aH} (hk : ∀ M r,SimP true (fun h=>k h M r) (fun h=>k h M r)) : SimP true (fun h=>rV args h (k h)) (fun h=>rV args h (k h)):=fun h h' S v g e=>by
 obtain ⟨m,rest,M,rfl,hM,e⟩:=fA e
 obtain ⟨g',e1,e2⟩:=hk M rest h h' S v g e
 refine ⟨g', ?_,e2⟩
 show (match sT m h' with
  | some M=>k h' M rest
  | none=>none) = some (v,g')
 rw [aDn S hM]
 exact e1
theorem mM {M : MemV} {o : Int} {k k' : Nat → aH} (h : ∀ n,SimR true (k n) (k' n)) : SimR true (nH M o k) (nH M o k'):=by
 unfold nH
 cases Nat.blt (Nat.add (gO o M.pl) 1) M.n with
 | false=>exact SimR.none _
 | true =>
  simp only [cond_true]
  cases M.t.get (gO o M.pl) with
  | negSucc a=>exact SimR.none _
  | ofNat hd =>
   dsimp only
   cases Nat.blt hd 1000000000000 with
   | false=>exact SimR.none _
   | true=>exact h hd
theorem vK {M : MemV} {o i : Int} {b b' : Nat → aH} {k k' : Nat → Nat → aH} (hb : ∀ n,SimR true (b n) (b' n)) (h : ∀ n m,SimR true (k n m) (k' n m)) : SimR true (lD M o i b k) (lD M o i b' k'):=by
 unfold lD
 cases Nat.beq (gO o M.pl) 0 with
 | true=>exact hb 1
 | false =>
  simp only [cond_false]
  cases i with
  | negSucc i=>exact hb 5
  | ofNat i =>
   dsimp only
   refine mM fun hd => ?_
   cases Nat.ble (Nat.div hd 4) i with
   | true=>exact hb 5
   | false =>
    simp only [cond_false]
    cases Nat.blt (Nat.add (Nat.add (gO o M.pl) 3) i) M.n with
    | false=>exact SimR.none _
    | true=>exact h _ _
theorem kM {h h' : Hp} (S : Sim true h h') (o : Ob) (b n : Pos) : Sim true ⟨n,Tr.set o b h.bl⟩ ⟨n,Tr.set o b h'.bl⟩:=S.set (mD o) b n
theorem pB {M : MemV} {a : Nat} {w : Int} : SimP true (sM M a w) (sM M a w):=fun h h' S v g e=>by
 simp only [sM,aU,bG] at e ⊢
 obtain ⟨rfl,rfl⟩:=e
 exact ⟨_,⟨rfl,rfl⟩,by rw [S.next]; exact kM S _ _ _⟩
theorem bTy (g : FuncId) (F : List DV → Hp → aH) (hg : aKp g = some F) (args : List DV) : SimP true (F args) (F args):=by
 have hmay : SimP true (bRa args) (bRa args):=fO (k:=fun h M r=>match r with
  | [.i .i64 w]=>some (.b (aLo w M.pl),h)
  | _=>none) fun M r h h' S=>by dsimp only; split <;> first | exact SimR.some S _ | exact SimR.none _
 have his : SimP true (isF args) (isF args):=fO (k:=fun h M r=>match r with
  | [.i .i64 w]=>some (.b (!(Nat.beq (gO w M.pl) 0)),h)
  | _=>none) fun M r h h' S=>by dsimp only; split <;> first | exact SimR.some S _ | exact SimR.none _
 have hsize : SimP true (aPd args) (aPd args):=fO (k:=fun h M r=>match r with
  | []=>some (.i .i64 (.ofNat M.n),h)
  | _=>none) fun M r h h' S=>by dsimp only; split <;> first | exact SimR.some S _ | exact SimR.none _
 have hroom : SimP true (aXd args) (aXd args):=fO (k:=fun h M r=>match r with
  | []=>some (.i .i64 (.ofNat (Nat.sub M.n M.fin)),h)
  | _=>none) fun M r h h' S=>by dsimp only; split <;> first | exact SimR.some S _ | exact SimR.none _
 have hclass : SimP true (uV args) (uV args):=fO (k:=fun h M r=>match r with
  | [.i .i64 o]=>nH M o fun _=>some (.i .i64 (M.t.get (Nat.add (gO o M.pl) 1)),h)
  | _=>none) fun M r h h' S=>by dsimp only; split <;> first | exact mM (fun _=>SimR.some S _) | exact SimR.none _
 have hformat : SimP true (wK args) (wK args):=fO (k:=fun h M r=>match r with
  | [.i .i64 o]=>nH M o fun hd=>some (.i .i64 (.ofNat (Nat.mod hd 4)),h)
  | _=>none) fun M r h h' S=>by dsimp only; split <;> first | exact mM (fun _=>SimR.some S _) | exact SimR.none _
 have hfields : SimP true (sR args) (sR args):=fO (k:=fun h M r=>match r with
  | [.i .i64 o]=>nH M o fun hd=>some (.i .i64 (.ofNat (Nat.div hd 4)),h)
  | _=>none) fun M r h h' S=>by dsimp only; split <;> first | exact mM (fun _=>SimR.some S _) | exact SimR.none _
 have hget : SimP true (bOi args) (bOi args):=fO (k:=fun h M r=>match r with
  | [.i .i64 o,.i .i64 i]=>lD M o i (fun e=>err e h) fun _ a=>some (.t [.i .i64 (M.t.get a),.i .i64 (.ofNat 0)],h)
  | _=>none) fun M r h h' S=>by dsimp only; split <;> first | exact vK (fun _=>SimR.some S _) (fun _ _=>SimR.some S _) | exact SimR.none _
 have hput : SimP true (aMi args) (aMi args):=fO (k:=fun h M r=>match r with
  | [.i .i64 o,.i .i64 i,.i .i64 w]=>lD M o i (fun e=>some (.i .i64 (.ofNat e),h)) fun hd a =>
   match Nat.mod hd 4 with
   | 0=>bif aLo w M.pl then sM M a w h else some (.i .i64 (.ofNat 6),h)
   | 2=>(match w with
    | .ofNat c=>bif Nat.ble c 255 then sM M a w h else some (.i .i64 (.ofNat 6),h)
    | .negSucc _=>some (.i .i64 (.ofNat 6),h))
   | _=>sM M a w h
  | _=>none) fun M r h h' S=>by
   dsimp only
   split
   ·rename_i o i w
    refine vK (fun _=>SimR.some S _) fun hd a => ?_
    split
    ·cases aLo w M.pl with
     | true=>exact pB h h' S
     | false=>exact SimR.some S _
    ·cases w with
     | negSucc c=>exact SimR.some S _
     | ofNat c =>
      dsimp only
      cases Nat.ble c 255 with
      | true=>exact pB h h' S
      | false=>exact SimR.some S _
    ·exact pB h h' S
   ·exact SimR.none _
 have hsetc : SimP true (lV args) (lV args):=fO (k:=fun h M r=>match r with
  | [.i .i64 o,.i .i64 c]=>bif Nat.beq (gO o M.pl) 0 || !(aCg c M.pl) then some (.i .i64 (.ofNat 1),h) else
   (bif Nat.blt (Nat.add (gO o M.pl) 1) M.n then sM M (Nat.add (gO o M.pl) 1) c h else none)
  | _=>none) fun M r h h' S=>by
   dsimp only
   split
   ·rename_i o c
    cases Nat.beq (gO o M.pl) 0 || !(aCg c M.pl) with
    | true=>exact SimR.some S _
    | false =>
     simp only [cond_false]
     cases Nat.blt (Nat.add (gO o M.pl) 1) M.n with
     | true=>exact pB h h' S
     | false=>exact SimR.none _
   ·exact SimR.none _
 have hmake : SimP true (uZ args) (uZ args):=fun h h' S=>by
  unfold uZ
  split
  ·rename_i m cls fmt cnt
   intro v g e
   split at e
   ·cases e
   ·rename_i M hM
    rw [aDn S hM]
    dsimp only
    revert e
    have herr : ∀ n,SimR true (err n h) (err n h'):=fun n=>SimR.some S _
    suffices hs : SimR true _ _ from fun e=>hs v g e
    cases !(aCg cls M.pl) with
    | true=>exact herr 1
    | false =>
     simp only [cond_false]
     cases fmt with
     | negSucc f=>exact herr 1
     | ofNat f =>
      cases cnt with
      | negSucc c=>exact herr 1
      | ofNat c =>
       dsimp only
       cases Nat.ble f 2 && Nat.ble c 256 with
       | false=>exact herr 1
       | true =>
        simp only [cond_true]
        cases Nat.blt (Nat.sub M.n M.fin) (Nat.add c 3) with
        | true=>exact herr 4
        | false =>
         simp only [cond_false]
         cases Nat.ble 3 M.fin && Nat.ble M.fin 131072 with
         | false=>exact SimR.none _
         | true =>
          simp only [cond_true]
          intro v g e
          simp only [aU,bG] at e ⊢
          obtain ⟨rfl,rfl⟩:=e
          refine ⟨_,⟨rfl,rfl⟩, ?_⟩
          rw [S.next]
          exact kM (kM (kM S _ _ h.next) _ _ h.next) _ _ h.next
  ·exact SimR.none _
 have hnew : SimP true (aUy args) (aUy args):=fun h h' S=>by
  unfold aUy
  split
  ·rename_i n
   cases Nat.blt n 16 || Nat.blt 131072 n with
   | true=>exact SimR.some S _
   | false =>
    simp only [cond_false]
    intro v g e
    simp only [aU,bG] at e ⊢
    obtain ⟨rfl,rfl⟩:=e
    rw [S.next]
    exact ⟨_,⟨rfl,rfl⟩,kM (kM (kM S _ _ h.next) _ _ h.next) _ _ _⟩
  ·exact SimR.some S _
  ·exact SimR.none _
 have hpure : ∀ F : Hp → aH,(∀ h h',Sim true h h' → SimR true (F h) (F h')) → SimP true F F:=fun F hF=>hF
 have hsm : SimP true (kI args) (kI args):=fun h h' S=>by unfold kI; split <;> first | exact SimR.some S _ | exact SimR.none _
 have hva : SimP true (tS args) (tS args):=fun h h' S=>by
  unfold tS
  split
  ·rename_i w
   cases iT w <;> exact SimR.some S _
  ·exact SimR.none _
 have hsl : SimP true (rD args) (rD args):=fun h h' S=>by
  unfold rD
  split
  ·rename_i n; cases Nat.blt n 1073741824 <;> exact SimR.some S _
  ·rename_i n; cases Nat.blt n 1073741824 <;> exact SimR.some S _
  ·exact SimR.none _
 unfold aKp at hg
 cases h1 : Nat.beq g 132 with
 | true=>rw [h1] at hg; cases hg; exact hmay
 | false =>
 cases h2 : Nat.beq g 196 with
 | true=>rw [h1,h2] at hg; cases hg; exact his
 | false =>
 cases h3 : Nat.beq g 108 with
 | true=>rw [h1,h2,h3] at hg; cases hg; exact hsize
 | false =>
 cases h4 : Nat.beq g 126 with
 | true=>rw [h1,h2,h3,h4] at hg; cases hg; exact hroom
 | false =>
 cases h5 : Nat.beq g 77 with
 | true=>rw [h1,h2,h3,h4,h5] at hg; cases hg; exact hmake
 | false =>
 cases h6 : Nat.beq g 76 with
 | true=>rw [h1,h2,h3,h4,h5,h6] at hg; cases hg; exact hnew
 | false =>
 cases h7 : Nat.beq g 80 with
 | true=>rw [h1,h2,h3,h4,h5,h6,h7] at hg; cases hg; exact hsetc
 | false =>
 cases h8 : Nat.beq g 84 with
 | true=>rw [h1,h2,h3,h4,h5,h6,h7,h8] at hg; cases hg; exact hput
 | false =>
 cases h9 : Nat.beq g 243 with
 | true=>rw [h1,h2,h3,h4,h5,h6,h7,h8,h9] at hg; cases hg; exact hclass
 | false =>
 cases h10 : Nat.beq g 136 with
 | true=>rw [h1,h2,h3,h4,h5,h6,h7,h8,h9,h10] at hg; cases hg; exact hformat
 | false =>
 cases h11 : Nat.beq g 201 with
 | true=>rw [h1,h2,h3,h4,h5,h6,h7,h8,h9,h10,h11] at hg; cases hg; exact hfields
 | false =>
 cases h12 : Nat.beq g 200 with
 | true=>rw [h1,h2,h3,h4,h5,h6,h7,h8,h9,h10,h11,h12] at hg; cases hg; exact hsm
 | false =>
 cases h13 : Nat.beq g 134 with
 | true=>rw [h1,h2,h3,h4,h5,h6,h7,h8,h9,h10,h11,h12,h13] at hg; cases hg; exact hsl
 | false =>
 cases h14 : Nat.beq g 216 with
 | true=>rw [h1,h2,h3,h4,h5,h6,h7,h8,h9,h10,h11,h12,h13,h14] at hg; cases hg; exact hva
 | false =>
 cases h15 : Nat.beq g 245 with
 | true=>rw [h1,h2,h3,h4,h5,h6,h7,h8,h9,h10,h11,h12,h13,h14,h15] at hg; cases hg; exact hget
 | false=>rw [h1,h2,h3,h4,h5,h6,h7,h8,h9,h10,h11,h12,h13,h14,h15] at hg; cases hg
theorem aPf (g : FuncId) (F : List DV → Hp → aH) (hg : CF.I g = some F) (args : List DV) : SimP true (F args) (F args):=by
 rcases yK hg with h1 | ⟨_,h2⟩
 ·exact aHc h1 args
 ·exact bTy g F h2 args
theorem bIe (n : Nat) (f : FuncId) (args : List DV) : SimP true (dB n f args) (dB n f args):=by
 rw [yU]
 exact aFc (I:=itm) (q:=rgB) (gg:=true) (P:=Tryz.prog) (I2:=CF.I) (I1:=CF.I) 0 (fun g h=>h) (fun g F hg n args=>by
  have : cD ⟨Tryz.prog,CF.I⟩ (fT ⟨Tryz.prog,CF.I⟩ (n + 0)) g args = F args:=by
   funext h
   unfold cD
   rw [show (⟨Tryz.prog,CF.I⟩ : Cfg).I g = some F from hg]
  rw [this]
  exact aPf g F hg args) n f args
theorem bHa (n : Nat) (g : FuncId) (args : List DV) : SimP true (cD CF (dB n) g args) (cD CF (dB n) g args):=by
 unfold cD
 cases hg : CF.I g with
 | none=>exact bIe n g args
 | some F=>exact aPf g F hg args
end Go.Dd

namespace Go.Dd
open Go.Proofs
abbrev K4T:=DV → DV → DV → DV → Hp → aH
abbrev R9 : RT:=dB 899
def XL : Nat → K:=xs x0 7 (fun env h=>fM R9 899 (env 5) h)
def krN : K:=aR CF Tryz.f55
def bTj : Code:=cL (cL (cR (cL (cR (cR (cR (cR (cR (cR (cf Tryz.f55))))))))))
def kb (kk : K4T) : K:=fun env h=>kk (env 5) (env 155) (env 156) (env 157) h
def aMu (a b c d : DV) : bA:=fun t=>bif Nat.beq t 5 then a else bif Nat.beq t 155 then b else bif Nat.beq t 156 then c else bif Nat.beq t 157 then d else .u
theorem aHq (kk : K4T) (a b c d : DV) (h : Hp) : lK R9 899 kk a b c d h = aM CF R9 179 899 bTj XL krN (kb kk) (aMu a b c d) h :=
 (congrFun (congrFun (aYb R9 899 kk) (aMu a b c d)) h).symm
theorem aTo (e : bA) (h : Hp) : krN e h = some (.t [e 2,e 3],h):=by kernel_rfl
def dXo (r : aH) : Prop:=∃ a b c d h,r = some (.t [a,b,c,d],h)
theorem bTf (a b c d : DV) (h : Hp) : (∃ a' b' c' d' h',∀ kk : K4T,lK R9 899 kk a b c d h = kk a' b' c' d' h') ∨ (∃ r,¬ dXo r ∧ ∀ kk : K4T,lK R9 899 kk a b c d h = r):=by
 obtain ⟨O,hO⟩:=aOu (C:=CF) (rec:=R9) (nt:=179) 899 bTj
 have key : ∀ kk : K4T,lK R9 899 kk a b c d h = dZh (O (aMu a b c d) h) XL krN (kb kk):=fun kk=>(aHq kk a b c d h).trans (hO _ _ _ _ _)
 cases ho : O (aMu a b c d) h with
 | none=>exact .inr ⟨none,(by rintro ⟨_,_,_,_,_,e⟩; cases e),fun kk=>by rw [key kk,ho]; rfl⟩
 | some o =>
  cases o with
  | n e h'=>exact .inl ⟨e 5,e 155,e 156,e 157,h',fun kk=>by rw [key kk,ho]; rfl⟩
  | r e h'=>exact .inr ⟨some (.t [e 2,e 3],h'),(by rintro ⟨_,_,_,_,_,q⟩; cases q),fun kk=>by rw [key kk,ho]; exact aTo e h'⟩
  | x i e h' =>
   refine .inr ⟨XL i e h', ?_,fun kk=>by rw [key kk,ho]; rfl⟩
   rintro ⟨_,_,_,_,_,q⟩
   unfold XL xs at q
   cases hi : Nat.beq i 7 with
   | true=>rw [hi] at q; cases q
   | false=>rw [hi] at q; cases q
theorem yN (n : Nat) (kk : K4T) : itN (n + 1) kk = lK R9 899 (itN n kk):=rfl
theorem bUu : ∀ (n : Nat) (a b c d : DV) (h : Hp) (a' b' c' d' : DV) (h' : Hp),itN n cAe a b c d h = some (.t [a',b',c',d'],h') → ∀ kk : K4T,itN n kk a b c d h = kk a' b' c' d' h'
 | 0,a,b,c,d,h,a',b',c',d',h',e,kk=>by
  have e' : (some (.t [a,b,c,d],h) : aH) = some (.t [a',b',c',d'],h'):=e
  simp only [aU,bG,DV.t.injEq,List.cons.injEq,and_true] at e'
  obtain ⟨⟨rfl,rfl,rfl,rfl⟩,rfl⟩:=e'
  rfl
 | n + 1,a,b,c,d,h,a',b',c',d',h',e,kk=>by
  rw [yN] at e ⊢
  rcases bTf a b c d h with ⟨a1,b1,c1,d1,h1,hs⟩ | ⟨r,hr,hs⟩
  ·rw [hs] at e ⊢
   exact bUu n a1 b1 c1 d1 h1 a' b' c' d' h' e kk
  ·rw [hs] at e
   exact absurd ⟨_,_,_,_,_,e⟩ hr
theorem bUg (kk : K4T) (hk : ∀ a b c d,SimP true (kk a b c d) (kk a b c d)) : ∀ (n : Nat) (a b c d : DV),SimP true (itN n kk a b c d) (itN n kk a b c d)
 | 0,a,b,c,d=>hk a b c d
 | n + 1,a,b,c,d=>by
  have ih:=bUg kk hk n
  rw [yN]
  have hX : ∀ j,SimK true (XL j) (XL j):=by
   intro j env h h' S
   unfold XL xs
   cases Nat.beq j 7 with
   | true=>exact SimR.some S _
   | false=>exact SimR.none _
  have hR : SimK true krN krN:=fun env h h' S=>by rw [aTo,aTo]; exact SimR.some S _
  have hK : SimK true (kb (itN n kk)) (kb (itN n kk)):=fun env=>ih _ _ _ _
  have hc:=gI (gg:=true) (P:=Tryz.prog) (I2:=CF.I) (I1:=CF.I) (rec2:=R9) (rec1:=R9) (fun g args=>bHa 899 g args) 179 899 0 bTj XL XL krN krN (kb (itN n kk)) (kb (itN n kk)) hX hR hK (aMu a b c d)
  intro h h' S
  rw [aHq,aHq]
  exact hc h h' S
theorem aBr (m : Nat) : ∀ n,lH R9 899 (m + n) = itN n (lH R9 899 m)
 | 0=>rfl
 | n + 1=>by
  rw [yN,← aBr m n]
  rfl
theorem kL {k n nx nx' : Nat} {L L' : List (Pos × Ob)} (hc : nE (pF k n (jI nx L)) (lU (k + n)) nx' L' = true) (m : Nat) {h : Hp} (S : Sim true (jI nx L) h) :
  ∃ h',Sim true (jI nx' L') h' ∧ lH R9 899 (m + n) (.p (cT 7) 0) (.l (cT 431) 0 75 75) (.i .i64 (.ofNat 75)) (.i .i64 (.ofNat k)) h =
   lH R9 899 m (.p (cT 7) 0) (.l (cT 431) 0 75 75) (.i .i64 (.ofNat 75)) (.i .i64 (.ofNat (k + n))) h':=by
 obtain ⟨g,e1,e2⟩:=bCc hc
 obtain ⟨g',f1,f2⟩:=bUg cAe (fun a b c d h h' S=>SimR.some S _) n _ _ _ _ (jI nx L) h S _ _ e1
 refine ⟨g',e2.trans f2, ?_⟩
 rw [aBr]
 exact bUu n _ _ _ _ _ _ _ _ _ _ f1 _
theorem bGd (k : K) : aM CF R9 179 899 (cf Tryz.f55) x0 krN k = aM CF R9 179 899 cNy x0 krN (aM CF R9 179 899 bPb x0 krN (aM CF R9 179 899 dMu x0 krN k)):=by kernel_rfl
theorem dHp : aM CF R9 179 899 dMu x0 krN krN = fun env h=>fM R9 899 (env 5) h:=bOp R9 899
theorem cGc : aM CF R9 179 899 bPb x0 krN (fun env h=>fM R9 899 (env 5) h) = fun env h=>aWf R9 899 (env 5) (env 155) (env 156) (env 157) h :=
 (by kernel_rfl : aM CF R9 179 899 bPb x0 krN (fun env h=>fM R9 899 (env 5) h) = D55 R9 899 (cL (cR (cL (cR (cR (cR (cR (cR (cR (cf Tryz.f55)))))))))) (xs x0 7 (fun (env : bA) (h : Hp)=>fM R9 899 (env 5) h)) (fun (env : bA) (h : Hp)=>fM R9 899 (env 5) h)).trans (bYi R9 899)
theorem dHo (x : DV) (h : Hp) : aF CF R9 899 55 [x] h = aM CF R9 179 899 (cf Tryz.f55) x0 krN krN (aJ [x]) h:=by kernel_rfl
theorem cDn : ∃ e h',Sim true (jI 432 (pC 30000 553 84 18 [1076,1096,6,24,42,60,78,96,114,132,150,168,186,204,222,240,258,276] [(10,0),(19,0),(46,0),(55,0),(64,0),(91,0),(100,0),(109,0),(118,0),(127,0),(145,0)] 0)) h' ∧ e 5 = .p (cT 7) 0 ∧ e 155 = .l (cT 431) 0 75 75 ∧ e 156 = .i .i64 (.ofNat 75) ∧ e 157 = .i .i64 (.ofNat 0) ∧
  ∀ X kr k,aM CF R9 179 899 cNy X kr k (aJ [.i .i64 (.ofNat 30000)]) hS = k e h':=by
 obtain ⟨O,hO⟩:=aOu (C:=CF) (rec:=R9) (nt:=179) 899 cNy
 obtain ⟨g,e1,e2⟩:=bCc he0
 have e1' : dZh (O (aJ [.i .i64 (.ofNat 30000)]) hS) (fun _ _ _=>none) (fun _ _=>none) dJs = some (.t (lU 0),g):=(hO _ _ _ _ _).symm.trans e1
 cases ho : O (aJ [.i .i64 (.ofNat 30000)]) hS with
 | none=>rw [ho] at e1'; cases e1'
 | some o =>
  rw [ho] at e1'
  cases o with
  | x i e h'=>cases e1'
  | r e h'=>cases e1'
  | n e h' =>
   have q : (some (.t [e 5,e 155,e 156,e 157],h') : aH) = some (.t (lU 0),g):=e1'
   simp only [lU,aU,bG,DV.t.injEq,List.cons.injEq,and_true] at q
   obtain ⟨⟨q1,q2,q3,q4⟩,q5⟩:=q
   exact ⟨e,h',by rw [q5]; exact e2,q1,q2,q3,q4,fun X kr k=>by rw [hO,ho]; rfl⟩
theorem cVg : ∃ g,dB 900 55 [.i .i64 (.ofNat 30000)] hS = some (.t [.p (cT 7) 0,.i .i64 (.ofNat 0)],g) ∧ Sim true (jI 26855 (pC 30000 4321 583 80 [8370,1096,6,24,42,60,78,96,114,132,150,168,186,204,222,240,258,276] [] 75)) g:=by
 obtain ⟨e,h0,S0,p1,p2,p3,p4,hpre⟩:=cDn
 obtain ⟨h1,S1,c1⟩:=kL hc0 894 S0
 obtain ⟨h2,S2,c2⟩:=kL hc5 889 S1
 obtain ⟨h3,S3,c3⟩:=kL dTc 884 S2
 obtain ⟨h4,S4,c4⟩:=kL dSw 879 S3
 obtain ⟨h5,S5,c5⟩:=kL dXp 874 S4
 obtain ⟨h6,S6,c6⟩:=kL dVz 869 S5
 obtain ⟨h7,S7,c7⟩:=kL dUb 864 S6
 obtain ⟨h8,S8,c8⟩:=kL dSr 859 S7
 obtain ⟨h9,S9,c9⟩:=kL dRn 854 S8
 obtain ⟨h10,S10,c10⟩:=kL dUy 849 S9
 obtain ⟨h11,S11,c11⟩:=kL dTl 844 S10
 obtain ⟨h12,S12,c12⟩:=kL dTg 839 S11
 obtain ⟨h13,S13,c13⟩:=kL dSn 834 S12
 obtain ⟨h14,S14,c14⟩:=kL dQz 829 S13
 obtain ⟨h15,S15,c15⟩:=kL dSh 824 S14
 refine ⟨h15, ?_,S15⟩
 have e0 : dB 900 55 [.i .i64 (.ofNat 30000)] hS = aF CF R9 899 55 [.i .i64 (.ofNat 30000)] hS:=cH 55 rfl 899 _ _
 rw [e0,dHo,bGd,dHp,cGc,hpre]
 show aWf R9 899 (e 5) (e 155) (e 156) (e 157) h0 = _
 rw [p1,p2,p3,p4]
 show lH R9 899 899 _ _ _ _ h0 = _
 refine c1.trans ?_
 refine c2.trans ?_
 refine c3.trans ?_
 refine c4.trans ?_
 refine c5.trans ?_
 refine c6.trans ?_
 refine c7.trans ?_
 refine c8.trans ?_
 refine c9.trans ?_
 refine c10.trans ?_
 refine c11.trans ?_
 refine c12.trans ?_
 refine c13.trans ?_
 refine c14.trans ?_
 refine c15.trans ?_
 rw [show (824 : Nat) = 823 + 1 from rfl]
 show lK R9 899 (lH R9 899 823) _ _ _ _ h15 = _
 unfold lK
 have hl : decide (Int.ofNat 75 < Int.ofNat 75) = false:=rfl
 simp only [cO,aI,hl,bW]
 rfl
end Go.Dd

namespace Go.Dd
open Go.Proofs
def HLN : List (Pos × Ob):=pC 30000 4321 583 80 [8370,1096,6,24,42,60,78,96,114,132,150,168,186,204,222,240,258,276] [] 75
def hN : Hp:=jI 26855 HLN
def iA (l : List (Pos × Ob)) (t : Tr Ob) : Tr Ob:=List.rec (motive:=fun _=>Tr Ob) t (fun x _ ih=>Tr.set x.2 x.1 ih) l
def aPj (p : List DV → Bool) (v0 : DV) (nx0 : Nat) (HL : List (Pos × Ob)) (args : List DV) (h : Hp) : aH :=
 bif p args && nS h.next (cT 1) then some (v0,⟨cT nx0,iA HL h.bl⟩) else none
def aWl (args : List DV) : Bool:=match args with
 | [.i .i64 (.ofNat m)]=>Nat.beq m 30000
 | _=>false
def dHf : List DV → Hp → aH:=aPj aWl (.t [.p (cT 7) 0,.i .i64 (.ofNat 0)]) 26855 HLN
def aMp (n : Nat) : RT:=fun g args h=>bif Nat.beq g 55 then dHf args h else dB n g args h
def okB (r : aH) : Bool:=match r with
 | some (.b x,_)=>x
 | _=>false
def aKk : RT:=fun g args h=>bif Nat.beq g 36 then s36 (aMp 900) 900 (args.getD 0 aS) h else aMp 900 g args h
def aOz : RT:=fun g args h=>bif Nat.beq g 22 then s22 aKk 900 (args.getD 0 aS) (args.getD 1 aS) h else aKk g args h
theorem dBx : okB (s11 aOz 900 ⟨cUv 24 998,.e⟩) = true:=by kernel_rfl
end Go.Dd

namespace Go.Dd
open Go.Proofs
section
end
end Go.Dd

namespace Go.Dd
open Go.Proofs
section
end
end Go.Dd

namespace Go.Dd
open Go.Proofs
section
end
end Go.Dd

namespace Go.Dd
open Go.Proofs
section
end
end Go.Dd

namespace Go.Dd
open Go.Proofs
end Go.Dd

namespace Go.Dd
open Go.Proofs
theorem rg0 (rec : FuncId → List DV → Hp → aH) (k : K) (env : bA) (h : Hp) : gY CF0 rec 49 (fU (cL (cf Tryz.f351))) (fU (cL (cf Tryz.f351))).toList k env h = (
 bnd (dA (env 1) h) fun v1 h1 =>
 k (bO (bO env (some 3) v1) (some 4) (.i .i64 (Int.ofNat 0))) h1):=by kernel_rfl
theorem rg1 (rec : FuncId → List DV → Hp → aH) (k : K) (env : bA) (h : Hp) : gY CF0 rec 49 (fU (cL (cR (cf Tryz.f351)))) (fU (cL (cR (cf Tryz.f351)))).toList k env h = (
 bnd (aY (env 0) h) fun v1 h1 =>
 bnd (aB 0 v1 h1) fun v2 h2 =>
 bnd (aB 4 v2 h2) fun v3 h3 =>
 bnd (aA v3 h3) fun v4 h4 =>
 bnd (rec 425 [v4,(.f 426 [] [(env 3)])] h4) fun v5 h5 =>
 k (bO (bO (bO (bO (bO (bO (bO (bO env (some 6) (env 0)) (some 7) v1) (some 8) v2) (some 9) v3) (some 10) v4) (some 11) (.f 426 [] [(env 3)])) (some 12) v5) (some 5) v5) h5):=by kernel_rfl
theorem rg2 (rec : FuncId → List DV → Hp → aH) (k : K) (env : bA) (h : Hp) : gY CF0 rec 49 (fU (cL (cL (cR (cR (cf Tryz.f351)))))) (fU (cL (cL (cR (cR (cf Tryz.f351)))))).toList k env h = (
 bnd (aD .lss (env 5) (.i .i64 (Int.ofNat 0)) h) fun v1 h1 =>
 k (bO (bO env (some 13) (env 5)) (some 14) v1) h1):=by kernel_rfl
theorem rg3 (rec : FuncId → List DV → Hp → aH) (k : K) (env : bA) (h : Hp) : gY CF0 rec 49 (fU (cL (cL (cR (cL (cR (cR (cf Tryz.f351)))))))) (fU (cL (cL (cR (cL (cR (cR (cf Tryz.f351)))))))).toList k env h = (
 bnd (aY (env 0) h) fun v1 h1 =>
 bnd (aB 0 v1 h1) fun v2 h2 =>
 bnd (aB 4 v2 h2) fun v3 h3 =>
 bnd (aA v3 h3) fun v4 h4 =>
 bnd (cB v4 h4) fun v5 h5 =>
 k (bO (bO (bO (bO (bO (bO (bO env (some 15) (env 0)) (some 16) v1) (some 17) v2) (some 18) v3) (some 19) v4) (some 20) v5) (some 5) v5) h5):=by kernel_rfl
theorem rg5 (rec : FuncId → List DV → Hp → aH) (k : K) (env : bA) (h : Hp) : gY CF0 rec 49 (fU (cL (cL (cR (cR (cL (cR (cL (cR (cR (cf Tryz.f351))))))))))) (fU (cL (cL (cR (cR (cL (cR (cL (cR (cR (cf Tryz.f351))))))))))).toList k env h = (
 bnd (aY (env 0) h) fun v1 h1 =>
 bnd (aB 0 v1 h1) fun v2 h2 =>
 bnd (aB 4 v2 h2) fun v3 h3 =>
 bnd (aA v3 h3) fun v4 h4 =>
 bnd (cB v4 h4) fun v5 h5 =>
 bnd (aO [(.i .i64 (Int.ofNat 0)),(.s []),(.i .i64 (Int.ofNat 0)),.l0] 1 [(0,4,(.a [(.i .i64 (Int.ofNat 0)),(.s []),(.i .i64 (Int.ofNat 0)),.l0]))] h5) fun v6 h6 =>
 bnd (bB 4 56 v4 v6 h6) fun v7 h7 =>
 bnd (aY (env 0) h7) fun v8 h8 =>
 bnd (aB 0 v8 h8) fun v9 h9 =>
 bnd (aB 4 v9 h9) fun v10 h10 =>
 bnd (aG 1 v10 v7 h10) fun _ h11 =>
 k (bO (bO (bO (bO (bO (bO (bO (bO (bO (bO (bO env (some 23) (env 0)) (some 24) v1) (some 25) v2) (some 26) v3) (some 27) v4) (some 28) v5) (some 29) v6) (some 30) v7) (some 31) v8) (some 32) v9) (some 33) v10) h11):=by kernel_rfl
theorem rg6 (rec : FuncId → List DV → Hp → aH) (k : K) (env : bA) (h : Hp) : gY CF0 rec 49 (fU (cR (cL (cR (cR (cL (cR (cL (cR (cR (cf Tryz.f351))))))))))) (fU (cR (cL (cR (cR (cL (cR (cL (cR (cR (cf Tryz.f351))))))))))).toList k env h = (
 bnd (aK 4 (env 3) h) fun v1 h1 =>
 bnd (aE 4 (env 30) (env 28) h1) fun v2 h2 =>
 bnd (aG 4 v2 v1 h2) fun _ h3 =>
 k (bO (bO env (some 34) v1) (some 35) v2) h3):=by kernel_rfl
theorem rg7 (rec : FuncId → List DV → Hp → aH) (k : K) (env : bA) (h : Hp) : iS CF0 rec 49 (fU (cR (cR (cR (cL (cR (cL (cR (cR (cf Tryz.f351)))))))))) k env h = (
 bnd (aY (env 0) (resv 1 h)) fun v1 h1 =>
 bnd (aB 0 v1 h1) fun v2 h2 =>
 bnd (aB 4 v2 h2) fun v3 h3 =>
 bnd (aA v3 h3) fun v4 h4 =>
 bnd (aK 4 (env 3) h4) fun v5 h5 =>
 bnd (cS (cW 0 h.next) [(.i .i64 (Int.ofNat 0)),(.s []),(.i .i64 (Int.ofNat 0)),.l0] 1 [(0,4,v5)] h5) fun v6 h6 =>
 bnd (bB 4 56 v4 v6 h6) fun v7 h7 =>
 bnd (aY (env 0) h7) fun v8 h8 =>
 bnd (aB 0 v8 h8) fun v9 h9 =>
 bnd (aB 4 v9 h9) fun v10 h10 =>
 bnd (aG 1 v10 v7 h10) fun v11 h11 =>
 k (bO (bO (bO (bO (bO (bO (bO (bO (bO (bO (bO (bO env (some 36) (env 0)) (some 37) (env 0)) (some 38) v1) (some 39) v2) (some 40) v3) (some 41) v4) (some 42) v5) (some 43) v6) (some 44) v7) (some 45) v8) (some 46) v9) (some 47) v10) h11):=by kernel_rfl
theorem rg8 (rec : FuncId → List DV → Hp → aH) (k : K) (env : bA) (h : Hp) : gY CF0 rec 49 (fU (cL (cR (cR (cR (cf Tryz.f351)))))) (fU (cL (cR (cR (cR (cf Tryz.f351)))))).toList k env h = (
 k (bO (bO env (some 48) (env 5)) (some 4) (env 5)) h):=by kernel_rfl
end Go.Dd

namespace Go.Dd
open Go.Proofs
theorem HR.sub {G : Gd} {ρ : Ren} {h h' : Hp} {w : World} (S : Sim true h h') (H : HR G ρ h' w) : HR G ρ h w:=by
 have hg : ∀ b o,h.bl.get b = some o → h'.bl.get b = some o:=fun b o hb=>by
  obtain ⟨o',h1,h2⟩:=S.get b o hb
  rw [h1,lA h2]
 have hc : ∀ b a,Claims ρ h b a → Claims ρ h' b a:=fun b a ⟨k,l,L,h1,h2,h3⟩=>⟨k,l,L,hg _ _ h1,h2,h3⟩
 have hro : ∀ b a,Claims ρ h b a → ¬ isRo h b → ¬ isRo h' b:=fun b a ⟨k,l,L,h1,h2,h3⟩ hn ⟨l',hl⟩=>by
  rw [hg _ _ h1] at hl
  simp only [aU,Ob.row.injEq] at hl
  exact hn ⟨l,by rw [h1,hl.1]⟩
 exact ⟨H.gl,H.sz,by rw [← S.next]; exact H.nx,fun b a h1 ⟨l,h2⟩=>H.ro b a (hc b a h1) ⟨l,hg _ _ h2⟩,fun b o hb=>H.dom b o (hg b o hb),fun b L hb=>by rw [← S.next]; exact H.lt b L hb,
  fun b k l L i v h1=>H.cell b k l L i v (hg _ _ h1),fun b l L es j h1=>H.spare b l L es j (hg _ _ h1),fun b a h1 h2=>H.free b a (hc b a h1) (hro b a h1 h2),
  fun b b' a h1 h2 h3=>H.inj b b' a (hc b a h1) (hc b' a h2) (hro b a h1 h3),
  fun b l L h1=>H.ex b l L (h1.elim (fun q=>.inl (hg _ _ q)) (fun q=>.inr (hg _ _ q))),fun b es l i v h1=>H.grone b es l i v (hg _ _ h1),
  fun b o L h1 h2=>H.itr b o L h1 (hg _ _ h2),fun b o b' o' L L' h1 h2 h3 h4=>H.itj b o b' o' L L' h1 h2 (hg _ _ h3) (hg _ _ h4)⟩
theorem uC : ∀ p : Pos,nS p p = true
 | .h=>rfl
 | .o p=>uC p
 | .i p=>uC p
theorem aZa {p q : Pos} (h : nS p q = false) : p ≠ q:=fun e=>by subst e; rw [uC] at h; cases h
open Classical in
def kk (N : bA → Hp → Prop) : K:=fun env h=>if N env h then some (aS,h) else none
theorem vF {N : bA → Hp → Prop} {env : bA} {h : Hp} (hn : N env h) : ∃ r,kk N env h = some r:=⟨_,if_pos hn⟩
theorem cSp {N : bA → Hp → Prop} {env : bA} {h : Hp} {r} (hn : kk N env h = some r) : N env h:=by
 unfold kk at hn
 split at hn
 ·assumption
 ·cases hn
section
variable {C : Cfg} {rec : FuncId → List DV → Hp → aH} {nt : Nat} {X : Nat → bA → Hp → Prop} {R N : bA → Hp → Prop} {env : bA} {h : Hp}
theorem wpS {a b : Code} (H : uK C rec nt a X R (uK C rec nt b X R N) env h) : uK C rec nt (.seq a b) X R N env h:=H
theorem aSg {id : Nat} {ops : Array Oper} (H : ∃ r,gY C rec nt ops ops.toList (kk fun e h=>pV h → N e h) env h = some r) : uK C rec nt (.region id ops false) X R N env h:=by
 obtain ⟨r,hr⟩:=H
 obtain ⟨env',h',h1,h2⟩:=oE _ _ _ _ _ hr
 simp only [uK,Bool.false_eq_true,if_false]
 exact ⟨env',h',h1,cSp h2⟩
theorem dXj {id : Nat} {ops : Array Oper} (hd : fC C.P ops = true) (H : ∃ r,iS C rec nt ops (kk fun e h=>pV h → N e h) env h = some r) : uK C rec nt (.region id ops true) X R N env h:=by
 obtain ⟨r,hr⟩:=H
 simp only [uK,if_true]
 exact .inr ⟨hd,_,r,hr,fun env' h' h1 h2=>cSp h1 h2⟩
theorem dVq {id : Nat} {ops : Array Oper} (H : aNc C rec nt ops (fun e h=>pV h → N e h) ops.size (Array.replicate ops.size false) env h) : uK C rec nt (.region id ops true) X R N env h:=by
 simp only [uK,if_true]
 exact .inl H
theorem wpC {c : Operand} {a b : Code} {t : Bool} (hc : opr env c = .b t) (H : (t = true → uK C rec nt a X R N env h) ∧ (t = false → uK C rec nt b X R N env h)) : uK C rec nt (.cond c a b) X R N env h:=by
 cases t with
 | true=>exact .inl ⟨hc,H.1 rfl⟩
 | false=>exact .inr ⟨hc,H.2 rfl⟩
end
def dQw : Code:=cL (cR (cL (cR (cL (cR (cR (cf Tryz.f351)))))))
def R4 : Array Oper:=fU dQw
theorem dQg : cf Tryz.f351 = .seq (.region 0 (fU (cL (cf Tryz.f351))) false) (.seq (.region 1 (fU (cL (cR (cf Tryz.f351)))) false) (.seq (.seq (.region 2 (fU (cL (cL (cR (cR (cf Tryz.f351)))))) false)
 (.cond (.tmp 14) (.seq (.region 3 (fU (cL (cL (cR (cL (cR (cR (cf Tryz.f351)))))))) false) (.seq (.region 4 R4 true) (.cond (.tmp 22)
  (.seq (.region 5 (fU (cL (cL (cR (cR (cL (cR (cL (cR (cR (cf Tryz.f351))))))))))) false) (.region 6 (fU (cR (cL (cR (cR (cL (cR (cL (cR (cR (cf Tryz.f351))))))))))) false))
  (.region 7 (fU (cR (cR (cR (cL (cR (cL (cR (cR (cf Tryz.f351)))))))))) true)))) .skip)) (.seq (.region 8 (fU (cL (cR (cR (cR (cf Tryz.f351)))))) false) .ret))):=by kernel_rfl
def o4 (i : Nat) : Oper:=(R4.toList[i]?).getD (Oper.mk none (.move (.tmp 0)) 0 "" #[] none)
theorem dUs : R4[0]? = some (o4 0):=by kernel_rfl
theorem dMd : R4[1]? = some (o4 1):=by kernel_rfl
theorem dLc : R4[2]? = some (o4 2):=by kernel_rfl
theorem dTh : R4[3]? = some (o4 3):=by kernel_rfl
theorem dUd (rec : FuncId → List DV → Hp → aH) (env : bA) (h : Hp) : bL CF0 rec R4 (o4 0) env h = bY [.b false] h:=by kernel_rfl
theorem dPb (rec : FuncId → List DV → Hp → aH) (env : bA) (h : Hp) : bL CF0 rec R4 (o4 1) env h = aG 1 (env 21) (.b true) h:=by kernel_rfl
theorem dOi (rec : FuncId → List DV → Hp → aH) (env : bA) (h : Hp) : bL CF0 rec R4 (o4 2) env h = aG 1 (env 21) (.b false) h:=by kernel_rfl
theorem dXs (rec : FuncId → List DV → Hp → aH) (env : bA) (h : Hp) : bL CF0 rec R4 (o4 3) env h = aA (env 21) h:=by kernel_rfl
theorem dLx : (o4 0).dst = some 21:=by kernel_rfl
theorem cJb : (o4 1).dst = none:=by kernel_rfl
theorem cFm : (o4 2).dst = none:=by kernel_rfl
theorem dNj : (o4 3).dst = some 22:=by kernel_rfl
theorem z4 : Array.replicate R4.size false = #[false,false,false,false]:=by kernel_rfl
theorem y4 : R4.size = 4:=by kernel_rfl
theorem dRi : Region.ready .any R4 #[false,false,false,false] = [0]:=by kernel_rfl
theorem dJz : Region.ready .any R4 #[true,false,false,false] = [1,2]:=by kernel_rfl
theorem dWx : Region.ready .any R4 #[true,true,false,false] = [2]:=by kernel_rfl
theorem dTe : Region.ready .any R4 #[true,false,true,false] = [1]:=by kernel_rfl
theorem dRh : Region.ready .any R4 #[true,true,true,false] = [3]:=by kernel_rfl
theorem dUe : Region.ready .any R4 #[true,true,true,true] = []:=by kernel_rfl
theorem dUh : (#[false,false,false,false] : Array Bool).setIfInBounds 0 true = #[true,false,false,false]:=by kernel_rfl
theorem dQy : (#[true,false,false,false] : Array Bool).setIfInBounds 1 true = #[true,true,false,false]:=by kernel_rfl
theorem dSg : (#[true,false,false,false] : Array Bool).setIfInBounds 2 true = #[true,false,true,false]:=by kernel_rfl
theorem dRm : (#[true,true,false,false] : Array Bool).setIfInBounds 2 true = #[true,true,true,false]:=by kernel_rfl
theorem dRs : (#[true,false,true,false] : Array Bool).setIfInBounds 1 true = #[true,true,true,false]:=by kernel_rfl
theorem dTv : (#[true,true,true,false] : Array Bool).setIfInBounds 3 true = #[true,true,true,true]:=by kernel_rfl
theorem cEp {C : Cfg} {rec : FuncId → List DV → Hp → aH} {nt f i : Nat} {ops : Array Oper} {kV : bA → Hp → Prop} {listed l' : Array Bool} {env : bA} {h h' : Hp} {o : Oper} {v : DV} (hr : Region.ready .any ops listed = [i])
  (ho : ops[i]? = some o) (hf : dK nt o.dst = true) (hs : bL C rec ops o env h = some (v,h')) (hl : listed.setIfInBounds i true = l') (hn : aNc C rec nt ops kV f l' (bO env o.dst v) h') : aNc C rec nt ops kV (f + 1) listed env h:=by
 refine ⟨fun e => ?_,fun j hj => ?_⟩
 ·rw [hr] at e; cases e
 ·rw [hr] at hj
  simp only [List.mem_singleton] at hj
  subst hj
  exact ⟨o,v,h',ho,hf,hs,by rw [hl]; exact hn⟩
structure After (h h' : Hp) : Prop where
 next : h'.next = h.next.succ
 get : ∀ b,b ≠ h.next → h'.bl.get b = h.bl.get b
theorem dXa {rec : FuncId → List DV → Hp → aH} {kV : bA → Hp → Prop} {env : bA} {h : Hp} (H : ∀ x h',After h h' → kV (bO (bO env (some 21) (.p h.next 0)) (some 22) (.b x)) h') :
  aNc CF0 rec 49 R4 kV R4.size (Array.replicate R4.size false) env h:=by
 rw [z4,y4]
 have st : ∀ (n : Pos) (bl : Tr Ob) (x y : Bool),bl.get h.next = some (.row .ex [.b y]) → aG 1 (.p h.next 0) (.b x) ⟨n,bl⟩ = some (aS,⟨n,Tr.set (.row .ex [.b x]) h.next bl⟩):=fun n bl x y e=>by
  simp only [aG,dD,cE,e,Kind.writable,List.length_singleton,if_true,fR,jS,DV.one,Bool.and_self,Option.map_some]
 have ld : ∀ (n : Pos) (bl : Tr Ob) (x : Bool),bl.get h.next = some (.row .ex [.b x]) → aA (.p h.next 0) ⟨n,bl⟩ = some (.b x,⟨n,bl⟩):=fun n bl x e=>by
  simp only [aA,cellD,rowOf,e,List.getElem?_cons_zero,DV.one,if_true]
 have g0 : ∀ (t : Tr Ob) (x : Bool),(Tr.set (.row .ex [.b x]) h.next t).get h.next = some (.row .ex [.b x]):=fun t x=>dXv _ _ _
 have go : ∀ (t : Tr Ob) (x : Bool) (b : Pos),b ≠ h.next → (Tr.set (.row .ex [.b x]) h.next t).get b = t.get b:=fun t x b e=>dXu _ _ _ _ e
 have fin : ∀ (t : Tr Ob) (x : Bool),(∀ b,b ≠ h.next → t.get b = h.bl.get b) → t.get h.next = some (.row .ex [.b x]) →
   aNc CF0 rec 49 R4 kV 1 #[true,true,true,false] (bO env (some 21) (.p h.next 0)) ⟨h.next.succ,t⟩:=fun t x e1 e2=>by
  refine cEp dRh dTh (by rw [dNj]; rfl) ((dXs _ _ _).trans (ld _ _ x e2)) dTv ?_
  rw [dNj]
  exact ⟨dUe,H x _ ⟨rfl,e1⟩⟩
 refine cEp dRi dUs (by rw [dLx]; rfl) (dUd _ _ _) dUh ?_
 rw [dLx]
 refine ⟨fun e=>(by rw [dJz] at e; cases e),fun j hj => ?_⟩
 rw [dJz] at hj
 simp only [List.mem_cons,List.not_mem_nil,or_false] at hj
 rcases hj with rfl | rfl
 ·refine ⟨_,_,_,dMd,by rw [cJb]; rfl,(dPb _ _ _).trans (st _ _ true false (g0 _ _)), ?_⟩
  rw [dQy,cJb]
  refine cEp dWx dLc (by rw [cFm]; rfl) ((dOi _ _ _).trans (st _ _ false true (g0 _ _))) dRm ?_
  rw [cFm]
  exact fin _ false (fun b e=>by rw [go _ _ _ e,go _ _ _ e,go _ _ _ e]) (g0 _ _)
 ·refine ⟨_,_,_,dLc,by rw [cFm]; rfl,(dOi _ _ _).trans (st _ _ false false (g0 _ _)), ?_⟩
  rw [dSg,cFm]
  refine cEp dTe dMd (by rw [cJb]; rfl) ((dPb _ _ _).trans (st _ _ true false (g0 _ _))) dRs ?_
  rw [cJb]
  exact fin _ true (fun b e=>by rw [go _ _ _ e,go _ _ _ e,go _ _ _ e]) (g0 _ _)
end Go.Dd

namespace Go.Dd
open Go.Proofs
theorem bLk {h h' g : Hp} {x v : DV} (hg : ∀ b o,h.bl.get b = some o → h'.bl.get b = some o) (e : aA x h = some (v,g)) : aA x h' = some (v,h'):=by
 have S : Sim true ⟨h'.next,h.bl⟩ h':=⟨rfl,fun b o hb=>⟨o,hg b o hb,mD o⟩⟩
 have e' : aA x ⟨h'.next,h.bl⟩ = some (v,⟨h'.next,h.bl⟩):=by
  unfold aA at e ⊢
  split at e <;> (try (cases e; done))
  rename_i b o
  change (match cellD b o ⟨h'.next,h.bl⟩ with
   | some v=>some (v,(⟨h'.next,h.bl⟩ : Hp))
   | none=>none) = _
  change (match cellD b o ⟨h'.next,h.bl⟩ with
   | some v=>some (v,h)
   | none=>none) = _ at e
  split at e <;> (try (cases e; done))
  rename_i u hu
  simp only [aU,bG] at e
  rw [e.1]
 obtain ⟨k,e1,e2⟩:=lT x _ _ S v _ e'
 obtain ⟨rfl,_⟩:=(show k = h' ∧ True by
  unfold aA at e1
  split at e1 <;> (try (cases e1; done))
  split at e1 <;> (try (cases e1; done))
  simp only [aU,bG] at e1
  exact ⟨e1.2.symm,trivial⟩)
 exact e1
theorem bXs {h h' g : Hp} {n : Nat} {x v : DV} (hg : ∀ b o,h.bl.get b = some o → h'.bl.get b = some o) (e : aK n x h = some (v,g)) : aK n x h' = some (v,h'):=by
 have S : Sim true ⟨h'.next,h.bl⟩ h':=⟨rfl,fun b o hb=>⟨o,hg b o hb,mD o⟩⟩
 have e' : aK n x ⟨h'.next,h.bl⟩ = some (v,⟨h'.next,h.bl⟩):=by
  unfold aK at e ⊢
  split at e <;> (try (cases e; done))
  rename_i b o
  change (match cellsAt b o n ⟨h'.next,h.bl⟩ with
   | some v=>some (DV.a v,(⟨h'.next,h.bl⟩ : Hp))
   | none=>none) = _
  change (match cellsAt b o n ⟨h'.next,h.bl⟩ with
   | some v=>some (DV.a v,h)
   | none=>none) = _ at e
  split at e <;> (try (cases e; done))
  rename_i u hu
  simp only [aU,bG] at e
  rw [← e.1]
 obtain ⟨k,e1,e2⟩:=lP n x _ _ S v _ e'
 obtain ⟨rfl,_⟩:=(show k = h' ∧ True by
  unfold aK at e1
  split at e1 <;> (try (cases e1; done))
  split at e1 <;> (try (cases e1; done))
  simp only [aU,bG] at e1
  exact ⟨e1.2.symm,trivial⟩)
 exact e1
theorem bZw {q : Pos} {l1 v : DV} {cs : List DV} {h k : Hp} (e : kR q l1 cs h = some (v,k)) : ∃ (n : Nat) (old : List DV) (t : Tr Ob),v = .l h.next 0 (n + 1) (n + 1) ∧ (∀ g,cB l1 g = some (.i .i64 (n : Int),g)) ∧
  old.length = n * 4 ∧ (∀ v ∈ old,v.one = true) ∧ k = ⟨h.next.succ,Tr.set (.row (.gr 4) (old ++ cs)) h.next t⟩ ∧ t.get q = h.bl.get q ∧ (∀ b,t.get b ≠ none → h.bl.get b ≠ none) ∧
  ∀ zs,kR q l1 zs h = some (v,⟨h.next.succ,Tr.set (.row (.gr 4) (old ++ zs)) h.next t⟩):=by
 unfold kR at e
 split at e <;> (try (cases e; done))
 ·simp only [aU,bG] at e
  obtain ⟨rfl,rfl⟩:=e
  exact ⟨0,[],h.bl,rfl,fun g=>rfl,rfl,by simp,rfl,rfl,fun b hb=>hb,fun zs=>rfl⟩
 ·rename_i b o len cap
  cases hc : (Nat.ble cap len && !(nS b q)) with
  | false=>rw [hc] at e; cases e
  | true =>
   rw [hc] at e
   simp only [cnd] at e
   split at e <;> (try (cases e; done))
   rename_i es l old hb hold
   split at e <;> (try (cases e; done))
   rename_i hr
   simp only [aU,bG] at e
   obtain ⟨rfl,rfl⟩:=e
   have hq : q ≠ b:=by
    simp only [Bool.and_eq_true,Bool.not_eq_true'] at hc
    exact Ne.symm (aZa hc.2)
   have hl : old.length = len * 4 ∧ ∀ v ∈ old,v.one = true:=by
    unfold cellsAt at hold
    split at hold <;> (try (cases hold; done))
    obtain ⟨h1,_,_,h4⟩:=mP _ _ _ hold
    exact ⟨h1,h4⟩
   refine ⟨len,old,Tr.set (.row .sp (bR o l)) b h.bl,rfl,fun g=>rfl,hl.1,hl.2,rfl,dXu _ _ _ _ hq,fun x hx => ?_,fun zs => ?_⟩
   ·by_cases e : x = b
    ·rw [e,hb]; simp
    ·rwa [dXu _ _ _ _ e] at hx
   ·unfold kR
    dsimp only
    rw [hc]
    simp only [cnd,hb,hold,if_pos hr]
theorem bDd {q : Pos} {l1 x v : DV} {cs : List DV} {h h' k : Hp} (S : Sim true h h') (hx : lM 4 x h' = some (1,cs)) (e : kR q l1 cs h = some (v,k)) : ∃ k',bB 4 56 l1 x h' = some (v,k') ∧ Sim true k k':=by
 unfold kR at e
 split at e <;> (try (cases e; done))
 ·simp only [aU,bG] at e
  obtain ⟨rfl,rfl⟩:=e
  refine ⟨⟨h'.next.succ,Tr.set (.row (.gr 4) cs) h'.next h'.bl⟩, ?_, ?_⟩
  ·unfold bB
   rw [hx]
   dsimp only
   rw [if_neg (by simp),if_pos (by decide),S.next]
  ·rw [S.next]; exact S.setR _ _ _ _
 ·rename_i b o len cap
  cases hc : (Nat.ble cap len && !(nS b q)) with
  | false=>rw [hc] at e; cases e
  | true =>
   rw [hc] at e
   simp only [cnd] at e
   split at e <;> (try (cases e; done))
   rename_i es l old hb hold
   split at e <;> (try (cases e; done))
   rename_i hr
   simp only [aU,bG] at e
   obtain ⟨rfl,rfl⟩:=e
   have hle : cap ≤ len:=by
    simp only [Bool.and_eq_true] at hc
    exact Nat.le_of_ble_eq_true hc.1
   refine ⟨⟨h'.next.succ,Tr.set (.row (.gr 4) (old ++ cs)) h'.next (Tr.set (.row .sp (bR o l)) b h'.bl)⟩, ?_, ?_⟩
   ·unfold bB
    rw [hx]
    dsimp only
    rw [if_neg (by omega),S.row hb,S.cellsAt hold]
    dsimp only
    rw [if_pos hr.2.2,if_pos ⟨hr.1,hr.2.1⟩,S.next]
   ·rw [S.next]
    exact (S.setR .sp (bR o l) b h.next).setR _ _ _ _
theorem aZd : ∀ (old zs cs : List DV),zs.length = cs.length → (∀ v ∈ zs,v.one = true) → (∀ v ∈ cs,v.one = true) → fR old.length (old ++ zs) cs = some (old ++ cs)
 | [],zs,cs,hl,hz,hc=>by
  show jS zs cs = some cs
  induction cs generalizing zs with
  | nil=>cases zs with
   | nil=>rfl
   | cons z zs=>simp at hl
  | cons c cs ih=>cases zs with
   | nil=>simp at hl
   | cons z zs =>
    simp only [jS,hz z (by simp),hc c (by simp),Bool.and_self,if_true]
    rw [ih zs (by simpa using hl) (fun v hv=>hz v (by simp [hv])) (fun v hv=>hc v (by simp [hv]))]
    rfl
 | x :: old,zs,cs,hl,hz,hc=>by
  show (fR old.length (old ++ zs) cs).map (x :: ·) = _
  rw [aZd old zs cs hl hz hc]
  rfl
end Go.Dd

namespace Go.Dd
open Go.Proofs
theorem bFh : (Tryz.prog.funcs.toList.all fun fn => !(fn.name == "runtime.NumGoroutine")) = true:=by kernel_rfl
theorem Try_ok : POk Tryz.prog where
 mixed:=by kernel_rfl
 names:=by
  intro f fn hf
  have h:=List.all_eq_true.1 bFh fn (by
   obtain ⟨hlt,rfl⟩:=Array.getElem?_eq_some_iff.1 hf
   simp)
  simpa using h
theorem KC0 : OkC CF0 (mS CF0 60):=⟨fun G g F h=>(by cases h),fun G g=>aEd (C:=CF0) Try_ok (fun G g F h=>(by cases h)) 60 G g⟩
theorem dBz (e : bA) (h : Hp) : aR CF0 Tryz.f351 e h = some (e 4,h):=by kernel_rfl
theorem dLm : Tryz.f351.ntmps = 49:=by kernel_rfl
theorem dLr : Tryz.prog.funcs[351]? = some Tryz.f351:=by kernel_rfl
theorem cGq : Tryz.f351.body = some (cf Tryz.f351):=by kernel_rfl
theorem dOx : fC CF0.P (fU (cR (cR (cR (cL (cR (cL (cR (cR (cf Tryz.f351)))))))))) = true:=by kernel_rfl
theorem bBt {X : Nat → bA → Hp → Prop} {N : bA → Hp → Prop} {env : bA} {v : DV} {h h1 : Hp} (he : env 5 = v) (S : Sim true h1 h) :
  uK CF0 (mS CF0 60) 49 (.seq (.region 8 (fU (cL (cR (cR (cR (cf Tryz.f351)))))) false) .ret) X (fun env h'=>∃ h2,aR CF0 Tryz.f351 env h' = some (v,h2) ∧ Le h2 h1) N env h:=by
 refine wpS (aSg ?_)
 rw [rg8]
 refine vF fun _ => ?_
 exact ⟨h,(dBz _ _).trans (by rw [show (bO (bO env (some 48) (env 5)) (some 4) (env 5)) 4 = env 5 from rfl,he]),fun G ρ w H=>H.sub S⟩
theorem aBe {F : Hp → aH} (hF : PureP F) {h g : Hp} {v : DV} (e : F h = some (v,g)) : g = h ∧ ∀ h',F h' = some (v,h'):=hF h v g e
theorem tC {h g : Hp} {c : Pos} {o : Nat} {v : DV} (e : aA (.p c o) h = some (v,g)) : g = h ∧ ∃ u,h.bl.get c = some u:=by
 change (match cellD c o h with
  | some v=>some (v,h)
  | none=>none) = _ at e
 split at e <;> (try (cases e; done))
 rename_i u hu
 simp only [aU,bG] at e
 refine ⟨e.2.symm, ?_⟩
 unfold cellD rowOf at hu
 cases hc : h.bl.get c with
 | none=>rw [hc] at hu; cases hu
 | some u=>exact ⟨u,rfl⟩
theorem tK {h g : Hp} {c : Pos} {o n : Nat} {v : DV} (e : aK n (.p c o) h = some (v,g)) : g = h ∧ (∃ u,h.bl.get c = some u) ∧ ∃ cs,v = .a cs ∧ cs.length = n ∧ ∀ x ∈ cs,x.one = true:=by
 change (match cellsAt c o n h with
  | some cs=>some (DV.a cs,h)
  | none=>none) = _ at e
 split at e <;> (try (cases e; done))
 rename_i u hu
 simp only [aU,bG] at e
 refine ⟨e.2.symm, ?_⟩
 unfold cellsAt rowOf at hu
 cases hc : h.bl.get c with
 | none=>rw [hc] at hu; cases hu
 | some ob =>
  refine ⟨⟨ob,rfl⟩,u,e.1.symm, ?_⟩
  rw [hc] at hu
  split at hu <;> (try (cases hu; done))
  obtain ⟨h1,_,_,h4⟩:=mP _ _ _ hu
  exact ⟨h1,h4⟩
theorem Sim.of_get {h h' : Hp} (e : h'.next = h.next) (g : ∀ b o,h.bl.get b = some o → h'.bl.get b = some o) : Sim true h h':=⟨e,fun b o hb=>⟨o,g b o hb,mD o⟩⟩
theorem bKv (c : Pos) (h : Hp) : aY (.p c 0) h = some (.p c 0,h):=rfl
theorem dDn (c : Pos) (h : Hp) : aB 0 (.p c 0) h = some (.p c 0,h):=rfl
theorem dGa (c : Pos) (h : Hp) : aB 4 (.p c 0) h = some (.p c 4,h):=rfl
theorem aNh (env : bA) (i : Nat) (v : DV) (j : Nat) (h : Nat.beq j i = false) : bO env (some i) v j = env j:=by
 show (bif Nat.beq j i then v else env j) = _
 rw [h]; rfl
theorem bRz (env : bA) (i : Nat) (v : DV) : bO env (some i) v i = v:=by
 show (bif Nat.beq i i then v else env i) = _
 rw [Nat.beq_refl]; rfl
theorem mG : ∀ cs : List DV,(∀ v ∈ cs,v.one = true) → jJ cs.length cs = some cs
 | [],_=>rfl
 | c :: cs,h=>by
  show (if c.one then (jJ cs.length cs).map (c :: ·) else none) = _
  rw [if_pos (h c (by simp)),mG cs fun v hv=>h v (by simp [hv])]
  rfl
theorem aZc {cs : List DV} (h4 : cs.length = 4) (ho : ∀ v ∈ cs,v.one = true) (p n : Pos) (t : Tr Ob) : lM 4 (.l p 0 1 1) ⟨n,Tr.set (.row .ex cs) p t⟩ = some (1,cs):=by
 have e : cellsAt p 0 (1 * 4) ⟨n,Tr.set (.row .ex cs) p t⟩ = some cs:=by
  unfold cellsAt rowOf
  simp only [dXv,List.drop_zero]
  rw [show 1 * 4 = cs.length by rw [h4]]
  exact mG cs ho
 simp only [lM,e]
theorem bOf {h h' : Hp} {n o : Nat} {q : Pos} {v : DV} (hg : h'.bl.get q = h.bl.get q) (e : aK n (.p q o) h = some (v,h)) : aK n (.p q o) h' = some (v,h'):=by
 have e1 : cellsAt q o n h' = cellsAt q o n h:=by
  unfold cellsAt rowOf
  rw [hg]
 change (match cellsAt q o n h with
  | some cs=>some (DV.a cs,h)
  | none=>none) = _ at e
 show (match cellsAt q o n h' with
  | some cs=>some (DV.a cs,h')
  | none=>none) = _
 rw [e1]
 split at e <;> (try (cases e; done))
 simp only [aU,bG] at e
 rw [e.1]
structure Way (g3 h5 : Hp) (c q : Pos) (l1 l2 n u : DV) (cs : List DV) (k3 k4 : Hp) (env : bA) : Prop where
 fr : pV g3
 af : After g3 h5
 hl : aA (.p c 4) g3 = some (l1,g3)
 hx : aK 4 (.p q 0) g3 = some (.a cs,g3)
 ne : c ≠ q
 hn : cB l1 g3 = some (n,g3)
 ap : kR q l1 cs ⟨g3.next.succ.succ,g3.bl⟩ = some (l2,k3)
 st : aG 1 (.p c 4) l2 k3 = some (u,k4)
 e0 : env 0 = .p c 0
 e3 : env 3 = .p q 0
 e5 : env 5 = n
section
theorem Way.up {g3 h5 : Hp} {c q : Pos} {l1 l2 n u : DV} {cs : List DV} {k3 k4 : Hp} {env : bA} (W : Way g3 h5 c q l1 l2 n u cs k3 k4 env) : ∀ b o,g3.bl.get b = some o → h5.bl.get b = some o:=fun b o hb=>by
 rw [W.af.get b (fun e => ?_)]
 ·exact hb
 ·subst e; exact Nat.lt_irrefl _ (W.fr _ _ hb)
theorem Way.c5 {g3 h5 : Hp} {c q : Pos} {l1 l2 n u : DV} {cs : List DV} {k3 k4 : Hp} {env : bA} (W : Way g3 h5 c q l1 l2 n u cs k3 k4 env) (n' : Pos) : aA (.p c 4) ⟨n',h5.bl⟩ = some (l1,⟨n',h5.bl⟩):=bLk W.up W.hl
theorem Way.q5 {g3 h5 : Hp} {c q : Pos} {l1 l2 n u : DV} {cs : List DV} {k3 k4 : Hp} {env : bA} (W : Way g3 h5 c q l1 l2 n u cs k3 k4 env) (n' : Pos) : aK 4 (.p q 0) ⟨n',h5.bl⟩ = some (.a cs,⟨n',h5.bl⟩):=bXs W.up W.hx
theorem Way.len {g3 h5 : Hp} {c q : Pos} {l1 l2 n u : DV} {cs : List DV} {k3 k4 : Hp} {env : bA} (W : Way g3 h5 c q l1 l2 n u cs k3 k4 env) (h : Hp) : cB l1 h = some (n,h):=(aBe (nX l1) W.hn).2 h
theorem Way.base {g3 h5 : Hp} {c q : Pos} {l1 l2 n u : DV} {cs : List DV} {k3 k4 : Hp} {env : bA} (W : Way g3 h5 c q l1 l2 n u cs k3 k4 env) (o : Ob) : Sim true ⟨g3.next.succ.succ,g3.bl⟩ ⟨h5.next.succ,Tr.set o h5.next h5.bl⟩:=Sim.of_get (by rw [W.af.next]) fun b ob hb=>by
 show (Tr.set o h5.next h5.bl).get b = _
 rw [dXu,W.up b ob hb]
 intro e
 have h1:=W.fr b ob hb
 have s1:=dXw g3.next
 rw [e,W.af.next] at h1
 omega
theorem Way.app {g3 h5 : Hp} {c q : Pos} {l1 l2 n u : DV} {cs : List DV} {k3 k4 : Hp} {env : bA} (W : Way g3 h5 c q l1 l2 n u cs k3 k4 env) {hh : Hp} (S : Sim true ⟨g3.next.succ.succ,g3.bl⟩ hh) {y : DV} (hy : lM 4 y hh = some (1,cs)) : ∃ k',bB 4 56 l1 y hh = some (l2,k') ∧ ∃ k'',aG 1 (.p c 4) l2 k' = some (u,k'') ∧ Sim true k4 k'':=by
 obtain ⟨k',h1,h2⟩:=bDd S hy W.ap
 obtain ⟨k'',h3,h4⟩:=mI 1 _ _ _ _ h2 _ _ W.st
 exact ⟨k',h1,k'',h3,h4⟩
theorem Way.one {g3 h5 : Hp} {c q : Pos} {l1 l2 n u : DV} {cs : List DV} {k3 k4 : Hp} {env : bA} (W : Way g3 h5 c q l1 l2 n u cs k3 k4 env) : cs.length = 4 ∧ ∀ v ∈ cs,v.one = true:=by
 obtain ⟨_,_,cs',e,h1,h2⟩:=tK W.hx
 cases e
 exact ⟨h1,h2⟩
theorem Way.B {g3 h5 : Hp} {c q : Pos} {l1 l2 n u : DV} {cs : List DV} {k3 k4 : Hp} {env : bA} (W : Way g3 h5 c q l1 l2 n u cs k3 k4 env) {X : Nat → bA → Hp → Prop} {R N : bA → Hp → Prop} (hN : ∀ env' h',env' 5 = n → Sim true k4 h' → N env' h') : uK CF0 (mS CF0 60) 49 (.region 7 (fU (cR (cR (cR (cL (cR (cL (cR (cR (cf Tryz.f351)))))))))) true) X R N env h5:=by
 obtain ⟨k',h1,k'',h2,h3⟩:=W.app (W.base (.row .ex cs)) (aZc W.one.1 W.one.2 h5.next h5.next.succ h5.bl)
 have fl : cS (cW 0 h5.next) [(.i .i64 (Int.ofNat 0)),(.s []),(.i .i64 (Int.ofNat 0)),.l0] 1 [(0,4,.a cs)] ⟨h5.next.succ,h5.bl⟩ = some (.l h5.next 0 1 1,⟨h5.next.succ,Tr.set (.row .ex cs) h5.next h5.bl⟩):=by
  simp only [cS,jV,dD,W.one.1]
  simp [cW]
 refine dXj dOx ?_
 rw [rg7]
 simp only [W.e0,W.e3,bKv,aI,dDn,dGa,show resv 1 h5 = ⟨h5.next.succ,h5.bl⟩ from rfl,W.c5,W.q5,fl,h1,h2]
 refine vF fun _=>hN _ _ ?_ h3
 simp only [aNh,Nat.beq]
 exact W.e5
theorem Way.A {g3 h5 : Hp} {c q : Pos} {l1 l2 n u : DV} {cs : List DV} {k3 k4 : Hp} {env : bA} (W : Way g3 h5 c q l1 l2 n u cs k3 k4 env) {X : Nat → bA → Hp → Prop} {R N : bA → Hp → Prop} (hN : ∀ env' h',env' 5 = n → Sim true k4 h' → N env' h') : uK CF0 (mS CF0 60) 49 (.seq (.region 5 (fU (cL (cL (cR (cR (cL (cR (cL (cR (cR (cf Tryz.f351))))))))))) false)
  (.region 6 (fU (cR (cL (cR (cR (cL (cR (cL (cR (cR (cf Tryz.f351))))))))))) false)) X R N env h5:=by
 obtain ⟨m,old,t,hl2,hm,hol,hoo,hk3,htq,htd,hz⟩:=bZw W.ap
 have hzz:=hz [.i .i64 (Int.ofNat 0),.s [],.i .i64 (Int.ofNat 0),.l0]
 have hn : n = .i .i64 (m : Int):=by
  have e1:=W.len g3
  rw [hm] at e1
  simp only [aU,bG,and_true] at e1
  exact e1.symm
 dsimp only at hl2 hk3 htq htd hzz
 obtain ⟨_,uc,huc⟩:=tC W.hl
 have hcs : c ≠ g3.next.succ.succ:=fun e=>by
  have h1:=W.fr _ _ huc
  have s1:=dXw g3.next
  have s2:=dXw g3.next.succ
  rw [e] at h1
  omega
 obtain ⟨_,⟨uq,huq⟩,_⟩:=tK W.hx
 have hqs : q ≠ g3.next.succ.succ:=fun e=>by
  have h1:=W.fr _ _ huq
  have s1:=dXw g3.next
  have s2:=dXw g3.next.succ
  rw [e] at h1
  omega
 have hst:=W.st
 rw [hk3] at hst
 have hst2 : ∃ kd l l',t.get c = some (.row kd l) ∧ k4 = ⟨g3.next.succ.succ.succ,Tr.set (.row kd l') c (Tr.set (.row (.gr 4) (old ++ cs)) g3.next.succ.succ t)⟩ ∧
   ∀ zs,aG 1 (.p c 4) l2 ⟨g3.next.succ.succ.succ,Tr.set (.row (.gr 4) zs) g3.next.succ.succ t⟩ = some (u,⟨g3.next.succ.succ.succ,Tr.set (.row kd l') c (Tr.set (.row (.gr 4) zs) g3.next.succ.succ t)⟩):=by
  rw [hl2] at hst ⊢
  simp only [aG,dD,List.length_singleton,if_true,cE,dXu _ _ _ _ hcs] at hst ⊢
  cases htc : t.get c with
  | none=>rw [htc] at hst; cases hst
  | some o =>
   rw [htc] at hst
   cases o with
   | row kd l =>
    dsimp only at hst ⊢
    cases hw : kd.writable with
    | false=>rw [hw] at hst; cases hst
    | true =>
     rw [hw,if_pos rfl] at hst
     cases hp : fR 4 l [.l g3.next.succ.succ 0 (m + 1) (m + 1)] with
     | none=>rw [hp] at hst; cases hst
     | some l' =>
      rw [hp] at hst
      simp only [aU,bG] at hst
      exact ⟨kd,l,l',rfl,hst.2.symm,fun zs=>by simp only [hw,if_true,hp,hst.1]⟩
   | it s p=>cases hst
   | mp es=>cases hst
   | big n t=>cases hst
   | mi t=>cases hst
 obtain ⟨kd,l,l',htc,hk4,hstz⟩:=hst2
 obtain ⟨k6,h6,S6⟩:=bDd (W.base (.row .ex [.i .i64 (Int.ofNat 0),.s [],.i .i64 (Int.ofNat 0),.l0])) (aZc rfl (by simp [DV.one]) h5.next h5.next.succ h5.bl) hzz
 obtain ⟨k7,h7,S7⟩:=mI 1 _ _ _ _ S6 _ _ (hstz _)
 have hqz:=bOf (h':=⟨g3.next.succ.succ.succ,Tr.set (.row kd l') c (Tr.set (.row (.gr 4) (old ++ [.i .i64 (Int.ofNat 0),.s [],.i .i64 (Int.ofNat 0),.l0])) g3.next.succ.succ t)⟩) (by
  show (Tr.set _ c (Tr.set _ _ t)).get q = _
  rw [dXu _ _ _ _ (Ne.symm W.ne),dXu _ _ _ _ hqs,htq]) W.hx
 obtain ⟨k8,h8,S8⟩:=lP 4 _ _ _ S7 _ _ hqz
 have hfin : aG 4 (.p g3.next.succ.succ (0 + m * 4)) (.a cs) ⟨g3.next.succ.succ.succ,Tr.set (.row kd l') c (Tr.set (.row (.gr 4) (old ++ [.i .i64 (Int.ofNat 0),.s [],.i .i64 (Int.ofNat 0),.l0])) g3.next.succ.succ t)⟩ =
   some (aS,⟨g3.next.succ.succ.succ,Tr.set (.row (.gr 4) (old ++ cs)) g3.next.succ.succ (Tr.set (.row kd l') c (Tr.set (.row (.gr 4) (old ++ [.i .i64 (Int.ofNat 0),.s [],.i .i64 (Int.ofNat 0),.l0])) g3.next.succ.succ t))⟩):=by
  have hp:=aZd old [.i .i64 (Int.ofNat 0),.s [],.i .i64 (Int.ofNat 0),.l0] cs (by rw [W.one.1]; rfl) (by simp [DV.one]) W.one.2
  simp only [aG,dD,W.one.1,if_true,cE,dXu _ _ _ _ (Ne.symm hcs),dXv,Kind.writable,Nat.zero_add,← hol,hp]
 obtain ⟨k9,h9,S9⟩:=mI 4 _ _ _ _ S8 _ _ hfin
 have S10 : Sim true k4 k9:=by
  refine Sim.trans ?_ S9
  rw [hk4]
  refine Sim.of_get rfl fun b o hb => ?_
  change (Tr.set (.row kd l') c (Tr.set _ g3.next.succ.succ t)).get b = some o at hb
  show (Tr.set _ g3.next.succ.succ (Tr.set (.row kd l') c (Tr.set _ g3.next.succ.succ t))).get b = some o
  by_cases e1 : b = g3.next.succ.succ
  ·rw [e1] at hb ⊢
   rw [dXu _ _ _ _ (Ne.symm hcs),dXv] at hb
   rw [dXv,hb]
  ·rw [dXu _ _ _ _ e1]
   by_cases e2 : b = c
   ·rw [e2] at hb ⊢
    rw [dXv] at hb ⊢
    exact hb
   ·rw [dXu _ _ _ _ e2,dXu _ _ _ _ e1] at hb ⊢
    exact hb
 have fl : aO [(.i .i64 (Int.ofNat 0)),(.s []),(.i .i64 (Int.ofNat 0)),.l0] 1 [(0,4,(.a [(.i .i64 (Int.ofNat 0)),(.s []),(.i .i64 (Int.ofNat 0)),.l0]))] h5 = some (.l h5.next 0 1 1,⟨h5.next.succ,Tr.set (.row .ex [.i .i64 (Int.ofNat 0),.s [],.i .i64 (Int.ofNat 0),.l0]) h5.next h5.bl⟩):=by
  simp [aO,jV,dD]
 refine wpS (aSg ?_)
 rw [rg5]
 have c5 : aA (.p c 4) h5 = some (l1,h5):=W.c5 h5.next
 have ix : aE 4 l2 n k8 = some (.p g3.next.succ.succ (0 + m * 4),k8):=by
  rw [hl2,hn]
  show (if (0 : Int) ≤ (m : Int) ∧ (m : Int) < ((m + 1 : Nat) : Int) then some (DV.p g3.next.succ.succ (0 + (m : Int).toNat * 4),k8) else none) = _
  rw [if_pos (by omega)]
  simp
 simp only [W.e0,W.e3,bKv,aI,dDn,dGa,c5,W.len,fl,h6,h7]
 refine vF fun _=>aSg ?_
 rw [rg6]
 simp only [aNh,bRz,Nat.beq,W.e3,h8,aI,ix,h9]
 refine vF fun _=>hN _ _ ?_ S10
 simp only [aNh,Nat.beq]
 exact W.e5
end
theorem cMg {h h1 : Hp} {c q : Pos} {v : DV} (hr : uS c q h = some (v,h1)) (hf : pV h) {env : bA} (e0 : env 0 = .p c 0) (e3 : env 3 = .p q 0)
  {X : Nat → bA → Hp → Prop} {R N : bA → Hp → Prop} (hN : ∀ env' h',env' 5 = v → Sim true h1 h' → N env' h') :
  uK CF0 (mS CF0 60) 49 (.seq (.region 3 (fU (cL (cL (cR (cL (cR (cR (cf Tryz.f351)))))))) false) (.seq (.region 4 R4 true) (.cond (.tmp 22)
   (.seq (.region 5 (fU (cL (cL (cR (cR (cL (cR (cL (cR (cR (cf Tryz.f351))))))))))) false) (.region 6 (fU (cR (cL (cR (cR (cL (cR (cL (cR (cR (cf Tryz.f351))))))))))) false))
   (.region 7 (fU (cR (cR (cR (cL (cR (cL (cR (cR (cf Tryz.f351)))))))))) true)))) X R N env h:=by
 unfold uS at hr
 obtain ⟨l1,g1,hl1,hr⟩:=cZ hr
 obtain ⟨n,g2,hn,hr⟩:=cZ hr
 obtain ⟨x,g3,hx,hr⟩:=cZ hr
 obtain ⟨rfl,uc,huc⟩:=tC hl1
 have hn0:=hn
 obtain ⟨rfl,hn⟩:=aBe (nX l1) hn
 obtain ⟨rfl,⟨uq,huq⟩,cs,rfl,hcl,hco⟩:=tK hx
 dsimp only at hr
 cases hcq : nS c q with
 | true=>rw [hcq] at hr; cases hr
 | false =>
 rw [hcq] at hr
 have hcq' : c ≠ q:=aZa hcq
 simp only [cnd,Bool.not_false] at hr
 obtain ⟨l2,k3,ha,hr⟩:=cZ hr
 obtain ⟨u,k4,hs,hr⟩:=cZ hr
 simp only [aU,bG] at hr
 obtain ⟨rfl,rfl⟩:=hr
 refine wpS (aSg ?_)
 rw [rg3]
 rw [show aY (env 0) g3 = some (.p c 0,g3) from by rw [e0]; rfl]
 show ∃ r,bnd (aA (.p c 4) g3) _ = some r
 rw [hl1]
 show ∃ r,bnd (cB l1 g3) _ = some r
 rw [hn0,aI]
 refine vF fun _ => ?_
 refine wpS (dVq (dXa fun x h5 A F5 => ?_))
 have W : Way g3 h5 c q l1 l2 n u cs k3 k4 (bO (bO (bO (bO (bO (bO (bO (bO (bO env (some 15) (env 0)) (some 16) (DV.p c 0)) (some 17) (DV.p c (0 + 0))) (some 18) (DV.p c (0 + 0 + 4))) (some 19) l1) (some 20) n) (some 5) n) (some 21) (DV.p g3.next 0)) (some 22) (DV.b x)) :=
  ⟨hf,A,hl1,hx,hcq',hn0,ha,hs,e0,e3,rfl⟩
 refine wpC (t:=x) rfl ⟨fun _ => ?_,fun _ => ?_⟩
 ·exact W.A hN
 ·exact W.B hN
theorem bGu (c : Pos) (lit : List DV) (h : Hp) : dA (aJ [.p c 0,.a lit] 1) h = some (.p h.next 0,⟨h.next.succ,Tr.set (.row .ex lit) h.next h.bl⟩):=rfl
theorem cYy (G : Gd) : gG Tryz.prog G 351 bFm:=by
 refine dFd (C:=CF0) (rec:=mS CF0 60) KC0 Try_ok dLr cGq fun args h v h1 hr hf => ?_
 unfold bFm at hr
 split at hr <;> (try (cases hr; done))
 rename_i c lit
 obtain ⟨vb,hb,h0,hr⟩:=cZ hr
 simp only [bY,aU,bG] at h0
 obtain ⟨rfl,rfl⟩:=h0
 obtain ⟨ls,h2,hl,hr⟩:=cZ hr
 obtain ⟨rfl,_⟩:=tC hl
 obtain ⟨i,h3,hi,hr⟩:=cZ hr
 obtain ⟨tt,h4,ht,hif⟩:=cZ hr
 clear hr
 obtain ⟨rfl,hlt⟩:=aBe (aAp _ _ _) ht
 rw [dQg,dLm]
 refine wpS (aSg ?_)
 rw [rg0,bGu,aI]
 refine vF fun _ => ?_
 refine wpS (aSg ?_)
 rw [rg1]
 simp only [aNh,bRz,Nat.beq,show aJ [.p c 0,.a lit] 0 = .p c 0 from rfl,bKv,aI,dDn,dGa,hl,hi]
 refine vF fun F4 => ?_
 refine wpS (wpS (aSg ?_))
 rw [rg2]
 simp only [aNh,bRz,Nat.beq,ht,aI]
 refine vF fun _ => ?_
 unfold aT at hif
 split at hif <;> (try (cases hif; done))
 ·refine wpC (t:=true) rfl ⟨fun _ => ?_,fun e=>(by cases e)⟩
  refine cMg hif F4 ?_ ?_ ?_
  ·rfl
  ·rfl
  ·intro env' h' e5 S
   exact bBt e5 S
 ·simp only [aU,bG] at hif
  obtain ⟨rfl,rfl⟩:=hif
  refine wpC (t:=false) rfl ⟨fun e=>(by cases e),fun _ => ?_⟩
  exact bBt rfl (Sim.refl _)
end Go.Dd

namespace Go.Dd
open Go.Proofs
theorem cGr : (itm.ops.toList.all fY) = true:=by kernel_rfl
theorem bSx : Tryz.f414.body = some itm.code:=by kernel_rfl
theorem dDx : ItOk Tryz.prog itm where
 pre:=by kernel_rfl
 test:=by kernel_rfl
 after:=by kernel_rfl
 post:=by kernel_rfl
 step:=by kernel_rfl
 ops:=List.all_eq_true.1 cGr
 dst:=by kernel_rfl
 guard:=by kernel_rfl
 op:=⟨#[3],by kernel_rfl⟩
 fn:=⟨Tryz.f414,Tryz.func414,bSx,by kernel_rfl,by kernel_rfl,by kernel_rfl⟩
theorem dWh : gP (cf Tryz.f495) = true:=by kernel_rfl
theorem dJk : gP (cf Tryz.f283) = true:=by kernel_rfl
theorem aXe {fn : Func} {c : Code} (h : fn.body = some c) : cf fn = c:=by unfold cf; rw [h]
theorem dAa (f : FuncId) (hf : rgB f = true) (fn : Func) (c : Code) (h1 : Tryz.prog.funcs[f]? = some fn) (h2 : fn.body = some c) : gP c = true:=by
 unfold rgB at hf
 simp only [Bool.or_eq_true] at hf
 rcases hf with hf | hf <;> (have e:=Nat.eq_of_beq_eq_true hf; subst e)
 ·rw [Tryz.func495] at h1
  cases h1
  rw [← aXe h2]
  exact dWh
 ·rw [Tryz.func283] at h1
  cases h1
  rw [← aXe h2]
  exact dJk
end Go.Dd

namespace Go.Dd
open Go.RowKit (Below)
theorem HR.later {G : Gd} {ρ : Ren} {h : Hp} {w w' : World} (H : HR G ρ h w) (e : Below w.heap.size w w') : HR G ρ h w' where
 gl:=fun k hk=>(e.block k (Nat.lt_of_lt_of_le hk H.sz.1)).trans (H.gl k hk)
 sz:=⟨Nat.le_trans H.sz.1 e.size,fun k hk=>Nat.lt_of_lt_of_le (H.sz.2 k hk) e.size⟩
 nx:=H.nx
 ro:=H.ro
 dom:=H.dom
 lt:=H.lt
 cell:=fun b k l L i v h1 h2 h3 h4=>by
  obtain ⟨v',h5,h6⟩:=H.cell b k l L i v h1 h2 h3 h4
  exact ⟨v',by rw [e.cell (eE h5)]; exact h5,h6⟩
 spare:=fun b l L es j h1 h2 h3=>by
  obtain ⟨v',h5⟩:=H.spare b l L es j h1 h2 h3
  exact ⟨v',by rw [e.cell (eE h5)]; exact h5⟩
 free:=fun b a h1 h2=>by
  obtain ⟨v,hv⟩:=H.lt_cell h1
  rw [e.frozen (eE hv)]
  exact H.free b a h1 h2
 inj:=H.inj
 ex:=H.ex
 grone:=H.grone
 itr:=fun b o L h1 h2 h3=>by
  obtain ⟨a,b,x,c,d⟩:=H.itr b o L h1 h2 h3
  refine ⟨a,b,x, ?_,d⟩
  rw [e.block _ (Array.getElem?_eq_some_iff.1 c).1]
  exact c
 itj:=H.itj
theorem Kp.later {G : Gd} {ρ : Ren} {h : Hp} {w w' : World} (H : HR G ρ h w) (e : Below w.heap.size w w') : Kp G w w' :=
 ⟨e.mono H.sz.1,fun k hk=>e.block k (H.sz.2 k hk)⟩
def lS (ρ ρ2 : Ren) : Ren:=fun b=>match ρ b with
 | some L=>some L
 | none => ρ2 b
section
variable {G G2 : Gd} {ρ ρ2 : Ren} {h g : Hp} {w w' : World} {J : Tr Ob}
theorem HR.join (H : HR G ρ h w) (hb : Below w.heap.size w w') (H2 : HR G2 ρ2 g w') (hG2 : G2.B = w.heap.size) (low : ∀ b L, ρ2 b = some L → h.next.toNat ≤ b.toNat)
  (hk : ∀ b o,g.bl.get b = some o → o.sg = true ∨ ∃ l,o = .row .ex l) (hn : h.next.toNat ≤ g.next.toNat)
  (hJ : ∀ b,J.get b = match h.bl.get b with
   | some o=>some o
   | none=>g.bl.get b) : HR G (lS ρ ρ2) ⟨g.next,J⟩ w' ∧ Ex G ρ (lS ρ ρ2) ∧ Ext ρ2 (lS ρ ρ2):=by
 have H':=H.later hb
 have e1 : Ext ρ (lS ρ ρ2):=fun b L hL=>by unfold lS; rw [hL]
 have no : ∀ b,h.next.toNat ≤ b.toNat → ρ b = none:=fun b hb=>by
  cases e : ρ b with
  | none=>rfl
  | some L=>have:=H.lt b L e; omega
 have e2 : Ext ρ2 (lS ρ ρ2):=fun b L hL=>by unfold lS; rw [no b (low b L hL)]; exact hL
 have two : ∀ b o,J.get b = some o → (h.bl.get b = some o ∧ ∃ L, ρ b = some L ∧ lS ρ ρ2 b = some L) ∨ (g.bl.get b = some o ∧ ∃ L, ρ2 b = some L ∧ lS ρ ρ2 b = some L):=fun b o ho=>by
  rw [hJ] at ho
  cases hh : h.bl.get b with
  | some o' =>
   rw [hh] at ho
   cases ho
   obtain ⟨L,hL⟩:=H.dom b _ hh
   exact .inl ⟨rfl,L,hL,e1 _ _ hL⟩
  | none =>
   rw [hh] at ho
   obtain ⟨L,hL⟩:=H2.dom b o ho
   exact .inr ⟨ho,L,hL,e2 _ _ hL⟩
 have cl : ∀ {b a},Claims (lS ρ ρ2) ⟨g.next,J⟩ b a → (Claims ρ h b a ∧ ∀ l,J.get b = some (.row .ro l) → h.bl.get b = some (.row .ro l)) ∨ (Claims ρ2 g b a ∧ ¬ isRo g b ∧ ∀ l,J.get b ≠ some (.row .ro l)):=by
  rintro b a ⟨k,l,L,q1,q2,q3⟩
  change J.get b = some (.row k l) at q1
  rcases two b _ q1 with ⟨c1,L',c2,c3⟩ | ⟨c1,L',c2,c3⟩
  ·have c3':=c3.symm.trans q2
   cases c3'
   exact .inl ⟨⟨k,l,L,c1,c2,q3⟩,fun l' hl'=>by rw [q1] at hl'; rw [c1]; exact hl'⟩
  ·have c3':=c3.symm.trans q2
   cases c3'
   refine .inr ⟨⟨k,l,L,c1,c2,q3⟩, ?_, ?_⟩
   ·rintro ⟨l',hl'⟩
    rw [c1] at hl'
    cases hl'
    rcases hk b _ c1 with hs | ⟨_,hs⟩ <;> cases hs
   ·intro l' hl'
    rw [q1] at hl'
    cases hl'
    rcases hk b _ c1 with hs | ⟨_,hs⟩ <;> cases hs
 have old : ∀ {b a},Claims ρ h b a → a.block < w.heap.size:=fun hc=>by
  obtain ⟨v,hv⟩:=H.lt_cell hc
  exact eE hv
 have own2 : ∀ {k},Own G2 k → Own G k ∧ w.heap.size ≤ k:=fun {k} ho=>by
  have h1:=ho.1
  rw [hG2] at h1
  exact ⟨⟨Nat.le_trans H.sz.1 h1,fun hX=>by have:=H.sz.2 k hX; omega⟩,h1⟩
 refine ⟨⟨H'.gl,H'.sz,Nat.le_trans H.nx hn, ?_, ?_, ?_, ?_, ?_, ?_, ?_, ?_, ?_, ?_, ?_⟩,⟨e1,fun b L hL => ?_⟩,e2⟩
 ·rintro b a hc ⟨l,hl⟩
  rcases cl hc with ⟨c,hr⟩ | ⟨_,_,hr⟩
  ·exact H'.ro b a c ⟨l,hr l hl⟩
  ·exact absurd hl (hr l)
 ·intro b o ho
  rcases two b o ho with ⟨_,L,_,c⟩ | ⟨_,L,_,c⟩
  ·exact ⟨L,c⟩
  ·exact ⟨L,c⟩
 ·intro b L hL
  unfold lS at hL
  cases e : ρ b with
  | some L'=>have:=H.lt b L' e; show b.toNat < g.next.toNat; omega
  | none=>rw [e] at hL; exact H2.lt b L hL
 ·intro b k l L i v ho hL hi hv
  rcases two b _ ho with ⟨c1,L',c2,c3⟩ | ⟨c1,L',c2,c3⟩
  ·have c3':=c3.symm.trans hL
   cases c3'
   obtain ⟨v',q1,q2⟩:=H'.cell b k l L i v c1 c2 hi hv
   exact ⟨v',q1,q2.mono e1⟩
  ·have c3':=c3.symm.trans hL
   cases c3'
   obtain ⟨v',q1,q2⟩:=H2.cell b k l L i v c1 c2 hi hv
   exact ⟨v',q1,q2.mono e2⟩
 ·intro b l L es j ho hL hj
  rcases two b _ ho with ⟨c1,L',c2,c3⟩ | ⟨c1,L',c2,c3⟩
  ·have c3':=c3.symm.trans hL
   cases c3'
   exact H'.spare b l L es j c1 c2 hj
  ·have c3':=c3.symm.trans hL
   cases c3'
   exact H2.spare b l L es j c1 c2 hj
 ·intro b a hc hr
  rcases cl hc with ⟨c,hro⟩ | ⟨c,hnr,_⟩
  ·refine H'.free b a c fun ⟨l,hl⟩=>hr ⟨l, ?_⟩
   show J.get b = _
   rw [hJ,hl]
  ·obtain ⟨q1,q2⟩:=H2.free b a c hnr
   exact ⟨q1,(own2 q2).1⟩
 ·intro b b' a hc hc' hr
  rcases cl hc with ⟨c,_⟩ | ⟨c,hnr,_⟩
  ·rcases cl hc' with ⟨c',_⟩ | ⟨c',hnr',_⟩
   ·refine H'.inj b b' a c c' fun ⟨l,hl⟩=>hr ⟨l, ?_⟩
    show J.get b = _
    rw [hJ,hl]
   ·have h1:=old c
    have h2:=(own2 (H2.free b' a c' hnr').2).2
    omega
  ·rcases cl hc' with ⟨c',_⟩ | ⟨c',hnr',_⟩
   ·have h1:=old c'
    have h2:=(own2 (H2.free b a c hnr).2).2
    omega
   ·exact H2.inj b b' a c c' hnr
 ·intro b l L ho hL
  have key : ∀ o,J.get b = some o → (o = .row .ro l ∨ o = .row .ex l) → L.sp = 0:=fun o ho' hor=>by
   rcases two b o ho' with ⟨c1,L',c2,c3⟩ | ⟨c1,L',c2,c3⟩
   ·have c3':=c3.symm.trans hL
    cases c3'
    rcases hor with rfl | rfl
    ·exact H'.ex b l L (.inl c1) c2
    ·exact H'.ex b l L (.inr c1) c2
   ·have c3':=c3.symm.trans hL
    cases c3'
    rcases hor with rfl | rfl
    ·exact H2.ex b l L (.inl c1) c2
    ·exact H2.ex b l L (.inr c1) c2
  rcases ho with ho | ho
  ·exact key _ ho (.inl rfl)
  ·exact key _ ho (.inr rfl)
 ·intro b es l i v ho hi
  rcases two b _ ho with ⟨c1,_⟩ | ⟨c1,_⟩
  ·exact H'.grone b es l i v c1 hi
  ·exact H2.grone b es l i v c1 hi
 ·intro b o L h0 ho hL
  rcases two b o ho with ⟨c1,L',c2,c3⟩ | ⟨c1,L',c2,c3⟩
  ·have c3':=c3.symm.trans hL
   cases c3'
   obtain ⟨q1,q2,x,q3,q4⟩:=H'.itr b o L h0 c1 c2
   exact ⟨q1,q2,x,q3,q4.mono e1⟩
  ·have c3':=c3.symm.trans hL
   cases c3'
   obtain ⟨q1,q2,x,q3,q4⟩:=H2.itr b o L h0 c1 c2
   exact ⟨(own2 q1).1,q2,x,q3,q4.mono e2⟩
 ·intro b o b' o' L L' h0 h0' ho ho' hL hL' he
  have lo : ∀ {b o L},o.sg = true → h.bl.get b = some o → ρ b = some L → L.bl < w.heap.size:=fun {b o L} s1 s2 s3=>by
   obtain ⟨_,_,x,q,_⟩:=H.itr b o L s1 s2 s3
   exact (Array.getElem?_eq_some_iff.1 q).1
  rcases two b o ho with ⟨c1,K,c2,c3⟩ | ⟨c1,K,c2,c3⟩ <;> (have c3':=c3.symm.trans hL; cases c3') <;>
   rcases two b' o' ho' with ⟨d1,K',d2,d3⟩ | ⟨d1,K',d2,d3⟩ <;> (have d3':=d3.symm.trans hL'; cases d3')
  ·exact H'.itj b o b' o' L L' h0 h0' c1 d1 c2 d2 he
  ·have q1:=lo h0 c1 c2
   have q2:=(own2 (H2.itr b' o' L' h0' d1 d2).1).2
   omega
  ·have q1:=lo h0' d1 d2
   have q2:=(own2 (H2.itr b o L h0 c1 c2).1).2
   omega
  ·exact H2.itj b o b' o' L L' h0 h0' c1 d1 c2 d2 he
 ·unfold lS at hL
  cases e : ρ b with
  | some L'=>rw [e] at hL; exact .inl hL
  | none =>
   rw [e] at hL
   exact .inr (Nat.le_trans H.nx (low b L hL))
end
end Go.Dd

namespace Go.Proofs
open Go.Shelf
def Tryz.lays156_ren : Go.Shelf.Ren:=⟨fun | 156=>23 | 165=>38 | 166=>39 | 169=>40 | 240=>63 | 241=>64 | 276=>110 | 277=>111 | n=>n,fun | 31=>40 | 9=>9 | 3=>3 | 4=>4 | 0=>0 | 20=>20 | 72=>68 | 76=>72 | 70=>66 | 37=>29 | 75=>71 | 127=>90 | 164=>166 | 5=>5 | 80=>74 | n=>n,fun | n=>n⟩
theorem Tryz.lays156 : Go.Proofs.Lays.n156 Tryz.prog Tryz.lays156_ren:={
 mixed:=by kernel_rfl
 f156:=Tryz.func23.trans (congrArg some (by kernel_rfl))
 f165:=Tryz.func38.trans (congrArg some (by kernel_rfl))
 f166:=Tryz.func39.trans (congrArg some (by kernel_rfl))
 f169:=Tryz.func40.trans (congrArg some (by kernel_rfl))
 f240:=Tryz.func63.trans (congrArg some (by kernel_rfl))
 f241:=Tryz.func64.trans (congrArg some (by kernel_rfl))
 f276:=Tryz.func110.trans (congrArg some (by kernel_rfl))
 f277:=Tryz.func111.trans (congrArg some (by kernel_rfl))
 t0:=Tryz.underlying0
 a0:=Tryz.isAgg0
 z0:=Tryz.sizeOf0
 v0:=Tryz.zeroValue0
 t3:=Tryz.underlying3
 a3:=Tryz.isAgg3
 z3:=Tryz.sizeOf3
 v3:=Tryz.zeroValue3
 t4:=Tryz.underlying4
 a4:=Tryz.isAgg4
 z4:=Tryz.sizeOf4
 v4:=Tryz.zeroValue4
 t9:=Tryz.underlying9
 a9:=Tryz.isAgg9
 z9:=Tryz.sizeOf9
 v9:=Tryz.zeroValue9
 t20:=Tryz.underlying20
 a20:=Tryz.isAgg20
 z20:=Tryz.sizeOf20
 v20:=Tryz.zeroValue20
 t31:=Tryz.underlying40
 a31:=Tryz.isAgg40
 z31:=Tryz.sizeOf40
 v31:=Tryz.zeroValue40
 t37:=Tryz.underlying29
 a37:=Tryz.isAgg29
 z37:=Tryz.sizeOf29
 v37:=Tryz.zeroValue29
 t70:=Tryz.underlying66
 a70:=Tryz.isAgg66
 z70:=Tryz.sizeOf66
 v70:=Tryz.zeroValue66
 t72:=Tryz.underlying68
 a72:=Tryz.isAgg68
 z72:=Tryz.sizeOf68
 v72:=Tryz.zeroValue68
 t75:=Tryz.underlying71
 a75:=Tryz.isAgg71
 z75:=Tryz.sizeOf71
 v75:=Tryz.zeroValue71
 t76:=Tryz.underlying72
 a76:=Tryz.isAgg72
 z76:=Tryz.sizeOf72
 v76:=Tryz.zeroValue72
 t127:=Tryz.underlying90
 a127:=Tryz.isAgg90
 z127:=Tryz.sizeOf90
 v127:=Tryz.zeroValue90
 t164:=Tryz.underlying166
 a164:=Tryz.isAgg166
 z164:=Tryz.sizeOf166
 v164:=Tryz.zeroValue166 }
theorem Tryz.Builder_Extra_156 : Builder.Extra Tryz.prog Tryz.lays156_ren:={
 sizeBuilder:=by kernel_rfl
 liesBuilder:=by kernel_rfl
 t5:=Tryz.underlying5
 a5:=Tryz.isAgg5
 z5:=Tryz.sizeOf5
 v5:=Tryz.zeroValue5
 infoByte:=by kernel_rfl
 cellsByte:=by kernel_rfl
 sizeByte:=by kernel_rfl
 neB5:=by decide }
open Go.RowKit in
theorem Tryz.strings_Join_none (a : Option Addr) (c : Nat) (sep : ByteArray) (w : World) :
  Calls Tryz.prog 23 #[.slice a 0 c,.string sep] w fun e w'=>e = .returned (.string ⟨#[]⟩) ∧ w' = w:=Any.strings_Join_none Tryz.lays156 Tryz.Builder_Extra_156 a c sep w
open Go.RowKit in
theorem Tryz.strings_Join (bk o c : Nat) (xs : List ByteArray) (sep : ByteArray) (w : World) (hcells : ∀ (j : Nat) x,xs[j]? = some x → w.cell? ⟨bk,o + j,none⟩ = some (.string x)) (hbk : bk < w.heap.size) (hN : xs.length ≤ 140737488355328) (hcap : xs.length ≤ c) (hlen : (Lib.join (xs.map (·.data.toList)) sep.data.toList).length ≤ 140737488355328) :
  Calls Tryz.prog 23 #[.slice (some ⟨bk,o,none⟩) xs.length c,.string sep] w fun e w'=>e = .returned (.string ⟨(Lib.join (xs.map (·.data.toList)) sep.data.toList).toArray⟩) ∧ Below w.heap.size w w':=Any.strings_Join Tryz.lays156 Tryz.Builder_Extra_156 bk o c xs sep w hcells hbk hN hcap hlen
def Tryz.laysM171_ren : Go.Shelf.Ren:=⟨fun | 171=>24 | 243=>41 | 246=>65 | 283=>112 | 284=>113 | 285=>114 | 286=>115 | 129=>182 | 317=>181 | 318=>183 | 319=>184 | 320=>185 | 337=>261 | 338=>262 | n=>n,fun | 3=>3 | 9=>9 | 2=>2 | 4=>4 | 171=>169 | 0=>0 | 53=>170 | 37=>29 | 5=>5 | 173=>173 | 212=>242 | 51=>95 | 20=>20 | 213=>243 | 46=>177 | 232=>392 | 233=>393 | n=>n,fun | 17=>1 | 18=>4 | 19=>5 | n=>n⟩
theorem Tryz.laysM171 : Go.Proofs.LaysM.n171 Tryz.prog Tryz.laysM171_ren:={
 mixed:=by kernel_rfl
 f129:=Tryz.func182.trans (congrArg some (by kernel_rfl))
 f171:=Tryz.func24.trans (congrArg some (by kernel_rfl))
 f243:=Tryz.func41.trans (congrArg some (by kernel_rfl))
 f246:=Tryz.func65.trans (congrArg some (by kernel_rfl))
 f283:=Tryz.func112.trans (congrArg some (by kernel_rfl))
 f284:=Tryz.func113.trans (congrArg some (by kernel_rfl))
 f285:=Tryz.func114.trans (congrArg some (by kernel_rfl))
 f286:=Tryz.func115.trans (congrArg some (by kernel_rfl))
 f317:=Tryz.func181.trans (congrArg some (by kernel_rfl))
 f318:=Tryz.func183.trans (congrArg some (by kernel_rfl))
 f319:=Tryz.func184.trans (congrArg some (by kernel_rfl))
 f320:=Tryz.func185.trans (congrArg some (by kernel_rfl))
 f337:=Tryz.func261.trans (congrArg some (by kernel_rfl))
 f338:=Tryz.func262.trans (congrArg some (by kernel_rfl))
 t0:=Tryz.underlying0
 a0:=Tryz.isAgg0
 z0:=Tryz.sizeOf0
 v0:=Tryz.zeroValue0
 t2:=Tryz.underlying2
 a2:=Tryz.isAgg2
 z2:=Tryz.sizeOf2
 v2:=Tryz.zeroValue2
 t3:=Tryz.underlying3
 a3:=Tryz.isAgg3
 z3:=Tryz.sizeOf3
 v3:=Tryz.zeroValue3
 t4:=Tryz.underlying4
 a4:=Tryz.isAgg4
 z4:=Tryz.sizeOf4
 v4:=Tryz.zeroValue4
 t5:=Tryz.underlying5
 a5:=Tryz.isAgg5
 z5:=Tryz.sizeOf5
 v5:=Tryz.zeroValue5
 t9:=Tryz.underlying9
 a9:=Tryz.isAgg9
 z9:=Tryz.sizeOf9
 v9:=Tryz.zeroValue9
 t20:=Tryz.underlying20
 a20:=Tryz.isAgg20
 z20:=Tryz.sizeOf20
 v20:=Tryz.zeroValue20
 t37:=Tryz.underlying29
 a37:=Tryz.isAgg29
 z37:=Tryz.sizeOf29
 v37:=Tryz.zeroValue29
 t46:=Tryz.underlying177
 a46:=Tryz.isAgg177
 z46:=Tryz.sizeOf177
 v46:=Tryz.zeroValue177
 t51:=Tryz.underlying95
 a51:=Tryz.isAgg95
 z51:=Tryz.sizeOf95
 v51:=Tryz.zeroValue95
 t53:=Tryz.underlying170
 a53:=Tryz.isAgg170
 z53:=Tryz.sizeOf170
 v53:=Tryz.zeroValue170
 t171:=Tryz.underlying169
 a171:=Tryz.isAgg169
 z171:=Tryz.sizeOf169
 v171:=Tryz.zeroValue169
 t173:=Tryz.underlying173
 a173:=Tryz.isAgg173
 z173:=Tryz.sizeOf173
 v173:=Tryz.zeroValue173
 t212:=Tryz.underlying242
 a212:=Tryz.isAgg242
 z212:=Tryz.sizeOf242
 v212:=Tryz.zeroValue242
 t213:=Tryz.underlying243
 a213:=Tryz.isAgg243
 z213:=Tryz.sizeOf243
 t232:=Tryz.underlying392
 a232:=Tryz.isAgg392
 z232:=Tryz.sizeOf392
 v232:=Tryz.zeroValue392
 t233:=Tryz.underlying393
 a233:=Tryz.isAgg393
 z233:=Tryz.sizeOf393
 v233:=Tryz.zeroValue393
 g17:=by kernel_rfl
 g18:=by kernel_rfl
 g19:=by kernel_rfl
 i0:=by kernel_rfl
 i2:=by kernel_rfl
 i3:=by kernel_rfl
 i4:=by kernel_rfl
 i5:=by kernel_rfl
 i9:=by kernel_rfl
 i20:=by kernel_rfl
 i37:=by kernel_rfl
 i46:=by kernel_rfl
 i51:=by kernel_rfl
 i53:=by kernel_rfl
 i171:=by kernel_rfl
 i173:=by kernel_rfl
 i212:=by kernel_rfl
 i232:=by kernel_rfl
 i233:=by kernel_rfl
 m17:=by kernel_rfl
 m18:=by kernel_rfl
 m19:=by kernel_rfl }
open Go.RowKit Go.Sort Go.Lib in
theorem Tryz.strconv_Itoa (n : Int) (h0 : -9223372036854775808 ≤ n) (h1 : n ≤ 9223372036854775807) (w : World) (htab : Lib.TabIs Tryz.prog w "internal/strconv.uint64pow10" .u64 Lib.pow10Tab) :
  Calls Tryz.prog 24 #[.int .i64 n] w fun e w'=>e = .returned (.string ⟨(Lib.itoa n).toArray⟩) ∧ ∃ k os,w' = grow (w.drewN k) os:=Any.strconv_Itoa Tryz.laysM171 n h0 h1 w htab
def Tryz.laysC172_ren : Go.Shelf.Ren:=⟨fun | 172=>124 | 244=>194 | 245=>195 | 247=>269 | 279=>270 | 280=>271 | 281=>272 | 282=>273 | 287=>330 | 316=>331 | 171=>24 | 205=>332 | 321=>402 | 322=>403 | 243=>41 | 246=>65 | 283=>112 | 284=>113 | 285=>114 | 286=>115 | 129=>182 | 317=>181 | 318=>183 | 319=>184 | 320=>185 | 337=>261 | 338=>262 | n=>n,fun | 9=>9 | 3=>3 | 75=>71 | 76=>72 | 4=>4 | 5=>5 | 167=>340 | 37=>29 | 0=>0 | 85=>341 | 2=>2 | 168=>343 | 53=>170 | 175=>403 | 46=>177 | 210=>406 | 127=>90 | 145=>451 | 143=>449 | 21=>21 | 171=>169 | 173=>173 | 212=>242 | 51=>95 | 20=>20 | 213=>243 | 232=>392 | 233=>393 | 80=>74 | n=>n,fun | 15=>6 | 16=>7 | 17=>1 | 18=>4 | 19=>5 | n=>n⟩
theorem Tryz.laysC172 : Go.Proofs.LaysC.n172 Tryz.prog Tryz.laysC172_ren:={
 mixed:=by kernel_rfl
 f129:=Tryz.func182.trans (congrArg some (by kernel_rfl))
 f171:=Tryz.func24.trans (congrArg some (by kernel_rfl))
 f172:=Tryz.func124.trans (congrArg some (by kernel_rfl))
 f205:=Tryz.func332.trans (congrArg some (by kernel_rfl))
 f243:=Tryz.func41.trans (congrArg some (by kernel_rfl))
 f244:=Tryz.func194.trans (congrArg some (by kernel_rfl))
 f245:=Tryz.func195.trans (congrArg some (by kernel_rfl))
 f246:=Tryz.func65.trans (congrArg some (by kernel_rfl))
 f247:=Tryz.func269.trans (congrArg some (by kernel_rfl))
 f279:=Tryz.func270.trans (congrArg some (by kernel_rfl))
 f280:=Tryz.func271.trans (congrArg some (by kernel_rfl))
 f281:=Tryz.func272.trans (congrArg some (by kernel_rfl))
 f282:=Tryz.func273.trans (congrArg some (by kernel_rfl))
 f283:=Tryz.func112.trans (congrArg some (by kernel_rfl))
 f284:=Tryz.func113.trans (congrArg some (by kernel_rfl))
 f285:=Tryz.func114.trans (congrArg some (by kernel_rfl))
 f286:=Tryz.func115.trans (congrArg some (by kernel_rfl))
 f287:=Tryz.func330.trans (congrArg some (by kernel_rfl))
 f316:=Tryz.func331.trans (congrArg some (by kernel_rfl))
 f317:=Tryz.func181.trans (congrArg some (by kernel_rfl))
 f318:=Tryz.func183.trans (congrArg some (by kernel_rfl))
 f319:=Tryz.func184.trans (congrArg some (by kernel_rfl))
 f320:=Tryz.func185.trans (congrArg some (by kernel_rfl))
 f321:=Tryz.func402.trans (congrArg some (by kernel_rfl))
 f322:=Tryz.func403.trans (congrArg some (by kernel_rfl))
 f337:=Tryz.func261.trans (congrArg some (by kernel_rfl))
 f338:=Tryz.func262.trans (congrArg some (by kernel_rfl))
 t0:=Tryz.underlying0
 a0:=Tryz.isAgg0
 z0:=Tryz.sizeOf0
 v0:=Tryz.zeroValue0
 t2:=Tryz.underlying2
 a2:=Tryz.isAgg2
 z2:=Tryz.sizeOf2
 v2:=Tryz.zeroValue2
 t3:=Tryz.underlying3
 a3:=Tryz.isAgg3
 z3:=Tryz.sizeOf3
 v3:=Tryz.zeroValue3
 t4:=Tryz.underlying4
 a4:=Tryz.isAgg4
 z4:=Tryz.sizeOf4
 v4:=Tryz.zeroValue4
 t5:=Tryz.underlying5
 a5:=Tryz.isAgg5
 z5:=Tryz.sizeOf5
 v5:=Tryz.zeroValue5
 t9:=Tryz.underlying9
 a9:=Tryz.isAgg9
 z9:=Tryz.sizeOf9
 v9:=Tryz.zeroValue9
 t20:=Tryz.underlying20
 a20:=Tryz.isAgg20
 z20:=Tryz.sizeOf20
 v20:=Tryz.zeroValue20
 t21:=Tryz.underlying21
 a21:=Tryz.isAgg21
 z21:=Tryz.sizeOf21
 v21:=Tryz.zeroValue21
 t37:=Tryz.underlying29
 a37:=Tryz.isAgg29
 z37:=Tryz.sizeOf29
 v37:=Tryz.zeroValue29
 t46:=Tryz.underlying177
 a46:=Tryz.isAgg177
 z46:=Tryz.sizeOf177
 v46:=Tryz.zeroValue177
 t51:=Tryz.underlying95
 a51:=Tryz.isAgg95
 z51:=Tryz.sizeOf95
 v51:=Tryz.zeroValue95
 t53:=Tryz.underlying170
 a53:=Tryz.isAgg170
 z53:=Tryz.sizeOf170
 v53:=Tryz.zeroValue170
 t75:=Tryz.underlying71
 a75:=Tryz.isAgg71
 z75:=Tryz.sizeOf71
 v75:=Tryz.zeroValue71
 t76:=Tryz.underlying72
 a76:=Tryz.isAgg72
 z76:=Tryz.sizeOf72
 v76:=Tryz.zeroValue72
 t85:=Tryz.underlying341
 a85:=Tryz.isAgg341
 z85:=Tryz.sizeOf341
 v85:=Tryz.zeroValue341
 t127:=Tryz.underlying90
 a127:=Tryz.isAgg90
 z127:=Tryz.sizeOf90
 v127:=Tryz.zeroValue90
 t143:=Tryz.underlying449
 a143:=Tryz.isAgg449
 z143:=Tryz.sizeOf449
 v143:=Tryz.zeroValue449
 t145:=Tryz.underlying451
 a145:=Tryz.isAgg451
 z145:=Tryz.sizeOf451
 v145:=Tryz.zeroValue451
 t167:=Tryz.underlying340
 a167:=Tryz.isAgg340
 z167:=Tryz.sizeOf340
 v167:=Tryz.zeroValue340
 t168:=Tryz.underlying343
 a168:=Tryz.isAgg343
 z168:=Tryz.sizeOf343
 v168:=Tryz.zeroValue343
 t171:=Tryz.underlying169
 a171:=Tryz.isAgg169
 z171:=Tryz.sizeOf169
 v171:=Tryz.zeroValue169
 t173:=Tryz.underlying173
 a173:=Tryz.isAgg173
 z173:=Tryz.sizeOf173
 v173:=Tryz.zeroValue173
 t175:=Tryz.underlying403
 a175:=Tryz.isAgg403
 z175:=Tryz.sizeOf403
 v175:=Tryz.zeroValue403
 t210:=Tryz.underlying406
 a210:=Tryz.isAgg406
 z210:=Tryz.sizeOf406
 v210:=Tryz.zeroValue406
 t212:=Tryz.underlying242
 a212:=Tryz.isAgg242
 z212:=Tryz.sizeOf242
 v212:=Tryz.zeroValue242
 t213:=Tryz.underlying243
 a213:=Tryz.isAgg243
 z213:=Tryz.sizeOf243
 t232:=Tryz.underlying392
 a232:=Tryz.isAgg392
 z232:=Tryz.sizeOf392
 v232:=Tryz.zeroValue392
 t233:=Tryz.underlying393
 a233:=Tryz.isAgg393
 z233:=Tryz.sizeOf393
 v233:=Tryz.zeroValue393
 g15:=by kernel_rfl
 g16:=by kernel_rfl
 g17:=by kernel_rfl
 g18:=by kernel_rfl
 g19:=by kernel_rfl
 t80:=Tryz.underlying74
 a80:=Tryz.isAgg74
 z80:=Tryz.sizeOf74
 v80:=Tryz.zeroValue74
 i0:=by kernel_rfl
 i2:=by kernel_rfl
 i3:=by kernel_rfl
 i4:=by kernel_rfl
 i5:=by kernel_rfl
 i9:=by kernel_rfl
 i20:=by kernel_rfl
 i21:=by kernel_rfl
 i37:=by kernel_rfl
 i46:=by kernel_rfl
 i51:=by kernel_rfl
 i53:=by kernel_rfl
 i75:=by kernel_rfl
 i76:=by kernel_rfl
 i80:=by kernel_rfl
 i85:=by kernel_rfl
 i127:=by kernel_rfl
 i143:=by kernel_rfl
 i145:=by kernel_rfl
 i167:=by kernel_rfl
 i168:=by kernel_rfl
 i171:=by kernel_rfl
 i173:=by kernel_rfl
 i175:=by kernel_rfl
 i210:=by kernel_rfl
 i212:=by kernel_rfl
 i232:=by kernel_rfl
 i233:=by kernel_rfl
 m15:=by kernel_rfl
 m16:=by kernel_rfl
 m17:=by kernel_rfl
 m18:=by kernel_rfl
 m19:=by kernel_rfl
 c0:=by kernel_rfl
 c2:=by kernel_rfl
 c3:=by kernel_rfl
 c4:=by kernel_rfl
 c5:=by kernel_rfl
 c9:=by kernel_rfl
 c20:=by kernel_rfl
 c21:=by kernel_rfl
 c37:=by kernel_rfl
 c46:=by kernel_rfl
 c51:=by kernel_rfl
 c53:=by kernel_rfl
 c75:=by kernel_rfl
 c76:=by kernel_rfl
 c80:=by kernel_rfl
 c85:=by kernel_rfl
 c127:=by kernel_rfl
 c143:=by kernel_rfl
 c145:=by kernel_rfl
 c167:=by kernel_rfl
 c168:=by kernel_rfl
 c171:=by kernel_rfl
 c173:=by kernel_rfl
 c175:=by kernel_rfl
 c210:=by kernel_rfl
 c212:=by kernel_rfl
 c213:=by kernel_rfl
 c232:=by kernel_rfl
 c233:=by kernel_rfl }
open Go.RowKit in
theorem Tryz.strconv_Atoi_ok (s : ByteArray) (hmax : s.size ≤ 9223372036854775806) (v : Int) (h : Lib.atoiAll s.data.toList = .ok v) (w : World) :
  Calls Tryz.prog 124 #[.string s] w fun e w'=>e = .returned (.tuple #[.int .i64 v,.nilIface]) ∧ (w' = w ∨ ∃ t,w' = Lib.bytesWorld w 5 t):=Any.strconv_Atoi_ok Tryz.laysC172 s hmax v h w
open Go.RowKit in
theorem Tryz.strconv_Atoi_syntax (s : ByteArray) (hlim : s.size ≤ 281474976710656) (h : Lib.atoiAll s.data.toList = Lib.NumEnd.syntax) (ev : Value) (w : World) (hv : w.cell? ⟨6,0,none⟩ = some ev) (hev : ev = .nilIface ∨ ∃ te pe,ev = .iface te pe) :
  Calls Tryz.prog 124 #[.string s] w fun e w'=>∃ N,e = .returned (.tuple #[.int .i64 (0),.iface 343 (.pointer (some ⟨N,0,none⟩))]) ∧ w.heap.size ≤ N ∧ w'.heap[N]? = some (.cells #[.string ⟨#[65,116,111,105]⟩,.string s,ev] 406 (0,0)) ∧ Below w.heap.size w w':=Any.strconv_Atoi_syntax Tryz.laysC172 s hlim h ev w hv hev
open Go.RowKit in
theorem Tryz.strconv_Atoi_range (s : ByteArray) (hlim : s.size ≤ 281474976710656) (h : Lib.atoiAll s.data.toList = .range) (ev : Value) (w : World) (hv : w.cell? ⟨7,0,none⟩ = some ev) (hev : ev = .nilIface ∨ ∃ te pe,ev = .iface te pe) :
  Calls Tryz.prog 124 #[.string s] w fun e w'=>∃ N,e = .returned (.tuple #[.int .i64 (Lib.atoiSat s.data.toList),.iface 343 (.pointer (some ⟨N,0,none⟩))]) ∧ w.heap.size ≤ N ∧ w'.heap[N]? = some (.cells #[.string ⟨#[65,116,111,105]⟩,.string s,ev] 406 (0,0)) ∧ Below w.heap.size w w':=Any.strconv_Atoi_range Tryz.laysC172 s hlim h ev w hv hev
def Tryz.lays145_ren : Go.Shelf.Ren:=⟨fun | 145=>33 | 220=>49 | 219=>72 | 217=>45 | 225=>120 | 224=>121 | 267=>122 | 266=>68 | 314=>192 | n=>n,fun | 9=>9 | 4=>4 | 59=>56 | 3=>3 | 5=>5 | 46=>177 | 146=>262 | 51=>95 | n=>n,fun | 1=>0 | n=>n⟩
theorem Tryz.lays145 : Go.Proofs.Lays.n145 Tryz.prog Tryz.lays145_ren:={
 mixed:=by kernel_rfl
 f145:=Tryz.func33.trans (congrArg some (by kernel_rfl))
 f217:=Tryz.func45.trans (congrArg some (by kernel_rfl))
 f219:=Tryz.func72.trans (congrArg some (by kernel_rfl))
 f220:=Tryz.func49.trans (congrArg some (by kernel_rfl))
 f224:=Tryz.func121.trans (congrArg some (by kernel_rfl))
 f225:=Tryz.func120.trans (congrArg some (by kernel_rfl))
 f266:=Tryz.func68.trans (congrArg some (by kernel_rfl))
 f267:=Tryz.func122.trans (congrArg some (by kernel_rfl))
 f314:=Tryz.func192.trans (congrArg some (by kernel_rfl))
 t3:=Tryz.underlying3
 a3:=Tryz.isAgg3
 z3:=Tryz.sizeOf3
 v3:=Tryz.zeroValue3
 t4:=Tryz.underlying4
 a4:=Tryz.isAgg4
 z4:=Tryz.sizeOf4
 v4:=Tryz.zeroValue4
 t5:=Tryz.underlying5
 a5:=Tryz.isAgg5
 z5:=Tryz.sizeOf5
 v5:=Tryz.zeroValue5
 t9:=Tryz.underlying9
 a9:=Tryz.isAgg9
 z9:=Tryz.sizeOf9
 v9:=Tryz.zeroValue9
 t46:=Tryz.underlying177
 a46:=Tryz.isAgg177
 z46:=Tryz.sizeOf177
 v46:=Tryz.zeroValue177
 t51:=Tryz.underlying95
 a51:=Tryz.isAgg95
 z51:=Tryz.sizeOf95
 v51:=Tryz.zeroValue95
 t59:=Tryz.underlying56
 a59:=Tryz.isAgg56
 z59:=Tryz.sizeOf56
 v59:=Tryz.zeroValue56
 t146:=Tryz.underlying262
 a146:=Tryz.isAgg262
 z146:=Tryz.sizeOf262
 v146:=Tryz.zeroValue262
 g1:=by kernel_rfl }
open Go.RowKit Go.Lib in
theorem Tryz.strings_Cut (s sep : ByteArray) (m : Int) (w : World) (hs : s.size < 4294967281) (hm : w.cell? ⟨0,0,none⟩ = some (.int .i64 m)) :
  Calls Tryz.prog 33 #[.string s,.string sep] w fun e w'=>e = .returned (.tuple #[.string ⟨(Lib.cut s.data.toList sep.data.toList).1.toArray⟩,.string ⟨(Lib.cut s.data.toList sep.data.toList).2.1.toArray⟩,.bool (Lib.cut s.data.toList sep.data.toList).2.2]) ∧ ∃ n,w' = w.drewN n:=Any.strings_Cut Tryz.lays145 s sep m w hs hm
def Tryz.lays138_ren : Go.Shelf.Ren:=⟨fun | 138=>47 | 195=>69 | 218=>71 | 143=>48 | 219=>72 | 217=>45 | 225=>120 | 224=>121 | 267=>122 | 266=>68 | 314=>192 | n=>n,fun | 9=>9 | 3=>3 | 4=>4 | 5=>5 | 0=>0 | 46=>177 | 146=>262 | 51=>95 | n=>n,fun | 1=>0 | n=>n⟩
theorem Tryz.lays138 : Go.Proofs.Lays.n138 Tryz.prog Tryz.lays138_ren:={
 mixed:=by kernel_rfl
 f138:=Tryz.func47.trans (congrArg some (by kernel_rfl))
 f143:=Tryz.func48.trans (congrArg some (by kernel_rfl))
 f195:=Tryz.func69.trans (congrArg some (by kernel_rfl))
 f217:=Tryz.func45.trans (congrArg some (by kernel_rfl))
 f218:=Tryz.func71.trans (congrArg some (by kernel_rfl))
 f219:=Tryz.func72.trans (congrArg some (by kernel_rfl))
 f224:=Tryz.func121.trans (congrArg some (by kernel_rfl))
 f225:=Tryz.func120.trans (congrArg some (by kernel_rfl))
 f266:=Tryz.func68.trans (congrArg some (by kernel_rfl))
 f267:=Tryz.func122.trans (congrArg some (by kernel_rfl))
 f314:=Tryz.func192.trans (congrArg some (by kernel_rfl))
 t0:=Tryz.underlying0
 a0:=Tryz.isAgg0
 z0:=Tryz.sizeOf0
 v0:=Tryz.zeroValue0
 t3:=Tryz.underlying3
 a3:=Tryz.isAgg3
 z3:=Tryz.sizeOf3
 v3:=Tryz.zeroValue3
 t4:=Tryz.underlying4
 a4:=Tryz.isAgg4
 z4:=Tryz.sizeOf4
 v4:=Tryz.zeroValue4
 t5:=Tryz.underlying5
 a5:=Tryz.isAgg5
 z5:=Tryz.sizeOf5
 v5:=Tryz.zeroValue5
 t9:=Tryz.underlying9
 a9:=Tryz.isAgg9
 z9:=Tryz.sizeOf9
 v9:=Tryz.zeroValue9
 t46:=Tryz.underlying177
 a46:=Tryz.isAgg177
 z46:=Tryz.sizeOf177
 v46:=Tryz.zeroValue177
 t51:=Tryz.underlying95
 a51:=Tryz.isAgg95
 z51:=Tryz.sizeOf95
 v51:=Tryz.zeroValue95
 t146:=Tryz.underlying262
 a146:=Tryz.isAgg262
 z146:=Tryz.sizeOf262
 v146:=Tryz.zeroValue262
 g1:=by kernel_rfl }
open Go.RowKit Go.Lib in
theorem Tryz.strings_Count_one (s : ByteArray) (c : UInt8) (w : World) :
  Calls Tryz.prog 47 #[.string s,.string ⟨#[c]⟩] w fun e w'=>e = .returned (.int .i64 (Lib.countByte s.data.toList c)) ∧ w' = w:=Any.strings_Count_one Tryz.lays138 s c w
def Tryz.laysM143_ren : Go.Shelf.Ren:=⟨fun | 143=>48 | 219=>72 | 217=>45 | 225=>120 | 224=>121 | 267=>122 | 266=>68 | 314=>192 | n=>n,fun | 9=>9 | 3=>3 | 4=>4 | 5=>5 | 46=>177 | 146=>262 | 51=>95 | n=>n,fun | 1=>0 | n=>n⟩
theorem Tryz.laysM143 : Go.Proofs.LaysM.n143 Tryz.prog Tryz.laysM143_ren:={
 mixed:=by kernel_rfl
 f143:=Tryz.func48.trans (congrArg some (by kernel_rfl))
 f217:=Tryz.func45.trans (congrArg some (by kernel_rfl))
 f219:=Tryz.func72.trans (congrArg some (by kernel_rfl))
 f224:=Tryz.func121.trans (congrArg some (by kernel_rfl))
 f225:=Tryz.func120.trans (congrArg some (by kernel_rfl))
 f266:=Tryz.func68.trans (congrArg some (by kernel_rfl))
 f267:=Tryz.func122.trans (congrArg some (by kernel_rfl))
 f314:=Tryz.func192.trans (congrArg some (by kernel_rfl))
 t3:=Tryz.underlying3
 a3:=Tryz.isAgg3
 z3:=Tryz.sizeOf3
 v3:=Tryz.zeroValue3
 t4:=Tryz.underlying4
 a4:=Tryz.isAgg4
 z4:=Tryz.sizeOf4
 v4:=Tryz.zeroValue4
 t5:=Tryz.underlying5
 a5:=Tryz.isAgg5
 z5:=Tryz.sizeOf5
 v5:=Tryz.zeroValue5
 t9:=Tryz.underlying9
 a9:=Tryz.isAgg9
 z9:=Tryz.sizeOf9
 v9:=Tryz.zeroValue9
 t46:=Tryz.underlying177
 a46:=Tryz.isAgg177
 z46:=Tryz.sizeOf177
 v46:=Tryz.zeroValue177
 t51:=Tryz.underlying95
 a51:=Tryz.isAgg95
 z51:=Tryz.sizeOf95
 v51:=Tryz.zeroValue95
 t146:=Tryz.underlying262
 a146:=Tryz.isAgg262
 z146:=Tryz.sizeOf262
 v146:=Tryz.zeroValue262
 g1:=by kernel_rfl
 i3:=by kernel_rfl
 i4:=by kernel_rfl
 i5:=by kernel_rfl
 i9:=by kernel_rfl
 i46:=by kernel_rfl
 i51:=by kernel_rfl
 i146:=by kernel_rfl
 m1:=by kernel_rfl
 s1_3:=fun w h=>Go.Proofs.cell_of_shapedOpen_int (zero := #[.int .i64 0]) (t:=3) h (of_decide_eq_true (by kernel_rfl)) (by kernel_rfl) rfl (by kernel_rfl) (by kernel_rfl) Tryz.underlying3 }
def Tryz.lays221_ren : Go.Shelf.Ren:=⟨fun | 221=>32 | 268=>46 | 138=>47 | 143=>48 | 195=>69 | 197=>70 | 218=>71 | 219=>72 | 260=>119 | 217=>45 | 225=>120 | 224=>121 | 267=>122 | 266=>68 | 314=>192 | n=>n,fun | 9=>9 | 3=>3 | 31=>40 | 4=>4 | 0=>0 | 105=>109 | 21=>21 | 5=>5 | 46=>177 | 119=>252 | 139=>261 | 138=>260 | 146=>262 | 51=>95 | n=>n,fun | 1=>0 | 3=>2 | 4=>3 | n=>n⟩
theorem Tryz.lays221 : Go.Proofs.Lays.n221 Tryz.prog Tryz.lays221_ren:={
 mixed:=by kernel_rfl
 f138:=Tryz.func47.trans (congrArg some (by kernel_rfl))
 f143:=Tryz.func48.trans (congrArg some (by kernel_rfl))
 f195:=Tryz.func69.trans (congrArg some (by kernel_rfl))
 f197:=Tryz.func70.trans (congrArg some (by kernel_rfl))
 f217:=Tryz.func45.trans (congrArg some (by kernel_rfl))
 f218:=Tryz.func71.trans (congrArg some (by kernel_rfl))
 f219:=Tryz.func72.trans (congrArg some (by kernel_rfl))
 f221:=Tryz.func32.trans (congrArg some (by kernel_rfl))
 f224:=Tryz.func121.trans (congrArg some (by kernel_rfl))
 f225:=Tryz.func120.trans (congrArg some (by kernel_rfl))
 f260:=Tryz.func119.trans (congrArg some (by kernel_rfl))
 f266:=Tryz.func68.trans (congrArg some (by kernel_rfl))
 f267:=Tryz.func122.trans (congrArg some (by kernel_rfl))
 f268:=Tryz.func46.trans (congrArg some (by kernel_rfl))
 f314:=Tryz.func192.trans (congrArg some (by kernel_rfl))
 t0:=Tryz.underlying0
 a0:=Tryz.isAgg0
 z0:=Tryz.sizeOf0
 v0:=Tryz.zeroValue0
 t3:=Tryz.underlying3
 a3:=Tryz.isAgg3
 z3:=Tryz.sizeOf3
 v3:=Tryz.zeroValue3
 t4:=Tryz.underlying4
 a4:=Tryz.isAgg4
 z4:=Tryz.sizeOf4
 v4:=Tryz.zeroValue4
 t5:=Tryz.underlying5
 a5:=Tryz.isAgg5
 z5:=Tryz.sizeOf5
 v5:=Tryz.zeroValue5
 t9:=Tryz.underlying9
 a9:=Tryz.isAgg9
 z9:=Tryz.sizeOf9
 v9:=Tryz.zeroValue9
 t21:=Tryz.underlying21
 a21:=Tryz.isAgg21
 z21:=Tryz.sizeOf21
 v21:=Tryz.zeroValue21
 t31:=Tryz.underlying40
 a31:=Tryz.isAgg40
 z31:=Tryz.sizeOf40
 v31:=Tryz.zeroValue40
 t46:=Tryz.underlying177
 a46:=Tryz.isAgg177
 z46:=Tryz.sizeOf177
 v46:=Tryz.zeroValue177
 t51:=Tryz.underlying95
 a51:=Tryz.isAgg95
 z51:=Tryz.sizeOf95
 v51:=Tryz.zeroValue95
 t105:=Tryz.underlying109
 a105:=Tryz.isAgg109
 z105:=Tryz.sizeOf109
 v105:=Tryz.zeroValue109
 t119:=Tryz.underlying252
 a119:=Tryz.isAgg252
 z119:=Tryz.sizeOf252
 t138:=Tryz.underlying260
 a138:=Tryz.isAgg260
 z138:=Tryz.sizeOf260
 v138:=Tryz.zeroValue260
 t139:=Tryz.underlying261
 a139:=Tryz.isAgg261
 z139:=Tryz.sizeOf261
 v139:=Tryz.zeroValue261
 t146:=Tryz.underlying262
 a146:=Tryz.isAgg262
 z146:=Tryz.sizeOf262
 v146:=Tryz.zeroValue262
 g1:=by kernel_rfl
 g3:=by kernel_rfl
 g4:=by kernel_rfl }
open Go.RowKit Go.Lib in
theorem Tryz.strings_genSplit (s sep : ByteArray) (sv : Nat) (n : Int) (N : Nat) (m : Int) (w : World) (hs : s.size < 4294967281) (hm : w.cell? ⟨0,0,none⟩ = some (.int .i64 m)) (h1 : 1 ≤ sep.size) (hsv : sv ≤ sep.size) (hn0 : n ≠ 0) (hn63 : n ≤ 9223372036854775807) (hN : (N : Int) = min (if n < 0 then (Lib.countB s sep : Int) + 1 else n) ((s.size : Int) + 1)) :
  Calls Tryz.prog 32 #[.string s,.string sep,.int .i64 sv,.int .i64 n] w fun e w' =>
   e = .returned (.slice (some ⟨w.heap.size,0,none⟩) (Lib.splitB sep sv (N - 1) s).length N) ∧ w' = w.alloc (.cells (Lib.cellsOf (Lib.splitB sep sv (N - 1) s) N) 9):=Any.strings_genSplit Tryz.lays221 (by kernel_rfl) s sep sv n N m w hs hm h1 hsv hn0 hn63 hN
def Tryz.lays155_ren : Go.Shelf.Ren:=⟨fun | 155=>235 | 154=>315 | 138=>47 | 165=>38 | 143=>48 | 166=>39 | 197=>70 | 169=>40 | 195=>69 | 218=>71 | 240=>63 | 241=>64 | 219=>72 | 260=>119 | 276=>110 | 277=>111 | 217=>45 | 225=>120 | 224=>121 | 267=>122 | 266=>68 | 314=>192 | n=>n,fun | 9=>9 | 3=>3 | 4=>4 | 72=>68 | 0=>0 | 76=>72 | 105=>109 | 21=>21 | 5=>5 | 70=>66 | 20=>20 | 37=>29 | 75=>71 | 127=>90 | 164=>166 | 46=>177 | 119=>252 | 139=>261 | 138=>260 | 146=>262 | 51=>95 | 80=>74 | n=>n,fun | 1=>0 | 3=>2 | 4=>3 | n=>n⟩
theorem Tryz.lays155 : Go.Proofs.Lays.n155 Tryz.prog Tryz.lays155_ren:={
 mixed:=by kernel_rfl
 f138:=Tryz.func47.trans (congrArg some (by kernel_rfl))
 f143:=Tryz.func48.trans (congrArg some (by kernel_rfl))
 f154:=Tryz.func315.trans (congrArg some (by kernel_rfl))
 f155:=Tryz.func235.trans (congrArg some (by kernel_rfl))
 f165:=Tryz.func38.trans (congrArg some (by kernel_rfl))
 f166:=Tryz.func39.trans (congrArg some (by kernel_rfl))
 f169:=Tryz.func40.trans (congrArg some (by kernel_rfl))
 f195:=Tryz.func69.trans (congrArg some (by kernel_rfl))
 f197:=Tryz.func70.trans (congrArg some (by kernel_rfl))
 f217:=Tryz.func45.trans (congrArg some (by kernel_rfl))
 f218:=Tryz.func71.trans (congrArg some (by kernel_rfl))
 f219:=Tryz.func72.trans (congrArg some (by kernel_rfl))
 f224:=Tryz.func121.trans (congrArg some (by kernel_rfl))
 f225:=Tryz.func120.trans (congrArg some (by kernel_rfl))
 f240:=Tryz.func63.trans (congrArg some (by kernel_rfl))
 f241:=Tryz.func64.trans (congrArg some (by kernel_rfl))
 f260:=Tryz.func119.trans (congrArg some (by kernel_rfl))
 f266:=Tryz.func68.trans (congrArg some (by kernel_rfl))
 f267:=Tryz.func122.trans (congrArg some (by kernel_rfl))
 f276:=Tryz.func110.trans (congrArg some (by kernel_rfl))
 f277:=Tryz.func111.trans (congrArg some (by kernel_rfl))
 f314:=Tryz.func192.trans (congrArg some (by kernel_rfl))
 t0:=Tryz.underlying0
 a0:=Tryz.isAgg0
 z0:=Tryz.sizeOf0
 v0:=Tryz.zeroValue0
 t3:=Tryz.underlying3
 a3:=Tryz.isAgg3
 z3:=Tryz.sizeOf3
 v3:=Tryz.zeroValue3
 t4:=Tryz.underlying4
 a4:=Tryz.isAgg4
 z4:=Tryz.sizeOf4
 v4:=Tryz.zeroValue4
 t5:=Tryz.underlying5
 a5:=Tryz.isAgg5
 z5:=Tryz.sizeOf5
 v5:=Tryz.zeroValue5
 t9:=Tryz.underlying9
 a9:=Tryz.isAgg9
 z9:=Tryz.sizeOf9
 v9:=Tryz.zeroValue9
 t20:=Tryz.underlying20
 a20:=Tryz.isAgg20
 z20:=Tryz.sizeOf20
 v20:=Tryz.zeroValue20
 t21:=Tryz.underlying21
 a21:=Tryz.isAgg21
 z21:=Tryz.sizeOf21
 v21:=Tryz.zeroValue21
 t37:=Tryz.underlying29
 a37:=Tryz.isAgg29
 z37:=Tryz.sizeOf29
 v37:=Tryz.zeroValue29
 t46:=Tryz.underlying177
 a46:=Tryz.isAgg177
 z46:=Tryz.sizeOf177
 v46:=Tryz.zeroValue177
 t51:=Tryz.underlying95
 a51:=Tryz.isAgg95
 z51:=Tryz.sizeOf95
 v51:=Tryz.zeroValue95
 t70:=Tryz.underlying66
 a70:=Tryz.isAgg66
 z70:=Tryz.sizeOf66
 v70:=Tryz.zeroValue66
 t72:=Tryz.underlying68
 a72:=Tryz.isAgg68
 z72:=Tryz.sizeOf68
 v72:=Tryz.zeroValue68
 t75:=Tryz.underlying71
 a75:=Tryz.isAgg71
 z75:=Tryz.sizeOf71
 v75:=Tryz.zeroValue71
 t76:=Tryz.underlying72
 a76:=Tryz.isAgg72
 z76:=Tryz.sizeOf72
 v76:=Tryz.zeroValue72
 t105:=Tryz.underlying109
 a105:=Tryz.isAgg109
 z105:=Tryz.sizeOf109
 v105:=Tryz.zeroValue109
 t119:=Tryz.underlying252
 a119:=Tryz.isAgg252
 z119:=Tryz.sizeOf252
 t127:=Tryz.underlying90
 a127:=Tryz.isAgg90
 z127:=Tryz.sizeOf90
 v127:=Tryz.zeroValue90
 t138:=Tryz.underlying260
 a138:=Tryz.isAgg260
 z138:=Tryz.sizeOf260
 v138:=Tryz.zeroValue260
 t139:=Tryz.underlying261
 a139:=Tryz.isAgg261
 z139:=Tryz.sizeOf261
 v139:=Tryz.zeroValue261
 t146:=Tryz.underlying262
 a146:=Tryz.isAgg262
 z146:=Tryz.sizeOf262
 v146:=Tryz.zeroValue262
 t164:=Tryz.underlying166
 a164:=Tryz.isAgg166
 z164:=Tryz.sizeOf166
 v164:=Tryz.zeroValue166
 g1:=by kernel_rfl
 g3:=by kernel_rfl
 g4:=by kernel_rfl }
theorem Tryz.Builder_Extra_155 : Builder.Extra Tryz.prog Tryz.lays155_ren:={
 sizeBuilder:=by kernel_rfl
 liesBuilder:=by kernel_rfl
 t5:=Tryz.underlying5
 a5:=Tryz.isAgg5
 z5:=Tryz.sizeOf5
 v5:=Tryz.zeroValue5
 infoByte:=by kernel_rfl
 cellsByte:=by kernel_rfl
 sizeByte:=by kernel_rfl
 neB5:=by decide }
open Go.RowKit Go.Lib in
theorem Tryz.strings_ReplaceAll (s old new : ByteArray) (m : Int) (w : World) (hs : s.size < 4294967281) (hm : w.cell? ⟨0,0,none⟩ = some (.int .i64 m)) (h1 : 1 ≤ old.size) (hlen : s.size + Lib.countB s old * new.size ≤ 140737488355328) :
  Calls Tryz.prog 235 #[.string s,.string old,.string new] w fun e w' =>
   e = .returned (.string ⟨(Lib.replaceAll s.data.toList old.data.toList new.data.toList).toArray⟩) ∧ Below w.heap.size w w':=Any.strings_ReplaceAll Tryz.lays155 Tryz.Builder_Extra_155 s old new m w hs hm h1 hlen
end Go.Proofs

namespace Go.Dd
open Go.Proofs
def gM (c : Nat) : List Nat → Nat
 | []=>0
 | x :: l=>bif Nat.beq x c then gM c l + 1 else gM c l
def tY (args : List DV) (h : Hp) : aH :=
 match args with
 | [.s s,.s [c]]=>bif Nat.blt c 256 then (bif Nat.ble s.length 4000000000 then some (.i .i64 (Int.ofNat (gM c s)),h) else none) else none
 | _=>none
def isI (k : IntKind) (n : Int) (v : DV) : Bool:=match v with
 | .i k' n'=>decide (k = k') && decide (n = n')
 | _=>false
def aDi (args : List DV) (h : Hp) : aH :=
 match args with
 | [.p r 0,.f 67 [x] []] =>
  bnd (aA (.p r 0) h) fun d _ =>
  bnd (aA (.p r 1) h) fun m _ =>
  cnd (isI .u32 0 d && isI .i32 0 m) (
  bnd (aG 1 (.p r 1) (.i .i32 1) h) fun _ h2 =>
  bnd (mS CF0 60 67 [x] h2) fun v h3 =>
  bnd (aA (.p r 1) h3) fun m3 _ =>
  cnd (isI .i32 1 m3) (match v with
   | .t [] =>
    bnd (aG 1 (.p r 0) (.i .u32 1) h3) fun _ h4 =>
    bnd (aG 1 (.p r 1) (.i .i32 0) h4) fun _ h5=>some (.t [],h5)
   | _=>none))
 | _=>none
def CFq : Cfg:=⟨Tryz.prog,fun g=>bif Nat.beq g 47 then some tY else bif Nat.beq g 66 then some aDi else none⟩
def s25 (rec : RT) (n : Nat) (x0 : DV) (h0 : Hp) : aH :=
 bnd (aO [(.s []),(.s []),(.s []),(.s []),(.s []),(.s [])] 6 [(0,1,(.s [10])),(1,1,(.s [92,110])),(2,1,(.s [34])),(3,1,(.s [92,34])),(4,1,(.s [92])),(5,1,(.s [92,92]))] h0) fun v1 h1 =>
 bnd (rec 42 [v1] h1) fun v2 h2 =>
 bnd (rec 43 [v2,x0] h2) fun v3 h3 =>
 bnd (bI .add (.s [34]) v3 h3) fun v4 h4 =>
 bnd (bI .add v4 (.s [34]) h4) fun v5 h5 =>
 some (v5,h5)
abbrev c25 : Code:=cf Tryz.f25
def D25 (rec : RT) (n : Nat) (c : Code) (X : Nat → K) (k : K) : K:=aM CFq rec 9 n c X (aR CFq Tryz.f25) k
theorem dSy (rec : RT) (n : Nat) : D25 rec n c25 x0 (aR CFq Tryz.f25) = (K1 (s25 rec n) 0) :=
 (by kernel_rfl)
theorem dOl (rec : RT) (n : Nat) (args : List DV) (h : Hp) : aF CFq rec n 25 args h = s25 rec n (args.getD 0 aS) h :=
 (by kernel_rfl : aF CFq rec n 25 args h = D25 rec n c25 x0 (aR CFq Tryz.f25) (aJ args) h).trans ((congrFun (congrFun (dSy rec n) (aJ args)) h).trans (by kernel_rfl))
def bDl (rec : RT) (n : Nat) (x0 : DV) (h0 : Hp) : aH :=
 bnd (bB 1 16 .l0 x0 h0) fun v1 h1 =>
 bnd (bK [(.i .u32 (Int.ofNat 0)),(.i .i32 (Int.ofNat 0)),(.i .u32 (Int.ofNat 0)),.n0,.l0] [(4,1,v1)] h1) fun v2 h2 =>
 bnd (dA v2 h2) fun v3 h3 =>
 some (v3,h3)
def bQp (rec : RT) (n : Nat) (x0 : DV) (h0 : Hp) : aH :=
 bnd (cB x0 h0) fun v7 h7 =>
 bnd (aD .rem v7 (.i .i64 (Int.ofNat 2)) h7) fun v8 h8 =>
 bnd (aD .eql v8 (.i .i64 (Int.ofNat 1)) h8) fun v9 h9 =>
 aT v9 (
  bnd (none) fun _ h10 =>
  bDl rec n x0 h10) (
  bDl rec n x0 h9)
def s42 (rec : RT) (n : Nat) (x0 : DV) (h0 : Hp) : aH :=
 bQp rec n x0 h0
abbrev c42 : Code:=cf Tryz.f42
abbrev bBu : Code:=cR c42
abbrev dMg : Code:=cR bBu
abbrev cSi : Code:=cL bBu
abbrev cUd : Code:=cL c42
def D42 (rec : RT) (n : Nat) (c : Code) (X : Nat → K) (k : K) : K:=aM CFq rec 12 n c X (aR CFq Tryz.f42) k
theorem cYc (rec : RT) (n : Nat) : D42 rec n dMg x0 (aR CFq Tryz.f42) = (K1 (bDl rec n) 0) :=
 (by kernel_rfl)
theorem cDw (rec : RT) (n : Nat) : D42 rec n bBu x0 (aR CFq Tryz.f42) = D42 rec n cSi x0 (K1 (bDl rec n) 0) :=
 congrArg (fun k=>D42 rec n cSi x0 k) (cYc rec n)
theorem cXr (rec : RT) (n : Nat) : D42 rec n bBu x0 (aR CFq Tryz.f42) = (K1 (bQp rec n) 0) :=
 (cDw rec n).trans
 ((by kernel_rfl))
theorem dOq (rec : RT) (n : Nat) : D42 rec n c42 x0 (aR CFq Tryz.f42) = D42 rec n cUd x0 (K1 (bQp rec n) 0) :=
 congrArg (fun k=>D42 rec n cUd x0 k) (cXr rec n)
theorem dSm (rec : RT) (n : Nat) : D42 rec n c42 x0 (aR CFq Tryz.f42) = (K1 (s42 rec n) 0) :=
 (dOq rec n).trans
 ((by kernel_rfl))
theorem dJi (rec : RT) (n : Nat) (args : List DV) (h : Hp) : aF CFq rec n 42 args h = s42 rec n (args.getD 0 aS) h :=
 (by kernel_rfl : aF CFq rec n 42 args h = D42 rec n c42 x0 (aR CFq Tryz.f42) (aJ args) h).trans ((congrFun (congrFun (dSm rec n) (aJ args)) h).trans (by kernel_rfl))
def s43 (rec : RT) (n : Nat) (x0 x1 : DV) (h0 : Hp) : aH :=
 bnd (aY x0 h0) fun v1 h1 =>
 bnd (aB 0 v1 h1) fun v2 h2 =>
 bnd (aDi [v2,(.f 67 [x0] [])] h2) fun v3 h3 =>
 bnd (aY x0 h3) fun v4 h4 =>
 bnd (aB 3 v4 h4) fun v5 h5 =>
 bnd (aA v5 h5) fun v6 h6 =>
 bnd (aUm CFq rec v6 "Replace" [x1] h6) fun v7 h7 =>
 some (v7,h7)
abbrev c43 : Code:=cf Tryz.f43
def D43 (rec : RT) (n : Nat) (c : Code) (X : Nat → K) (k : K) : K:=aM CFq rec 17 n c X (aR CFq Tryz.f43) k
theorem dWk (rec : RT) (n : Nat) : D43 rec n c43 x0 (aR CFq Tryz.f43) = (K2 (s43 rec n) 0 1) :=
 (by kernel_rfl)
theorem dKr (rec : RT) (n : Nat) (args : List DV) (h : Hp) : aF CFq rec n 43 args h = s43 rec n (args.getD 0 aS) (args.getD 1 aS) h :=
 (by kernel_rfl : aF CFq rec n 43 args h = D43 rec n c43 x0 (aR CFq Tryz.f43) (aJ args) h).trans ((congrFun (congrFun (dWk rec n) (aJ args)) h).trans (by kernel_rfl))
def s67 (rec : RT) (n : Nat) (x0 : DV) (h0 : Hp) : aH :=
 bnd (rec 118 [x0] h0) fun v1 h1 =>
 bnd (aY x0 h1) fun v2 h2 =>
 bnd (aB 3 v2 h2) fun v3 h3 =>
 bnd (aG 1 v3 v1 h3) fun _ h4 =>
 bnd (aY x0 h4) fun v5 h5 =>
 bnd (aB 4 v5 h5) fun v6 h6 =>
 bnd (aG 1 v6 .l0 h6) fun _ h7 =>
 some (.t [],h7)
abbrev c67 : Code:=cf Tryz.f67
def D67 (rec : RT) (n : Nat) (c : Code) (X : Nat → K) (k : K) : K:=aM CFq rec 10 n c X (aR CFq Tryz.f67) k
theorem dXc (rec : RT) (n : Nat) : D67 rec n c67 x0 (aR CFq Tryz.f67) = (K1 (s67 rec n) 0) :=
 (by kernel_rfl)
theorem dXt (rec : RT) (n : Nat) (args : List DV) (h : Hp) : aF CFq rec n 67 args h = s67 rec n (args.getD 0 aS) h :=
 (by kernel_rfl : aF CFq rec n 67 args h = D67 rec n c67 x0 (aR CFq Tryz.f67) (aJ args) h).trans ((congrFun (congrFun (dXc rec n) (aJ args)) h).trans (by kernel_rfl))
def dL (rec : RT) (n : Nat) (x12 : DV) (h0 : Hp) : aH :=
 bnd (eZ x12 h0) fun v1 h1 =>
 some (v1,h1)
def oT (rec : RT) (n : Nat) (kk10 : dJ) (x0 x1 x12 x13 x14 : DV) (h0 : Hp) : aH :=
 bnd (aD .add x14 (.i .i64 (Int.ofNat 1)) h0) fun v3 h3 =>
 kk10 x0 x1 x12 x13 v3 h3
def wD (rec : RT) (n : Nat) (kk10 : dJ) (x0 x1 x12 x13 x14 : DV) (h0 : Hp) : aH :=
 bnd (bX x1 x14 h0) fun v5 h5 =>
 bnd (aY x0 h5) fun v6 h6 =>
 bnd (aB 0 v6 h6) fun v7 h7 =>
 bnd (eL 256 1 v7 v5 h7) fun v8 h8 =>
 bnd (aA v8 h8) fun v9 h9 =>
 bnd (pEq (.slice 5) false v9 .l0 h9) fun v10 h10 =>
 aT v10 (
  bnd (dF 1 x12 (some x13) none h10) fun v11 h11 =>
  bnd (aY x0 h11) fun v12 h12 =>
  bnd (aB 0 v12 h12) fun v13 h13 =>
  bnd (eL 256 1 v13 v5 h13) fun v14 h14 =>
  bnd (aA v14 h14) fun v15 h15 =>
  bnd (rJ 1 v11 v15 h15) fun v16 h16 =>
  bnd (aD .add x13 v16 h16) fun v17 h17 =>
  oT rec n kk10 x0 x1 x12 v17 x14 h17) (
  bnd (aE 1 x12 x13 h10) fun v18 h18 =>
  bnd (aG 1 v18 v5 h18) fun _ h19 =>
  bnd (aD .add x13 (.i .i64 (Int.ofNat 1)) h19) fun v20 h20 =>
  oT rec n kk10 x0 x1 x12 v20 x14 h20)
def mC (rec : RT) (n : Nat) (kk10 : dJ) (x0 x1 x12 x13 x14 : DV) (h0 : Hp) : aH :=
  bnd (cM x1 h0) fun v37 h37 =>
  bnd (aD .lss x14 v37 h37) fun v38 h38 =>
  aT v38 (
   wD rec n kk10 x0 x1 x12 x13 x14 h38) (
   dL rec n x12 h38)
def kF (rec : RT) (n : Nat) (m : Nat) : dJ :=
 Nat.rec (motive:=fun _=>dJ) (fun _ _ _ _ _ _=>none) (fun _ ih=>mC rec n ih) m
def aYm (rec : RT) (n : Nat) : dJ:=kF rec n n
def aPz (rec : RT) (n : Nat) (x0 x1 x12 x13 x14 : DV) (h0 : Hp) : aH :=
 aYm rec n x0 x1 x12 x13 x14 h0
def aQf (rec : RT) (n : Nat) (x0 x1 x12 x13 : DV) (h0 : Hp) : aH :=
 aPz rec n x0 x1 x12 x13 (.i .i64 (Int.ofNat 0)) h0
def xY (rec : RT) (n : Nat) (x0 x1 x12 : DV) (h0 : Hp) : aH :=
 aQf rec n x0 x1 x12 (.i .i64 (Int.ofNat 0)) h0
def aAf (rec : RT) (n : Nat) (x0 x1 x5 : DV) (h0 : Hp) : aH :=
 bnd (bU 1 1 [(.i .u8 (Int.ofNat 0))] x5 x5 h0) fun v41 h41 =>
 xY rec n x0 x1 v41 h41
def bC (rec : RT) (n : Nat) (x0 x1 x5 x6 : DV) (h0 : Hp) : aH :=
 bnd (gQ .not x6 h0) fun v45 h45 =>
 aT v45 (
  some (x1,h45)) (
  aAf rec n x0 x1 x5 h45)
def oX (rec : RT) (n : Nat) (kk16 : TT7) (x0 x1 x5 x6 x30 x31 x32 : DV) (h0 : Hp) : aH :=
 bnd (aD .add x32 (.i .i64 (Int.ofNat 1)) h0) fun v47 h47 =>
 kk16 x0 x1 x5 x6 x30 x31 v47 h47
def oO (rec : RT) (n : Nat) (kk16 : TT7) (x0 x1 x5 x6 x30 x31 x32 : DV) (h0 : Hp) : aH :=
 bnd (aE 1 x30 x32 h0) fun v49 h49 =>
 bnd (aA v49 h49) fun v50 h50 =>
 bnd (tY [x1,v50] h50) fun v51 h51 =>
 bnd (aD .neq v51 (.i .i64 (Int.ofNat 0)) h51) fun v52 h52 =>
 aT v52 (
  bnd (bX v50 (.i .i64 (Int.ofNat 0)) h52) fun v53 h53 =>
  bnd (aY x0 h53) fun v54 h54 =>
  bnd (aB 0 v54 h54) fun v55 h55 =>
  bnd (eL 256 1 v55 v53 h55) fun v56 h56 =>
  bnd (aA v56 h56) fun v57 h57 =>
  bnd (cB v57 h57) fun v58 h58 =>
  bnd (aD .sub v58 (.i .i64 (Int.ofNat 1)) h58) fun v59 h59 =>
  bnd (aD .mul v51 v59 h59) fun v60 h60 =>
  bnd (aD .add x5 v60 h60) fun v61 h61 =>
  oX rec n kk16 x0 x1 v61 (.b true) x30 x31 x32 h61) (
  oX rec n kk16 x0 x1 x5 x6 x30 x31 x32 h52)
def sX (rec : RT) (n : Nat) (kk16 : TT7) (x0 x1 x5 x6 x30 x31 x32 x33 : DV) (h0 : Hp) : aH :=
 aT x33 (
  oO rec n kk16 x0 x1 x5 x6 x30 x31 x32 h0) (
  bC rec n x0 x1 x5 x6 h0)
def lW (rec : RT) (n : Nat) (kk16 : TT7) (x0 x1 x5 x6 x30 x31 x32 : DV) (h0 : Hp) : aH :=
  bnd (aD .lss x32 x31 h0) fun v75 h75 =>
  sX rec n kk16 x0 x1 x5 x6 x30 x31 x32 v75 h75
def iG (rec : RT) (n : Nat) (m : Nat) : TT7 :=
 Nat.rec (motive:=fun _=>TT7) (fun _ _ _ _ _ _ _ _=>none) (fun _ ih=>lW rec n ih) m
def aJv (rec : RT) (n : Nat) : TT7:=iG rec n n
def wS (rec : RT) (n : Nat) (x0 x1 x5 x6 x30 x31 x32 : DV) (h0 : Hp) : aH :=
 aJv rec n x0 x1 x5 x6 x30 x31 x32 h0
def aIw (rec : RT) (n : Nat) (x0 x1 x5 x6 : DV) (h0 : Hp) : aH :=
 bnd (aY x0 h0) fun v77 h77 =>
 bnd (aB 256 v77 h77) fun v78 h78 =>
 bnd (aA v78 h78) fun v79 h79 =>
 bnd (cB v79 h79) fun v80 h80 =>
 wS rec n x0 x1 x5 x6 v79 v80 (.i .i64 (Int.ofNat 0)) h80
def oY (rec : RT) (n : Nat) (kk22 : dJ) (x0 x1 x5 x6 x10 : DV) (h0 : Hp) : aH :=
 bnd (aD .add x10 (.i .i64 (Int.ofNat 1)) h0) fun v85 h85 =>
 kk22 x0 x1 x5 x6 v85 h85
def xF (rec : RT) (n : Nat) (kk22 : dJ) (x0 x1 x5 x6 x10 : DV) (h0 : Hp) : aH :=
 bnd (bX x1 x10 h0) fun v87 h87 =>
 bnd (aY x0 h87) fun v88 h88 =>
 bnd (aB 0 v88 h88) fun v89 h89 =>
 bnd (eL 256 1 v89 v87 h89) fun v90 h90 =>
 bnd (aA v90 h90) fun v91 h91 =>
 bnd (pEq (.slice 5) false v91 .l0 h91) fun v92 h92 =>
 aT v92 (
  bnd (aY x0 h92) fun v93 h93 =>
  bnd (aB 0 v93 h93) fun v94 h94 =>
  bnd (eL 256 1 v94 v87 h94) fun v95 h95 =>
  bnd (aA v95 h95) fun v96 h96 =>
  bnd (cB v96 h96) fun v97 h97 =>
  bnd (aD .sub v97 (.i .i64 (Int.ofNat 1)) h97) fun v98 h98 =>
  bnd (aD .add x5 v98 h98) fun v99 h99 =>
  oY rec n kk22 x0 x1 v99 (.b true) x10 h99) (
  oY rec n kk22 x0 x1 x5 x6 x10 h92)
def mH (rec : RT) (n : Nat) (kk22 : dJ) (x0 x1 x5 x6 x10 : DV) (h0 : Hp) : aH :=
  bnd (cM x1 h0) fun v113 h113 =>
  bnd (aD .lss x10 v113 h113) fun v114 h114 =>
  aT v114 (
   xF rec n kk22 x0 x1 x5 x6 x10 h114) (
   bC rec n x0 x1 x5 x6 h114)
def kP (rec : RT) (n : Nat) (m : Nat) : dJ :=
 Nat.rec (motive:=fun _=>dJ) (fun _ _ _ _ _ _=>none) (fun _ ih=>mH rec n ih) m
def bCv (rec : RT) (n : Nat) : dJ:=kP rec n n
def aKo (rec : RT) (n : Nat) (x0 x1 x5 x6 x10 : DV) (h0 : Hp) : aH :=
 bCv rec n x0 x1 x5 x6 x10 h0
def aYw (rec : RT) (n : Nat) (x0 x1 x5 x6 : DV) (h0 : Hp) : aH :=
 aKo rec n x0 x1 x5 x6 (.i .i64 (Int.ofNat 0)) h0
def wQ (rec : RT) (n : Nat) (x0 x1 x5 x6 x26 : DV) (h0 : Hp) : aH :=
 aT x26 (
  aIw rec n x0 x1 x5 x6 h0) (
  aYw rec n x0 x1 x5 x6 h0)
def aGf (rec : RT) (n : Nat) (x0 x1 x5 x6 : DV) (h0 : Hp) : aH :=
 bnd (aY x0 h0) fun v117 h117 =>
 bnd (aB 256 v117 h117) fun v118 h118 =>
 bnd (aA v118 h118) fun v119 h119 =>
 bnd (cB v119 h119) fun v120 h120 =>
 bnd (aD .mul v120 (.i .i64 (Int.ofNat 8)) h120) fun v121 h121 =>
 bnd (cM x1 h121) fun v122 h122 =>
 bnd (aD .leq v121 v122 h122) fun v123 h123 =>
 wQ rec n x0 x1 x5 x6 v123 h123
def aEo (rec : RT) (n : Nat) (x0 x1 x5 : DV) (h0 : Hp) : aH :=
 aGf rec n x0 x1 x5 (.b false) h0
def aEt (rec : RT) (n : Nat) (x0 x1 : DV) (h0 : Hp) : aH :=
 bnd (cM x1 h0) fun v131 h131 =>
 aEo rec n x0 x1 v131 h131
def s582 (rec : RT) (n : Nat) (x0 x1 : DV) (h0 : Hp) : aH :=
 aEt rec n x0 x1 h0
abbrev c582 : Code:=cf Tryz.f582
abbrev aFe : Code:=cR c582
abbrev aIn : Code:=cR aFe
abbrev aEp : Code:=cR aIn
abbrev aKj : Code:=cR aEp
abbrev aLg : Code:=cR aKj
abbrev aEm : Code:=cR aLg
abbrev aEg : Code:=cR aEm
abbrev dGu : Code:=cR aEg
abbrev yG : Code:=cL aEg
abbrev aJe : Code:=cR yG
abbrev wZ : Code:=cL aJe
abbrev jF : Code:=cL wZ
abbrev wV : Code:=cR jF
abbrev cEw : Code:=cR wV
abbrev bCd : Code:=cL wV
abbrev bBq : Code:=cL jF
abbrev aVt : Code:=cL yG
abbrev bAe : Code:=cL aEm
abbrev aJq : Code:=cL aLg
abbrev bDu : Code:=cL aKj
abbrev rY : Code:=cL aEp
abbrev sA : Code:=cR rY
abbrev rM : Code:=cL sA
abbrev aIi : Code:=cR rM
abbrev wP : Code:=cL aIi
abbrev jD : Code:=cL wP
abbrev vW : Code:=cR jD
abbrev xM : Code:=cR vW
abbrev cKa : Code:=cR xM
abbrev bAj : Code:=cL xM
abbrev bCy : Code:=cL vW
abbrev bDq : Code:=cL jD
abbrev aZp : Code:=cL rM
abbrev rN : Code:=cR sA
abbrev aGh : Code:=cR rN
abbrev xJ : Code:=cL aGh
abbrev jH : Code:=cL xJ
abbrev wL : Code:=cR jH
abbrev cCb : Code:=cR wL
abbrev bBj : Code:=cL wL
abbrev aXg : Code:=cL jH
abbrev aZz : Code:=cL rN
abbrev bBn : Code:=cL rY
abbrev aYe : Code:=cL aIn
abbrev bDc : Code:=cL aFe
abbrev aVx : Code:=cL c582
def D582 (rec : RT) (n : Nat) (c : Code) (X : Nat → K) (k : K) : K:=aM CFq rec 122 n c X (aR CFq Tryz.f582) k
theorem cIe (rec : RT) (n : Nat) : D582 rec n dGu x0 (aR CFq Tryz.f582) = (K1 (dL rec n) 12) :=
 (by kernel_rfl)
theorem bJz (rec : RT) (n : Nat) (kk10 : dJ) : D582 rec n cEw (xs x0 4 (K1 (dL rec n) 12)) (K5 kk10 0 1 12 13 14) = (K5 (oT rec n kk10) 0 1 12 13 14) :=
 (by kernel_rfl)
theorem bHz (rec : RT) (n : Nat) (kk10 : dJ) : D582 rec n wV (xs x0 4 (K1 (dL rec n) 12)) (K5 kk10 0 1 12 13 14) = D582 rec n bCd (xs x0 4 (K1 (dL rec n) 12)) (K5 (oT rec n kk10) 0 1 12 13 14) :=
 congrArg (fun k=>D582 rec n bCd (xs x0 4 (K1 (dL rec n) 12)) k) (bJz rec n kk10)
theorem bUe (rec : RT) (n : Nat) (kk10 : dJ) : D582 rec n wV (xs x0 4 (K1 (dL rec n) 12)) (K5 kk10 0 1 12 13 14) = (K5 (wD rec n kk10) 0 1 12 13 14) :=
 (bHz rec n kk10).trans
 ((by kernel_rfl))
theorem bGl (rec : RT) (n : Nat) (kk10 : dJ) : D582 rec n jF (xs x0 4 (K1 (dL rec n) 12)) (K5 kk10 0 1 12 13 14) = D582 rec n bBq (xs x0 4 (K1 (dL rec n) 12)) (K5 (wD rec n kk10) 0 1 12 13 14) :=
 congrArg (fun k=>D582 rec n bBq (xs x0 4 (K1 (dL rec n) 12)) k) (bUe rec n kk10)
theorem bHx (rec : RT) (n : Nat) (kk10 : dJ) : D582 rec n jF (xs x0 4 (K1 (dL rec n) 12)) (K5 kk10 0 1 12 13 14) = (K5 (mC rec n kk10) 0 1 12 13 14) :=
 (bGl rec n kk10).trans
 ((by kernel_rfl))
theorem bIg (rec : RT) (n : Nat) (m : Nat) : aL (fun kk=>D582 rec n jF (xs x0 4 (K1 (dL rec n) 12)) kk) m = (K5 (kF rec n m) 0 1 12 13 14):=by
 induction m with
 | zero=>exact (by kernel_rfl : aL (fun kk=>D582 rec n jF (xs x0 4 (K1 (dL rec n) 12)) kk) 0 = (K5 (kF rec n 0) 0 1 12 13 14))
 | succ m ih =>
  refine (by kernel_rfl : aL (fun kk=>D582 rec n jF (xs x0 4 (K1 (dL rec n) 12)) kk) (m + 1) = D582 rec n jF (xs x0 4 (K1 (dL rec n) 12)) (aL (fun kk=>D582 rec n jF (xs x0 4 (K1 (dL rec n) 12)) kk) m)).trans ?_
  rw [ih]
  exact (bHx rec n (kF rec n m)).trans (by kernel_rfl)
theorem bYv (rec : RT) (n : Nat) : D582 rec n wZ (xs x0 4 (K1 (dL rec n) 12)) (K1 (dL rec n) 12) = (K5 (aYm rec n) 0 1 12 13 14) :=
 (by kernel_rfl : D582 rec n wZ (xs x0 4 (K1 (dL rec n) 12)) (K1 (dL rec n) 12) = aL (fun kk=>D582 rec n jF (xs x0 4 (K1 (dL rec n) 12)) kk) n).trans ((bIg rec n n).trans (by kernel_rfl))
theorem cHb (rec : RT) (n : Nat) : D582 rec n aJe x0 (K1 (dL rec n) 12) = (K5 (aPz rec n) 0 1 12 13 14) :=
 (by kernel_rfl : D582 rec n aJe x0 (K1 (dL rec n) 12) = D582 rec n wZ (xs x0 4 (K1 (dL rec n) 12)) (K1 (dL rec n) 12)).trans
 ((bYv rec n).trans (by kernel_rfl))
theorem bKr (rec : RT) (n : Nat) : D582 rec n aEg x0 (aR CFq Tryz.f582) = D582 rec n yG x0 (K1 (dL rec n) 12) :=
 congrArg (fun k=>D582 rec n yG x0 k) (cIe rec n)
theorem bZs (rec : RT) (n : Nat) : D582 rec n yG x0 (K1 (dL rec n) 12) = D582 rec n aVt x0 (K5 (aPz rec n) 0 1 12 13 14) :=
 congrArg (fun k=>D582 rec n aVt x0 k) (cHb rec n)
theorem cHi (rec : RT) (n : Nat) : D582 rec n aEg x0 (aR CFq Tryz.f582) = (K4 (aQf rec n) 0 1 12 13) :=
 (bKr rec n).trans
 ((bZs rec n).trans
 ((by kernel_rfl)))
theorem bSw (rec : RT) (n : Nat) : D582 rec n aEm x0 (aR CFq Tryz.f582) = D582 rec n bAe x0 (K4 (aQf rec n) 0 1 12 13) :=
 congrArg (fun k=>D582 rec n bAe x0 k) (cHi rec n)
theorem cCx (rec : RT) (n : Nat) : D582 rec n aEm x0 (aR CFq Tryz.f582) = (K3 (xY rec n) 0 1 12) :=
 (bSw rec n).trans
 ((by kernel_rfl))
theorem bOl (rec : RT) (n : Nat) : D582 rec n aLg x0 (aR CFq Tryz.f582) = D582 rec n aJq x0 (K3 (xY rec n) 0 1 12) :=
 congrArg (fun k=>D582 rec n aJq x0 k) (cCx rec n)
theorem bRf (rec : RT) (n : Nat) (q0 : dP) : D582 rec n aJq x0 (K3 q0 0 1 12) = fun (env : bA) (h : Hp) =>
  bnd (bU 1 1 [(.i .u8 (Int.ofNat 0))] (env 5) (env 5) h) fun v43 h43 =>
  q0 (env 0) (env 1) v43 h43:=by kernel_rfl
theorem bEs (rec : RT) (n : Nat) : (fun (env : bA) (h : Hp) =>
  bnd (bU 1 1 [(.i .u8 (Int.ofNat 0))] (env 5) (env 5) h) fun v44 h44 =>
  xY rec n (env 0) (env 1) v44 h44) = (K3 (aAf rec n) 0 1 5):=by kernel_rfl
theorem cKr (rec : RT) (n : Nat) : D582 rec n aLg x0 (aR CFq Tryz.f582) = (K3 (aAf rec n) 0 1 5) :=
 (bOl rec n).trans
 ((bRf rec n (xY rec n)).trans (bEs rec n))
theorem bIx (rec : RT) (n : Nat) : D582 rec n aKj x0 (aR CFq Tryz.f582) = D582 rec n bDu x0 (K3 (aAf rec n) 0 1 5) :=
 congrArg (fun k=>D582 rec n bDu x0 k) (cKr rec n)
theorem cBp (rec : RT) (n : Nat) : D582 rec n aKj x0 (aR CFq Tryz.f582) = (K4 (bC rec n) 0 1 5 6) :=
 (bIx rec n).trans
 ((by kernel_rfl))
theorem bZt (rec : RT) (n : Nat) (kk16 : TT7) : D582 rec n cKa (xs x0 0 (K4 (bC rec n) 0 1 5 6)) (K7 kk16 0 1 5 6 30 31 32) = (K7 (oX rec n kk16) 0 1 5 6 30 31 32) :=
 (by kernel_rfl)
theorem bGt (rec : RT) (n : Nat) (kk16 : TT7) : D582 rec n xM (xs x0 0 (K4 (bC rec n) 0 1 5 6)) (K7 kk16 0 1 5 6 30 31 32) = D582 rec n bAj (xs x0 0 (K4 (bC rec n) 0 1 5 6)) (K7 (oX rec n kk16) 0 1 5 6 30 31 32) :=
 congrArg (fun k=>D582 rec n bAj (xs x0 0 (K4 (bC rec n) 0 1 5 6)) k) (bZt rec n kk16)
theorem bSr (rec : RT) (n : Nat) (kk16 : TT7) : D582 rec n xM (xs x0 0 (K4 (bC rec n) 0 1 5 6)) (K7 kk16 0 1 5 6 30 31 32) = (K7 (oO rec n kk16) 0 1 5 6 30 31 32) :=
 (bGt rec n kk16).trans
 ((by kernel_rfl))
theorem aRx (rec : RT) (n : Nat) (kk16 : TT7) : D582 rec n vW (xs x0 0 (K4 (bC rec n) 0 1 5 6)) (K7 kk16 0 1 5 6 30 31 32) = D582 rec n bCy (xs x0 0 (K4 (bC rec n) 0 1 5 6)) (K7 (oO rec n kk16) 0 1 5 6 30 31 32) :=
 congrArg (fun k=>D582 rec n bCy (xs x0 0 (K4 (bC rec n) 0 1 5 6)) k) (bSr rec n kk16)
theorem bPa (rec : RT) (n : Nat) (kk16 : TT7) : D582 rec n vW (xs x0 0 (K4 (bC rec n) 0 1 5 6)) (K7 kk16 0 1 5 6 30 31 32) = (K8 (sX rec n kk16) 0 1 5 6 30 31 32 33) :=
 (aRx rec n kk16).trans
 ((by kernel_rfl))
theorem aVj (rec : RT) (n : Nat) (kk16 : TT7) : D582 rec n jD (xs x0 0 (K4 (bC rec n) 0 1 5 6)) (K7 kk16 0 1 5 6 30 31 32) = D582 rec n bDq (xs x0 0 (K4 (bC rec n) 0 1 5 6)) (K8 (sX rec n kk16) 0 1 5 6 30 31 32 33) :=
 congrArg (fun k=>D582 rec n bDq (xs x0 0 (K4 (bC rec n) 0 1 5 6)) k) (bPa rec n kk16)
theorem bFo (rec : RT) (n : Nat) (kk16 : TT7) : D582 rec n jD (xs x0 0 (K4 (bC rec n) 0 1 5 6)) (K7 kk16 0 1 5 6 30 31 32) = (K7 (lW rec n kk16) 0 1 5 6 30 31 32) :=
 (aVj rec n kk16).trans
 ((by kernel_rfl))
theorem bFx (rec : RT) (n : Nat) (m : Nat) : aL (fun kk=>D582 rec n jD (xs x0 0 (K4 (bC rec n) 0 1 5 6)) kk) m = (K7 (iG rec n m) 0 1 5 6 30 31 32):=by
 induction m with
 | zero=>exact (by kernel_rfl : aL (fun kk=>D582 rec n jD (xs x0 0 (K4 (bC rec n) 0 1 5 6)) kk) 0 = (K7 (iG rec n 0) 0 1 5 6 30 31 32))
 | succ m ih =>
  refine (by kernel_rfl : aL (fun kk=>D582 rec n jD (xs x0 0 (K4 (bC rec n) 0 1 5 6)) kk) (m + 1) = D582 rec n jD (xs x0 0 (K4 (bC rec n) 0 1 5 6)) (aL (fun kk=>D582 rec n jD (xs x0 0 (K4 (bC rec n) 0 1 5 6)) kk) m)).trans ?_
  rw [ih]
  exact (bFo rec n (iG rec n m)).trans (by kernel_rfl)
theorem bNz (rec : RT) (n : Nat) : D582 rec n wP (xs x0 0 (K4 (bC rec n) 0 1 5 6)) (K4 (bC rec n) 0 1 5 6) = (K7 (aJv rec n) 0 1 5 6 30 31 32) :=
 (by kernel_rfl : D582 rec n wP (xs x0 0 (K4 (bC rec n) 0 1 5 6)) (K4 (bC rec n) 0 1 5 6) = aL (fun kk=>D582 rec n jD (xs x0 0 (K4 (bC rec n) 0 1 5 6)) kk) n).trans ((bFx rec n n).trans (by kernel_rfl))
theorem bNb (rec : RT) (n : Nat) : D582 rec n aIi x0 (K4 (bC rec n) 0 1 5 6) = (K7 (wS rec n) 0 1 5 6 30 31 32) :=
 (by kernel_rfl : D582 rec n aIi x0 (K4 (bC rec n) 0 1 5 6) = D582 rec n wP (xs x0 0 (K4 (bC rec n) 0 1 5 6)) (K4 (bC rec n) 0 1 5 6)).trans
 ((bNz rec n).trans (by kernel_rfl))
theorem aPs (rec : RT) (n : Nat) : D582 rec n rM x0 (K4 (bC rec n) 0 1 5 6) = D582 rec n aZp x0 (K7 (wS rec n) 0 1 5 6 30 31 32) :=
 congrArg (fun k=>D582 rec n aZp x0 k) (bNb rec n)
theorem bPl (rec : RT) (n : Nat) : D582 rec n rM x0 (K4 (bC rec n) 0 1 5 6) = (K4 (aIw rec n) 0 1 5 6) :=
 (aPs rec n).trans
 ((by kernel_rfl))
theorem bXb (rec : RT) (n : Nat) (kk22 : dJ) : D582 rec n cCb (xs x0 2 (K4 (bC rec n) 0 1 5 6)) (K5 kk22 0 1 5 6 10) = (K5 (oY rec n kk22) 0 1 5 6 10) :=
 (by kernel_rfl)
theorem aSn (rec : RT) (n : Nat) (kk22 : dJ) : D582 rec n wL (xs x0 2 (K4 (bC rec n) 0 1 5 6)) (K5 kk22 0 1 5 6 10) = D582 rec n bBj (xs x0 2 (K4 (bC rec n) 0 1 5 6)) (K5 (oY rec n kk22) 0 1 5 6 10) :=
 congrArg (fun k=>D582 rec n bBj (xs x0 2 (K4 (bC rec n) 0 1 5 6)) k) (bXb rec n kk22)
theorem bLf (rec : RT) (n : Nat) (kk22 : dJ) : D582 rec n wL (xs x0 2 (K4 (bC rec n) 0 1 5 6)) (K5 kk22 0 1 5 6 10) = (K5 (xF rec n kk22) 0 1 5 6 10) :=
 (aSn rec n kk22).trans
 ((by kernel_rfl))
theorem aUk (rec : RT) (n : Nat) (kk22 : dJ) : D582 rec n jH (xs x0 2 (K4 (bC rec n) 0 1 5 6)) (K5 kk22 0 1 5 6 10) = D582 rec n aXg (xs x0 2 (K4 (bC rec n) 0 1 5 6)) (K5 (xF rec n kk22) 0 1 5 6 10) :=
 congrArg (fun k=>D582 rec n aXg (xs x0 2 (K4 (bC rec n) 0 1 5 6)) k) (bLf rec n kk22)
theorem bHr (rec : RT) (n : Nat) (kk22 : dJ) : D582 rec n jH (xs x0 2 (K4 (bC rec n) 0 1 5 6)) (K5 kk22 0 1 5 6 10) = (K5 (mH rec n kk22) 0 1 5 6 10) :=
 (aUk rec n kk22).trans
 ((by kernel_rfl))
theorem bIh (rec : RT) (n : Nat) (m : Nat) : aL (fun kk=>D582 rec n jH (xs x0 2 (K4 (bC rec n) 0 1 5 6)) kk) m = (K5 (kP rec n m) 0 1 5 6 10):=by
 induction m with
 | zero=>exact (by kernel_rfl : aL (fun kk=>D582 rec n jH (xs x0 2 (K4 (bC rec n) 0 1 5 6)) kk) 0 = (K5 (kP rec n 0) 0 1 5 6 10))
 | succ m ih =>
  refine (by kernel_rfl : aL (fun kk=>D582 rec n jH (xs x0 2 (K4 (bC rec n) 0 1 5 6)) kk) (m + 1) = D582 rec n jH (xs x0 2 (K4 (bC rec n) 0 1 5 6)) (aL (fun kk=>D582 rec n jH (xs x0 2 (K4 (bC rec n) 0 1 5 6)) kk) m)).trans ?_
  rw [ih]
  exact (bHr rec n (kP rec n m)).trans (by kernel_rfl)
theorem bPe (rec : RT) (n : Nat) : D582 rec n xJ (xs x0 2 (K4 (bC rec n) 0 1 5 6)) (K4 (bC rec n) 0 1 5 6) = (K5 (bCv rec n) 0 1 5 6 10) :=
 (by kernel_rfl : D582 rec n xJ (xs x0 2 (K4 (bC rec n) 0 1 5 6)) (K4 (bC rec n) 0 1 5 6) = aL (fun kk=>D582 rec n jH (xs x0 2 (K4 (bC rec n) 0 1 5 6)) kk) n).trans ((bIh rec n n).trans (by kernel_rfl))
theorem cAv (rec : RT) (n : Nat) : D582 rec n aGh x0 (K4 (bC rec n) 0 1 5 6) = (K5 (aKo rec n) 0 1 5 6 10) :=
 (by kernel_rfl : D582 rec n aGh x0 (K4 (bC rec n) 0 1 5 6) = D582 rec n xJ (xs x0 2 (K4 (bC rec n) 0 1 5 6)) (K4 (bC rec n) 0 1 5 6)).trans
 ((bPe rec n).trans (by kernel_rfl))
theorem aVb (rec : RT) (n : Nat) : D582 rec n rN x0 (K4 (bC rec n) 0 1 5 6) = D582 rec n aZz x0 (K5 (aKo rec n) 0 1 5 6 10) :=
 congrArg (fun k=>D582 rec n aZz x0 k) (cAv rec n)
theorem bNd (rec : RT) (n : Nat) : D582 rec n rN x0 (K4 (bC rec n) 0 1 5 6) = (K4 (aYw rec n) 0 1 5 6) :=
 (aVb rec n).trans
 ((by kernel_rfl))
theorem cAg (rec : RT) (n : Nat) : D582 rec n sA x0 (K4 (bC rec n) 0 1 5 6) = (K5 (wQ rec n) 0 1 5 6 26) :=
 (by kernel_rfl : D582 rec n sA x0 (K4 (bC rec n) 0 1 5 6) = (fun (env : bA) (h : Hp)=>aT (opr env (cC sA)) (D582 rec n rM x0 (K4 (bC rec n) 0 1 5 6) env h) (D582 rec n rN x0 (K4 (bC rec n) 0 1 5 6) env h))).trans (by rw [bPl rec n,bNd rec n]; kernel_rfl)
theorem bIm (rec : RT) (n : Nat) : D582 rec n aEp x0 (aR CFq Tryz.f582) = D582 rec n rY x0 (K4 (bC rec n) 0 1 5 6) :=
 congrArg (fun k=>D582 rec n rY x0 k) (cBp rec n)
theorem bIb (rec : RT) (n : Nat) : D582 rec n rY x0 (K4 (bC rec n) 0 1 5 6) = D582 rec n bBn x0 (K5 (wQ rec n) 0 1 5 6 26) :=
 congrArg (fun k=>D582 rec n bBn x0 k) (cAg rec n)
theorem cCq (rec : RT) (n : Nat) : D582 rec n aEp x0 (aR CFq Tryz.f582) = (K4 (aGf rec n) 0 1 5 6) :=
 (bIm rec n).trans
 ((bIb rec n).trans
 ((by kernel_rfl)))
theorem bHi (rec : RT) (n : Nat) : D582 rec n aIn x0 (aR CFq Tryz.f582) = D582 rec n aYe x0 (K4 (aGf rec n) 0 1 5 6) :=
 congrArg (fun k=>D582 rec n aYe x0 k) (cCq rec n)
theorem cNm (rec : RT) (n : Nat) : D582 rec n aIn x0 (aR CFq Tryz.f582) = (K3 (aEo rec n) 0 1 5) :=
 (bHi rec n).trans
 ((by kernel_rfl))
theorem bFy (rec : RT) (n : Nat) : D582 rec n aFe x0 (aR CFq Tryz.f582) = D582 rec n bDc x0 (K3 (aEo rec n) 0 1 5) :=
 congrArg (fun k=>D582 rec n bDc x0 k) (cNm rec n)
theorem cHu (rec : RT) (n : Nat) : D582 rec n aFe x0 (aR CFq Tryz.f582) = (K2 (aEt rec n) 0 1) :=
 (bFy rec n).trans
 ((by kernel_rfl))
theorem cJk (rec : RT) (n : Nat) : D582 rec n c582 x0 (aR CFq Tryz.f582) = D582 rec n aVx x0 (K2 (aEt rec n) 0 1) :=
 congrArg (fun k=>D582 rec n aVx x0 k) (cHu rec n)
theorem dIw (rec : RT) (n : Nat) : D582 rec n c582 x0 (aR CFq Tryz.f582) = (K2 (s582 rec n) 0 1) :=
 (cJk rec n).trans
 ((by kernel_rfl))
theorem cUk (rec : RT) (n : Nat) (args : List DV) (h : Hp) : aF CFq rec n 582 args h = s582 rec n (args.getD 0 aS) (args.getD 1 aS) h :=
 (by kernel_rfl : aF CFq rec n 582 args h = D582 rec n c582 x0 (aR CFq Tryz.f582) (aJ args) h).trans ((congrFun (congrFun (dIw rec n) (aJ args)) h).trans (by kernel_rfl))
end Go.Dd

namespace Go.Dd
open Go.Proofs Go.RowKit
def gdS (w : World) (W : Facts w) (N : Nat) : Gd:=⟨w.heap.size,fun _=>False,N,w.heap,fun w' h=>W.keep fun k hk=>h k (Nat.lt_of_lt_of_le hk W.eight)⟩
theorem HR.empty (w : World) (W : Facts w) (N : Nat) (p : Pos) (hN : N ≤ p.toNat) : HR (gdS w W N) (fun _=>none) ⟨p,.e⟩ w:=by
 constructor
 ·exact fun _ _=>rfl
 ·exact ⟨Nat.le_refl _,fun _ h=>h.elim⟩
 ·exact hN
 ·rintro b a ⟨k,l,L,_,h2,_⟩; cases h2
 ·intro b o h; cases b <;> cases h
 ·intro b L h; cases h
 ·intro b k l L i v h h2; cases h2
 ·intro b l L es j h h2; cases h2
 ·rintro b a ⟨k,l,L,_,h2,_⟩; cases h2
 ·rintro b b' a ⟨k,l,L,_,h2,_⟩; cases h2
 ·intro b l L h h2; cases h2
 ·intro b es l i v h; cases b <;> cases h
 ·intro b s pos L h h2; cases h2
 ·intro b s pos b' s' pos' L L' h h' h2; cases h2
theorem aCz {f : FuncId} {args : List DV} {F : List DV → Hp → aH} {v : DV} {g1 : Hp} (hF : ∀ G,gG Tryz.prog G f F) {p : Pos} (hr : F args ⟨p,.e⟩ = some (v,g1)) (fn : Func) (hf : Tryz.prog.funcs[f]? = some fn) (hb : fn.body.isSome = true)
  (w : World) (W : Facts w) (args' : Array Value) (hargs : VRs (fun _=>none) args args'.toList) :
  Calls Tryz.prog f args' w fun e w'=>∃ ρ' v',e = .returned v' ∧ VR ρ' v v' ∧ HR (gdS w W p.toNat) ρ' g1 w' ∧ Below w.heap.size w w' ∧ ∀ b L, ρ' b = some L → p.toNat ≤ b.toNat:=by
 have H : HR (gdS w W p.toNat) (fun _=>none) ⟨p,.e⟩ w:=HR.empty w W p.toNat p (Nat.le_refl _)
 rcases hF (gdS w W p.toNat) args ⟨p,.e⟩ v g1 hr _ w args' H hargs with ⟨_,h⟩ | ⟨ρ',w',v',h,_⟩
 ·refine h.mono ?_
  rintro e w' ⟨ρ',v',h1,h2,h3,h4,h5⟩
  exact ⟨ρ',v',h1,h3,h4,h5.low,fun b L hL=>(h2.new b L hL).resolve_left (fun e=>by cases e)⟩
 ·exfalso
  have hn : ¬ fn.name = "runtime.NumGoroutine" := by simpa using Try_ok.names f fn hf
  have hbn : fn.body ≠ none:=by intro e; rw [e] at hb; cases hb
  unfold callFunc at h
  simp [hf,hn,hbn] at h
theorem aBh {f : FuncId} {fn : Func} (hf : Tryz.prog.funcs[f]? = some fn) (hb : fn.body.isSome = true) (args : Array Value) (w : World) : (callFunc f args).run Tryz.prog w = .ok (.enter f args) w:=by
 have hn : ¬ fn.name = "runtime.NumGoroutine" := by simpa using Try_ok.names f fn hf
 have hbn : fn.body ≠ none:=by intro e; rw [e] at hb; cases hb
 unfold callFunc
 simp [hf,hn,hbn]
end Go.Dd

namespace Go.Dd
open Go.Proofs Go.Lib Go.RowKit
theorem CallFn.of {G : Gd} {ρ : Ren} {w : World} {v : DV} {h1 : Hp} {g : FuncId} {args' : Array Value} (fn : Func) (hf : Tryz.prog.funcs[g]? = some fn) (hb : fn.body.isSome = true)
  (hc : Calls Tryz.prog g args' w (kV G ρ w v h1)) : CallFn CF1.P G ρ w v h1 g args':=by
 refine .inl ⟨?_,hc⟩
 have hf' : CF1.P.funcs[g]? = some fn:=hf
 have hn : ¬ fn.name = "runtime.NumGoroutine" := by simpa using Try_ok.names g fn hf'
 have hbn : fn.body ≠ none:=by intro e; rw [e] at hb; cases hb
 unfold callFunc
 simp [hf',hn,hbn]
theorem zX : ∀ (f n : Nat) (acc : List Nat),n < 10 ^ f → 0 < f → iC f n acc = (Lib.decDigits n).map (·.toNat) ++ acc
 | 0,n,acc,h,h0=>by omega
 | f + 1,n,acc,h,_=>by
  have hd : ∀ d,d < 10 → (UInt8.ofNat (48 + d)).toNat = 48 + d:=fun d hd=>by simp; omega
  unfold iC
  rw [Lib.decDigits]
  cases e : Nat.ble 10 n with
  | false =>
   have hn : n < 10:=by
    rcases Nat.lt_or_ge n 10 with h | h
    ·exact h
    ·rw [Nat.ble_eq_true_of_le h] at e; cases e
   simp only [cond_false]
   rw [dif_pos hn]
   show (48 + n) :: acc = _
   simp [hd n hn]
   omega
  | true =>
   have hn:=Nat.le_of_ble_eq_true e
   simp only [cond_true]
   rw [dif_neg (by omega)]
   have hf : 0 < f:=by
    rcases Nat.eq_zero_or_pos f with h1 | h1
    ·subst h1; simp at h; omega
    ·exact h1
   show iC f (n / 10) ((48 + n % 10) :: acc) = _
   rw [zX f (n / 10) _ (by rw [Nat.pow_succ] at h; omega) hf]
   simp [hd (n % 10) (by omega)]
   omega
theorem bMy (n : Int) (h0 : -9223372036854775808 ≤ n) (h1 : n ≤ 9223372036854775807) : cG n = (Lib.itoa n).map (·.toNat):=by
 unfold Lib.itoa cG
 cases n with
 | ofNat n =>
  rw [if_neg (by simp)]
  simp only
  rw [zX 20 n [] (by simp at h1; omega) (by omega)]
  simp
 | negSucc n =>
  rw [if_pos (by omega)]
  simp only
  rw [zX 20 _ [] (by show n + 1 < _; omega) (by omega)]
  simp
theorem aXs (G : Gd) : gG CF1.P G 24 jP:=by
 intro args h v h1 hr ρ w args' H hargs
 unfold jP at hr
 split at hr <;> (try (cases hr; done))
 rename_i n
 cases hc : (decide (-9223372036854775808 ≤ n) && decide (n ≤ 9223372036854775807)) with
 | false=>rw [hc] at hr; cases hr
 | true =>
 rw [hc] at hr
 simp only [Bool.and_eq_true,decide_eq_true_eq] at hc
 simp only [cond_true,aU,bG] at hr
 obtain ⟨rfl,rfl⟩:=hr
 obtain ⟨a⟩:=args'
 cases hargs with
 | cons _ x' l1 l1' hx hxs =>
 cases hxs
 cases hx
 refine CallFn.of Tryz.f24 (by kernel_rfl) (by kernel_rfl) ?_
 have F:=(G.ok w H.gl).1
 have htab : Lib.TabIs Tryz.prog w "internal/strconv.uint64pow10" .u64 Lib.pow10Tab:=by
  obtain ⟨_,t,z,ht⟩:=F
  have hg : Tryz.prog.globalNamed "internal/strconv.uint64pow10" = some 1:=by kernel_rfl
  unfold Lib.TabIs World.var?
  rw [hg]
  simp only [Option.bind_some,ht]
 refine (Tryz.strconv_Itoa n hc.1 hc.2 w htab).mono ?_
 rintro e w' ⟨rfl,k,os,rfl⟩
 have hbel : Below w.heap.size w (Sort.grow (w.drewN k) os):=⟨rfl,rfl,rfl,by simp [Sort.grow,World.drewN],fun i hi=>by
  show (w.heap ++ os)[i]? = _
  rw [Array.getElem?_append_left hi]⟩
 exact ⟨ρ,_,rfl,Ex.refl _ _,.s _ _ (bMy n hc.1 hc.2).symm,H.later hbel,Kp.later H hbel⟩
theorem cBg (b c : UInt8) : Nat.beq b.toNat c.toNat = (b == c):=by
 rw [Bool.eq_iff_iff]
 constructor
 ·intro h
  have:=Nat.eq_of_beq_eq_true h
  simpa using UInt8.toNat_inj.1 this
 ·intro h
  have h2 : b = c:=by simpa using h
  rw [h2]; simp
theorem aJn {bs : ByteArray} {c : Nat} (h : bs.data.toList.map (·.toNat) = [c]) : ∃ u : UInt8,bs = ⟨#[u]⟩ ∧ u.toNat = c:=by
 obtain ⟨⟨l⟩⟩:=bs
 match l,h with
 | [u],h=>exact ⟨u,rfl,by simpa using h⟩
def pO (c : UInt8) (new : List UInt8) : List UInt8 → List UInt8
 | []=>[]
 | x :: l=>if x = c then new ++ pO c new l else x :: pO c new l
theorem aBv {b c : UInt8} {l : List UInt8} (h : b ≠ c) {i : Nat} (hi : index l [c] = i) : index (b :: l) [c] = ((i + 1 : Nat) : Int):=by
 have hp : ([c] : List UInt8).isPrefixOf (b :: l) = false:=by simp [List.isPrefixOf,Ne.symm h]
 rw [index,hp,hi]
 simp
theorem zY {c : UInt8} {l : List UInt8} : index (c :: l) [c] = ((0 : Nat) : Int):=by
 rw [index]; simp [List.isPrefixOf]
theorem aMq (c : UInt8) (new : List UInt8) : ∀ s : List UInt8,replaceK [c] new (count s [c]) s = pO c new s
 | []=>by rw [count_one]; rfl
 | b :: l=>by
  have ih:=aMq c new l
  by_cases h : b = c
  ·subst h
   rw [count_cons_eq,Nat.add_comm,replaceK_hit _ _ _ _ 0 zY]
   simp [pO,ih]
  ·rw [count_cons_ne _ _ _ h]
   simp only [pO,if_neg h]
   cases hk : count l [c] with
   | zero =>
    rw [hk] at ih
    simp only [replaceK] at ih ⊢
    rw [← ih]
   | succ k =>
    rw [hk] at ih
    obtain ⟨i,hi⟩:=index_of_count (s:=l) (old:=[c]) (by omega)
    rw [replaceK_hit _ _ _ _ i hi] at ih
    rw [replaceK_hit _ _ _ _ (i + 1) (aBv h hi),← ih]
    simp [Nat.add_right_comm]
theorem zU (c : UInt8) : ∀ s : List UInt8,pO c [c] s = s
 | []=>rfl
 | x :: l=>by
  simp only [pO,zU c l]
  split
  ·rename_i h; subst h; rfl
  ·rfl
theorem cAu (s : List UInt8) (c : UInt8) (new : List UInt8) : replaceAll s [c] new = pO c new s:=by
 unfold replaceAll replace
 split
 ·rename_i h
  have : [c] = new:=by simpa using h
  subst this
  rw [zU]
 ·unfold replaceNum
  rw [if_pos (.inl (by decide))]
  exact aMq c new s
theorem aMe (c : UInt8) (new : List UInt8) : ∀ s : List UInt8,aMv c.toNat (new.map (·.toNat)) (s.map (·.toNat)) = (pO c new s).map (·.toNat)
 | []=>rfl
 | x :: l=>by
  simp only [List.map_cons,aMv,pO,aMe c new l,cBg]
  by_cases h : x = c
  ·subst h; simp
  ·rw [if_neg h,show (x == c) = false by simpa using h]; simp
theorem cIs (G : Gd) : gG CF1.P G 235 aDd:=by
 intro args h v h1 hr ρ w args' H hargs
 unfold aDd at hr
 split at hr <;> (try (cases hr; done))
 rename_i s c new
 cases hc : Nat.blt c 256 with
 | false=>rw [hc] at hr; cases hr
 | true =>
 rw [hc] at hr
 cases hc2 : Nat.ble s.length 4000000000 with
 | false=>rw [hc2] at hr; cases hr
 | true =>
 rw [hc2] at hr
 cases hc3 : Nat.ble new.length 1000 with
 | false=>rw [hc3] at hr; cases hr
 | true =>
 rw [hc3] at hr
 have hs':=Nat.le_of_ble_eq_true hc2
 have hn':=Nat.le_of_ble_eq_true hc3
 simp only [cond_true,aU,bG] at hr
 obtain ⟨rfl,rfl⟩:=hr
 obtain ⟨a⟩:=args'
 cases hargs with
 | cons _ x' l1 l1' hx hxs =>
 cases hxs with
 | cons _ y' l2 l2' hy hys =>
 cases hys with
 | cons _ z' l3 l3' hz hzs =>
 cases hzs
 cases hx with
 | s _ bs hbs =>
 cases hy with
 | s _ bc hbc =>
 cases hz with
 | s _ bn hbn =>
 obtain ⟨u,rfl,rfl⟩:=aJn hbc
 subst hbs hbn
 have e1 : bs.size ≤ 4000000000:=by rw [List.length_map,Array.length_toList] at hs'; exact hs'
 have e2 : bn.size ≤ 1000:=by rw [List.length_map,Array.length_toList] at hn'; exact hn'
 refine CallFn.of Tryz.f235 (by kernel_rfl) (by kernel_rfl) ?_
 obtain ⟨⟨⟨m,hm⟩,_⟩,_⟩:=G.ok w H.gl
 have hcnt : countB bs ⟨#[u]⟩ ≤ bs.size:=countB_le _ (by simp [ByteArray.size]) _ _ (Nat.le_refl _)
 have hmul : countB bs ⟨#[u]⟩ * bn.size ≤ 4000000000 * 1000:=Nat.mul_le_mul (by omega) e2
 refine (Tryz.strings_ReplaceAll bs ⟨#[u]⟩ bn m w (by omega) hm (by simp [ByteArray.size]) (by omega)).mono ?_
 rintro e w' ⟨rfl,hbel⟩
 refine ⟨ρ,_,rfl,Ex.refl _ _,.s _ _ ?_,H.later hbel,Kp.later H hbel⟩
 rw [aMe,← cAu]
theorem aAr (sep : List UInt8) : ∀ xs : List (List UInt8),jK (sep.map (·.toNat)) (xs.map (·.map (·.toNat))) = (Lib.join xs sep).map (·.toNat)
 | []=>rfl
 | [x]=>by simp [jK,Lib.join,List.intercalate]
 | x :: y :: l=>by
  have ih:=aAr sep (y :: l)
  simp only [List.map_cons] at ih ⊢
  rw [jK,ih]
  simp [Lib.join,List.intercalate,List.map_append]
theorem aMn {ρ : Ren} : ∀ {cells : List DV} {vs : List Value} {l : List (List Nat)},VRs ρ cells vs → nO cells = some l → ∃ xs : List ByteArray,vs = xs.map Value.string ∧ l = xs.map fun x=>x.data.toList.map (·.toNat)
 | [],_,_,.nil,e=>by
  simp only [nO,aU] at e
  exact ⟨[],rfl,e.symm⟩
 | x :: c,_,_,.cons _ x' _ vs hx hs,e=>by
  cases hx <;> try (simp [nO] at e; done)
  rename_i t bs hb
  simp only [nO,Option.map_eq_some_iff] at e
  obtain ⟨l0,e0,rfl⟩:=e
  obtain ⟨xs,rfl,rfl⟩:=aMn hs e0
  exact ⟨bs :: xs,rfl,by simp [hb]⟩
theorem bVq {w : World} {L : Loc} {i : Nat} {v : Value} (h : w.cell? (eC L i) = some v) : eC L i = ⟨L.bl,L.of + i,none⟩:=by
 unfold eC at *
 by_cases e : i = 0
 ·subst e
  simp only [if_true] at h ⊢
  cases hs : L.spot with
  | none=>rfl
  | some s =>
   rw [hs] at h
   unfold World.cell? at h
   split at h <;> simp at h
 ·simp [e]
theorem aBb (xs : List ByteArray) : (xs.map fun x=>x.data.toList.map (·.toNat)) = (xs.map (·.data.toList)).map (·.map (·.toNat)):=by simp
theorem cBz (G : Gd) : gG CF1.P G 23 pT:=by
 intro args h v h1 hr ρ w args' H hargs
 unfold pT at hr
 split at hr <;> (try (cases hr; done))
 rename_i x sep hno
 split at hr <;> (try (cases hr; done))
 rename_i n cells hsrc
 split at hr <;> (try (cases hr; done))
 rename_i l hl
 cases hc : Nat.ble (jK sep l).length 100000000000 with
 | false=>rw [hc] at hr; cases hr
 | true =>
 rw [hc] at hr
 cases hc2 : (Nat.ble n 100000000000 && bKy x) with
 | false=>rw [hc2] at hr; cases hr
 | true =>
 rw [hc2] at hr
 have hc':=Nat.le_of_ble_eq_true hc
 rw [Bool.and_eq_true] at hc2
 obtain ⟨hc2,hcap⟩:=hc2
 have hn':=Nat.le_of_ble_eq_true hc2
 simp only [cond_true,aU,bG] at hr
 obtain ⟨rfl,rfl⟩:=hr
 obtain ⟨a⟩:=args'
 cases hargs with
 | cons _ x' l1 l1' hx hxs =>
 cases hxs with
 | cons y y' l2 l2' hy hys =>
 cases hys
 cases hy with
 | s _ bs hbs =>
 refine CallFn.of Tryz.f23 (by kernel_rfl) (by kernel_rfl) ?_
 have hnone : ∀ (a : Option Addr) (c : Nat),l = [] → Calls Tryz.prog 23 #[.slice a 0 c,.string bs] w (kV G ρ w (.s (jK sep l)) h):=by
  intro a c e
  subst e
  refine (Tryz.strings_Join_none a c bs w).mono ?_
  rintro e w' ⟨rfl,rfl⟩
  exact ⟨ρ,_,rfl,Ex.refl _ _,.s _ _ rfl,H,Kp.refl _ _⟩
 unfold lM at hsrc
 cases hx with
 | l0 =>
  simp only [aU,bG] at hsrc
  obtain ⟨rfl,rfl⟩:=hsrc
  simp only [nO,aU] at hl
  exact hnone _ _ hl.symm
 | le a c =>
  simp only [aU,bG] at hsrc
  obtain ⟨rfl,rfl⟩:=hsrc
  simp only [nO,aU] at hl
  exact hnone _ _ hl.symm
 | l b o m cap L hL =>
  simp only at hsrc
  split at hsrc <;> (try (cases hsrc; done))
  rename_i cs hcs
  simp only [aU,bG] at hsrc
  obtain ⟨rfl,rfl⟩:=hsrc
  obtain ⟨e1,e2,e3,vs,e4,e5,e6⟩:=eO H hcs hL
  obtain ⟨xs,rfl,rfl⟩:=aMn e4 hl
  simp only [List.length_map,Nat.mul_one] at e5
  subst e5
  cases xs with
  | nil=>exact hnone _ _ rfl
  | cons x0 xs0 =>
   have h0:=e6 0 (.string x0) rfl
   have ha : eC L o = ⟨L.bl,L.of + o,none⟩:=bVq h0
   rw [ha]
   have hsep:=hbs
   refine (Tryz.strings_Join L.bl (L.of + o) (cap + L.sp) (x0 :: xs0) bs w ?_ (eE h0) (by omega) ?_ ?_).mono ?_
   ·intro j y hj
    have h5:=e6 j (.string y) (by rw [List.getElem?_map,hj]; rfl)
    rw [bVq h5] at h5
    rw [show L.of + o + j = L.of + (o + j) by omega]
    exact h5
   ·exact Nat.le_trans (Nat.le_of_ble_eq_true hcap) (Nat.le_add_right _ _)
   ·have:=hc'
    rw [← hbs,aBb,aAr,List.length_map] at this
    omega
   ·rintro e w' ⟨rfl,hbel⟩
    refine ⟨ρ,_,rfl,Ex.refl _ _,.s _ _ ?_,H.later hbel,Kp.later H hbel⟩
    rw [← hbs,aBb,aAr]
 | u=>simp at hsrc
 | s=>exact (hno _ rfl).elim
 | lx b o m cap L hL=>simp only [bKy] at hcap; cases hcap
 | _=>simp at hsrc
theorem bJd (c : UInt8) : ∀ s : List UInt8,cA c.toNat (s.map (·.toNat)) = (splitK [c] 0 (count s [c]) s).map (·.map (·.toNat))
 | []=>by rw [count_one]; simp [cA,splitK]
 | b :: l=>by
  have ih:=bJd c l
  simp only [List.map_cons]
  by_cases h : b = c
  ·subst h
   rw [count_cons_eq,Nat.add_comm,cA,if_pos rfl,ih]
   simp only [splitK,zY]
   simp
  ·have hne : ¬ b.toNat = c.toNat:=fun e=>h (UInt8.toNat_inj.1 e)
   rw [cA,if_neg hne,ih,count_cons_ne _ _ _ h]
   cases hk : count l [c] with
   | zero=>simp [splitK]
   | succ k =>
    obtain ⟨i,hi⟩:=index_of_count (s:=l) (old:=[c]) (by omega)
    have hi2:=aBv h hi
    simp only [splitK,hi,hi2]
    rw [if_neg (by first | (simp; done) | (simp; omega)),if_neg (by first | (simp; done) | (simp; omega))]
    simp
theorem bZr (G : Gd) : gG CF1.P G 32 mU:=by
 intro args h v h1 hr ρ w args' H hargs
 unfold mU at hr
 split at hr <;> (try (cases hr; done))
 rename_i s c
 cases hc : Nat.blt c 256 with
 | false=>rw [hc] at hr; cases hr
 | true =>
 rw [hc] at hr
 cases hc2 : Nat.ble s.length 4000000000 with
 | false=>rw [hc2] at hr; cases hr
 | true =>
 rw [hc2] at hr
 have hs':=Nat.le_of_ble_eq_true hc2
 simp only [cond_true,aU,bG] at hr
 obtain ⟨rfl,rfl⟩:=hr
 obtain ⟨a⟩:=args'
 cases hargs with
 | cons _ x' l1 l1' hx hxs =>
 cases hxs with
 | cons _ y' l2 l2' hy hys =>
 cases hys with
 | cons _ z' l3 l3' hz hzs =>
 cases hzs with
 | cons _ z4 l4 l4' hz4 hzs4 =>
 cases hzs4
 cases hz
 cases hz4
 cases hx with
 | s _ bs hbs =>
 cases hy with
 | s _ bc hbc =>
 obtain ⟨u,rfl,rfl⟩:=aJn hbc
 subst hbs
 have e1 : bs.size ≤ 4000000000:=by rw [List.length_map,Array.length_toList] at hs'; exact hs'
 have hsz : (⟨#[u]⟩ : ByteArray).size = 1:=rfl
 have hcnt : countB bs ⟨#[u]⟩ ≤ bs.size:=countB_le _ (by omega) _ _ (Nat.le_refl _)
 have hp : cA u.toNat (bs.data.toList.map (·.toNat)) = ((splitB ⟨#[u]⟩ 0 (countB bs ⟨#[u]⟩) bs).map (·.data.toList)).map (·.map (·.toNat)):=by
  rw [bJd u bs.data.toList,splitB_data]
 have hlen:=splitB_all ⟨#[u]⟩ (by omega) 0 _ bs rfl
 refine CallFn.of Tryz.f32 (by kernel_rfl) (by kernel_rfl) ?_
 obtain ⟨⟨⟨m,hm⟩,_⟩,_⟩:=G.ok w H.gl
 have hN : ((countB bs ⟨#[u]⟩ + 1 : Nat) : Int) = min (if (Int.negSucc 0) < 0 then (countB bs ⟨#[u]⟩ : Int) + 1 else Int.negSucc 0) ((bs.size : Int) + 1):=by
  rw [if_pos (by decide)]
  omega
 refine (Tryz.strings_genSplit bs ⟨#[u]⟩ 0 (Int.negSucc 0) (countB bs ⟨#[u]⟩ + 1) m w (by omega) hm (by omega) (by omega) (by decide) (by decide) hN).mono ?_
 rintro e w' ⟨rfl,rfl⟩
 simp only [Nat.add_sub_cancel] at *
 generalize hps : splitB ⟨#[u]⟩ 0 (countB bs ⟨#[u]⟩) bs = ps at *
 rw [hp]
 have hcell : cellsOf ps (countB bs ⟨#[u]⟩ + 1) = (ps.map Value.string).toArray:=by rw [← hlen]; exact cellsOf_full ps
 rw [hcell]
 have hvs : ∀ qs : List ByteArray,VRs ρ (((qs.map (·.data.toList)).map (·.map (·.toNat))).map DV.s) (qs.map Value.string):=by
  intro qs
  induction qs with
  | nil=>exact .nil
  | cons q qs ih=>exact .cons _ _ _ _ (.s _ _ rfl) ih
 have H2:=H.newRow .ex _ (ps.map Value.string) (ps.map Value.string).toArray 9 0 (hvs ps) (fun i v hv=>by simpa using hv) (.inl ⟨rfl,rfl⟩)
 refine ⟨_,_,rfl,H.exx ⟨w.heap.size,0,0,none⟩, ?_,H2,dT H.sz _⟩
 have:=VR.l (ρ:=lO ρ h.next ⟨w.heap.size,0,0,none⟩) h.next 0 ps.length ps.length ⟨w.heap.size,0,0,none⟩ (bP _ _ _)
 simpa [eC,hlen] using this
theorem bSz (c : UInt8) : ∀ s : List UInt8,eQ c.toNat (s.map (·.toNat)) = if 0 ≤ index s [c] then some ((s.take (index s [c]).toNat).map (·.toNat),(s.drop ((index s [c]).toNat + 1)).map (·.toNat)) else none
 | []=>by simp [eQ,index]
 | b :: l=>by
  have ih:=bSz c l
  simp only [List.map_cons]
  by_cases h : b = c
  ·subst h
   rw [eQ,if_pos rfl,zY]
   simp
  ·have hne : ¬ b.toNat = c.toNat:=fun e=>h (UInt8.toNat_inj.1 e)
   rw [eQ,if_neg hne,ih]
   by_cases hi : 0 ≤ index l [c]
   ·obtain ⟨i,hi2⟩:=Int.eq_ofNat_of_zero_le hi
    rw [aBv h hi2,hi2]
    simp
    omega
   ·have hm : index (b :: l) [c] = -1:=by
     have hge:=index_ge l [c]
     have hp : ([c] : List UInt8).isPrefixOf (b :: l) = false:=by simp [List.isPrefixOf,Ne.symm h]
     have e : index l [c] = -1:=by omega
     rw [index,hp,e]
     simp
    rw [if_neg hi,hm]
    simp
theorem cYb (G : Gd) : gG CF1.P G 33 tL:=by
 intro args h v h1 hr ρ w args' H hargs
 unfold tL at hr
 split at hr <;> (try (cases hr; done))
 rename_i s c
 cases hc : Nat.blt c 256 with
 | false=>rw [hc] at hr; cases hr
 | true =>
 rw [hc] at hr
 cases hc2 : Nat.ble s.length 4000000000 with
 | false=>rw [hc2] at hr; cases hr
 | true =>
 rw [hc2] at hr
 have hs':=Nat.le_of_ble_eq_true hc2
 simp only [cond_true] at hr
 obtain ⟨a⟩:=args'
 cases hargs with
 | cons _ x' l1 l1' hx hxs =>
 cases hxs with
 | cons _ y' l2 l2' hy hys =>
 cases hys
 cases hx with
 | s _ bs hbs =>
 cases hy with
 | s _ bc hbc =>
 obtain ⟨u,rfl,rfl⟩:=aJn hbc
 subst hbs
 have e1 : bs.size ≤ 4000000000:=by rw [List.length_map,Array.length_toList] at hs'; exact hs'
 refine CallFn.of Tryz.f33 (by kernel_rfl) (by kernel_rfl) ?_
 obtain ⟨⟨⟨m,hm⟩,_⟩,_⟩:=G.ok w H.gl
 refine (Tryz.strings_Cut bs ⟨#[u]⟩ m w (by omega) hm).mono ?_
 rintro e w' ⟨rfl,k,rfl⟩
 rw [bSz] at hr
 have hdr : ∀ k,HR G ρ h (w.drewN k):=fun k=>H.congr (by simp [World.drewN])
 have hkp : ∀ k,Kp G w (w.drewN k):=fun k=>by
  have hbel : Below w.heap.size w (w.drewN k):=⟨rfl,rfl,rfl,by simp [World.drewN],fun i hi=>by simp [World.drewN]⟩
  exact Kp.later H hbel
 unfold Lib.cut
 by_cases hi : 0 ≤ index bs.data.toList [u]
 ·rw [if_pos hi] at hr
  simp only [aU,bG] at hr
  obtain ⟨rfl,rfl⟩:=hr
  have : index bs.data.toList ([u] : List UInt8) = index bs.data.toList (⟨#[u]⟩ : ByteArray).data.toList:=rfl
  rw [if_pos (by rw [← this]; exact hi)]
  refine ⟨ρ,_,rfl,Ex.refl _ _,.t _ _ ?_,hdr k,hkp k⟩
  exact .cons _ _ _ _ (.s _ _ rfl) (.cons _ _ _ _ (.s _ _ rfl) (.cons _ _ _ _ (.b true) .nil))
 ·rw [if_neg hi] at hr
  simp only [aU,bG] at hr
  obtain ⟨rfl,rfl⟩:=hr
  have : index bs.data.toList ([u] : List UInt8) = index bs.data.toList (⟨#[u]⟩ : ByteArray).data.toList:=rfl
  rw [if_neg (by rw [← this]; exact hi)]
  refine ⟨ρ,_,rfl,Ex.refl _ _,.t _ _ ?_,hdr k,hkp k⟩
  exact .cons _ _ _ _ (.s _ _ rfl) (.cons _ _ _ _ (.s _ _ rfl) (.cons _ _ _ _ (.b false) .nil))
theorem aMl (c : UInt8) : ∀ s : List UInt8,gM c.toNat (s.map (·.toNat)) = Lib.countByte s c
 | []=>rfl
 | x :: s=>by
  have ih:=aMl c s
  unfold Lib.countByte at *
  simp only [List.map_cons,gM,ih,cBg,List.count_cons]
  cases x == c <;> simp
theorem bSd (G : Gd) : gG Tryz.prog G 47 tY:=by
 intro args h v h1 hr ρ w args' H hargs
 unfold tY at hr
 split at hr <;> (try (cases hr; done))
 rename_i s c
 cases hc : Nat.blt c 256 with
 | false=>rw [hc] at hr; cases hr
 | true =>
 rw [hc] at hr
 cases hc2 : Nat.ble s.length 4000000000 with
 | false=>rw [hc2] at hr; cases hr
 | true =>
 rw [hc2] at hr
 simp only [cond_true,aU,bG] at hr
 obtain ⟨rfl,rfl⟩:=hr
 obtain ⟨a⟩:=args'
 cases hargs with
 | cons _ x' l1 l1' hx hxs =>
 cases hxs with
 | cons _ y' l2 l2' hy hys =>
 cases hys
 cases hx with
 | s _ bs hbs =>
 cases hy with
 | s _ bc hbc =>
 obtain ⟨u,rfl,rfl⟩:=aJn hbc
 subst hbs
 refine CallFn.of Tryz.f47 (by kernel_rfl) (by kernel_rfl) ?_
 refine (Tryz.strings_Count_one bs u w).mono ?_
 rintro e w' ⟨rfl,rfl⟩
 refine ⟨ρ,_,rfl,Ex.refl _ _, ?_,H,Kp.refl _ _⟩
 rw [aMl]
 exact .i _ _
end Go.Dd

namespace Go.Dd
open Go.Proofs
def pS (args : List DV) (h : Hp) : aH :=
 match args with
 | [.s s]=>bif Nat.ble s.length 4000000000 then (match Lib.atoiAll (s.map UInt8.ofNat) with
  | .ok v=>some (.t [.i .i64 v,.n0],h)
  | Lib.NumEnd.syntax=>some (.t [.i .i64 0,.c 343 .u],h)
  | .range=>some (.t [.i .i64 (Lib.atoiSat (s.map UInt8.ofNat)),.c 343 .u],h)) else none
 | _=>none
def CFn : Cfg:=⟨Tryz.prog,fun g=>bif Nat.beq g 124 then some pS else bif Nat.beq g 24 then some jP else none⟩
def s74 (rec : RT) (n : Nat) (x0 : DV) (h0 : Hp) : aH :=
 bnd (pS [x0] h0) fun v1 h1 =>
 bnd (aC 0 v1 h1) fun v2 h2 =>
 bnd (aC 1 v1 h2) fun v3 h3 =>
 bnd (aGr .eql true v3 .n0 h3) fun v4 h4 =>
 bnd (gD v4 true (some (x0,h4)) h4) fun v5 h5 =>
 bnd (gD v4 true (cM v5 h5) h5) fun v6 h6 =>
 bnd (gD v4 true (aD .leq v6 (.i .i64 (Int.ofNat 9)) h6) h6) fun v7 h7 =>
 bnd (aP v4 v7 (.b false) h7) fun v8 h8 =>
 bnd (gD v8 true (some (v2,h8)) h8) fun v9 h9 =>
 bnd (gD v8 true (jP [v9] h9) h9) fun v10 h10 =>
 bnd (gD v8 true (some (x0,h10)) h10) fun v11 h11 =>
 bnd (gD v8 true (bI .eql v10 v11 h11) h11) fun v12 h12 =>
 bnd (aP v8 v12 (.b false) h12) fun v13 h13 =>
 bnd (gD v13 true (some (v2,h13)) h13) fun v14 h14 =>
 bnd (gD v13 true (aD .geq v14 (.i .i64 (Int.ofNat 0)) h14) h14) fun v15 h15 =>
 bnd (aP v13 v15 (.b false) h15) fun v16 h16 =>
 some (.t [v2,v16],h16)
abbrev c74 : Code:=cf Tryz.f74
def D74 (rec : RT) (n : Nat) (c : Code) (X : Nat → K) (k : K) : K:=aM CFn rec 29 n c X (aR CFn Tryz.f74) k
theorem dWp (rec : RT) (n : Nat) : D74 rec n c74 x0 (aR CFn Tryz.f74) = (K1 (s74 rec n) 0) :=
 (by kernel_rfl)
theorem dIo (rec : RT) (n : Nat) (args : List DV) (h : Hp) : aF CFn rec n 74 args h = s74 rec n (args.getD 0 aS) h :=
 (by kernel_rfl : aF CFn rec n 74 args h = D74 rec n c74 x0 (aR CFn Tryz.f74) (aJ args) h).trans ((congrFun (congrFun (dWp rec n) (aJ args)) h).trans (by kernel_rfl))
end Go.Dd

namespace Go.Dd
open Go.Proofs
theorem gB (f n : Nat) (acc : List Nat) : iC (f + 1) n acc = if 10 ≤ n then iC f (n / 10) ((48 + n % 10) :: acc) else (48 + n) :: acc:=by
 show (bif Nat.ble 10 n then iC f (Nat.div n 10) (Nat.add 48 (Nat.mod n 10) :: acc) else Nat.add 48 n :: acc) = _
 by_cases h : 10 ≤ n
 ·rw [Nat.ble_eq_true_of_le h,if_pos h]
  rfl
 ·rw [if_neg h]
  cases e : Nat.ble 10 n with
  | true=>exact absurd (Nat.le_of_ble_eq_true e) h
  | false=>rfl
theorem aDg : ∀ (f n : Nat) (acc : List Nat),n < 10 ^ (f + 1) → iC (f + 1) n acc = iC (f + 2) n acc
 | 0,n,acc,h=>by
  rw [gB,gB,if_neg (by omega),if_neg (by omega)]
 | f + 1,n,acc,h=>by
  rw [gB,gB (f + 2)]
  by_cases hn : 10 ≤ n
  ·rw [if_pos hn,if_pos hn]
   exact aDg f _ _ (by rw [Nat.pow_succ] at h; omega)
  ·rw [if_neg hn,if_neg hn]
theorem aAe : ∀ (f n : Nat) (acc : List Nat),iC f n acc = iC f n [] ++ acc ∨ f = 0
 | 0,n,acc=>.inr rfl
 | f + 1,n,acc=>by
  left
  rw [gB,gB f n []]
  by_cases hn : 10 ≤ n
  ·rw [if_pos hn,if_pos hn]
   rcases aAe f (n / 10) ((48 + n % 10) :: acc) with h1 | h1
   ·rcases aAe f (n / 10) [48 + n % 10] with h2 | h2
    ·rw [h1,h2]; simp
    ·subst h2; simp [iC]
   ·subst h1; simp [iC]
  ·rw [if_neg hn,if_neg hn]; rfl
def dg (n : Nat) : List Nat:=iC 20 n []
theorem lQ {n : Nat} (h : n < 10) : dg n = [48 + n]:=by
 unfold dg
 rw [gB,if_neg (by omega)]
theorem aJi {n : Nat} (h : 10 ≤ n) (h2 : n < 10 ^ 20) : dg n = dg (n / 10) ++ [48 + n % 10]:=by
 unfold dg
 rw [gB,if_pos h]
 rcases aAe 19 (n / 10) [48 + n % 10] with h1 | h1
 ·rw [h1]
  congr 1
  exact aDg 18 _ _ (by omega)
 ·omega
theorem sH : ∀ (f n : Nat) (acc : List Nat),(iC f n acc).length ≤ f + acc.length
 | 0,n,acc=>by simp [iC]
 | f + 1,n,acc=>by
  rw [gB]
  split
  ·have:=sH f (n / 10) ((48 + n % 10) :: acc)
   simp at this
   omega
  ·simp; omega
theorem bWs (n : Nat) : (dg n).length ≤ 20:=by
 have:=sH 20 n []
 simpa [dg] using this
theorem zF (n : Int) : (cG n).length ≤ 21:=by
 cases n with
 | ofNat n=>have:=sH 20 n []; simp [cG] at this ⊢; omega
 | negSucc n=>have:=sH 20 (n + 1) []; simp [cG] at this ⊢; omega
theorem aLd (a : Nat) : ∀ (s : Bs) (x : Nat),lZ a (s ++ [x]) = 10 * lZ a s + (x - 48)
 | [],x=>rfl
 | y :: s,x=>by
  show lZ (10 * a + (y - 48)) (s ++ [x]) = _
  rw [aLd _ s x]
  rfl
theorem dig_iff {x : Nat} : oN x = true ↔ 48 ≤ x ∧ x ≤ 57:=by
 unfold oN
 simp
def bFl (s : Bs) : Prop:=s ≠ [] ∧ (∀ x ∈ s,oN x = true) ∧ (s.length > 1 → s.head? ≠ some 48)
theorem cJq : ∀ {s : Bs},bFl s → s.head? ≠ some 48 → 0 < lZ 0 s:=by
 intro s hc h0
 obtain ⟨h1,h2,h3⟩:=hc
 have mono : ∀ (s : Bs) (a : Nat),a ≤ lZ a s:=by
  intro s
  induction s with
  | nil=>intro a; exact Nat.le_refl _
  | cons x s ih=>intro a; exact Nat.le_trans (by omega) (ih (10 * a + (x - 48)))
 cases s with
 | nil=>exact absurd rfl h1
 | cons x s =>
  have hx:=dig_iff.1 (h2 x (by simp))
  have : x ≠ 48:=fun e=>h0 (by rw [e]; rfl)
  have:=mono s (10 * 0 + (x - 48))
  show 0 < lZ (10 * 0 + (x - 48)) s
  omega
theorem bUh : ∀ (n : Nat) (s : Bs),s.length = n → n ≤ 9 → bFl s → dg (lZ 0 s) = s ∧ lZ 0 s < 10 ^ n
 | n,s,hn,h9,hc=>by
  rcases List.eq_nil_or_concat s with rfl | ⟨t,x,rfl⟩
  ·exact absurd rfl hc.1
  ·simp only [List.concat_eq_append] at *
   rw [List.length_append] at hn
   simp only [List.length_cons,List.length_nil] at hn
   obtain ⟨n,rfl⟩ : ∃ j,n = j + 1:=⟨n - 1,by omega⟩
   have hx:=dig_iff.1 (hc.2.1 x (by simp))
   rw [aLd]
   by_cases ht : t = []
   ·subst ht
    have hn0 : n = 0:=by simp at hn; omega
    subst hn0
    show dg (10 * 0 + (x - 48)) = [x] ∧ 10 * 0 + (x - 48) < 10 ^ 1
    rw [lQ (by omega)]
    refine ⟨?_,by omega⟩
    congr 1
    omega
   ·have hh : t.head? ≠ some 48:=by
     have:=hc.2.2 (by
      cases t with
      | nil=>exact absurd rfl ht
      | cons a b=>simp)
     cases t with
     | nil=>exact absurd rfl ht
     | cons a b=>simpa using this
    have hct : bFl t:=⟨ht,fun y hy=>hc.2.1 y (by simp [hy]),fun _=>hh⟩
    obtain ⟨e1,e2⟩:=bUh n t (by omega) (by omega) hct
    have hp:=cJq hct hh
    have h20 : 10 ^ (n + 1) ≤ 10 ^ 9:=Nat.pow_le_pow_right (by omega) (by omega)
    rw [Nat.pow_succ] at h20 ⊢
    refine ⟨?_,by omega⟩
    rw [aJi (by omega) (by omega),show (10 * lZ 0 t + (x - 48)) / 10 = lZ 0 t by omega,e1,show (10 * lZ 0 t + (x - 48)) % 10 = x - 48 by omega]
    congr 2
    omega
termination_by n=>n
theorem cAd : ∀ (f n : Nat),n < 10 ^ f → n < 10 ^ 20 → bFl (dg n) ∧ lZ 0 (dg n) = n ∧ (0 < n → (dg n).head? ≠ some 48)
 | 0,n,h,_=>by
  have : n = 0:=by simp at h; omega
  subst this
  rw [lQ (by omega)]
  exact ⟨⟨by simp,fun x hx=>by simp at hx; subst hx; rfl,by simp⟩,rfl,fun h=>by omega⟩
 | f + 1,n,h,h20=>by
  by_cases h10 : n < 10
  ·rw [lQ h10]
   refine ⟨⟨by simp,fun x hx=>by simp at hx; subst hx; exact dig_iff.2 ⟨by omega,by omega⟩,by simp⟩, ?_,fun h0=>by simp; omega⟩
   show 10 * 0 + (48 + n - 48) = n
   omega
  ·rw [aJi (by omega) h20]
   obtain ⟨⟨c1,c2,c3⟩,e,hd⟩:=cAd f (n / 10) (by rw [Nat.pow_succ] at h; omega) (by omega)
   have hd':=hd (by omega)
   have hhead : (dg (n / 10) ++ [48 + n % 10]).head? ≠ some 48:=by
    cases hh : dg (n / 10) with
    | nil=>exact absurd hh c1
    | cons a b=>rw [hh] at hd'; simpa using hd'
   refine ⟨⟨by simp,fun x hx => ?_,fun _=>hhead⟩, ?_,fun _=>hhead⟩
   ·rw [List.mem_append] at hx
    rcases hx with hx | hx
    ·exact c2 x hx
    ·simp at hx; subst hx; exact dig_iff.2 ⟨by omega,by omega⟩
   ·rw [aLd,e]
    omega
theorem cIn {s : Bs} {k : Nat} (h : eR s = some k) : bFl s ∧ s.length ≤ 9 ∧ k = lZ 0 s:=by
 unfold eR at h
 split at h
 ·cases h
 ·rename_i c
  simp only [not_or] at c
  obtain ⟨c1,c2,c3,c4⟩:=c
  refine ⟨⟨fun e=>by rw [e] at c1; simp at c1,fun x hx => ?_,fun hl e=>c3 ⟨hl,e⟩⟩,by omega,by simpa using h.symm⟩
  have : s.all oN = true:=by simpa using c4
  exact List.all_eq_true.1 this x hx
theorem cPn {s : Bs} (h : bFl s) (hl : s.length ≤ 9) : eR s = some (lZ 0 s):=by
 unfold eR
 rw [if_neg]
 obtain ⟨c1,c2,c3⟩:=h
 rintro (q | q | q | q)
 ·exact c1 (by simpa using q)
 ·omega
 ·exact c3 q.1 q.2
 ·have : s.all oN = true:=List.all_eq_true.2 c2
  rw [this] at q
  cases q
end Go.Dd

namespace Go.Dd
open Go.Proofs Go.Lib Go.RowKit
theorem aLz (s : List UInt8) : (s.map (·.toNat)).map UInt8.ofNat = s:=by
 rw [List.map_map]
 conv=>rhs; rw [← List.map_id s]
 apply List.map_congr_left
 intro x _
 simp
theorem cJz (G : Gd) : gG Tryz.prog G 124 pS:=by
 intro args h v h1 hr ρ w args' H hargs
 unfold pS at hr
 split at hr <;> (try (cases hr; done))
 rename_i s
 cases hc : Nat.ble s.length 4000000000 with
 | false=>rw [hc] at hr; cases hr
 | true =>
 rw [hc] at hr
 have hs':=Nat.le_of_ble_eq_true hc
 simp only [cond_true] at hr
 obtain ⟨a⟩:=args'
 cases hargs with
 | cons _ x' l1 l1' hx hxs =>
 cases hxs
 cases hx with
 | s _ bs hbs =>
 subst hbs
 have e1 : bs.size ≤ 4000000000:=by rw [List.length_map,Array.length_toList] at hs'; exact hs'
 rw [aLz] at hr
 obtain ⟨_,⟨e6,h6,k6⟩,e7,h7,k7⟩:=G.ok w H.gl
 refine CallFn.of Tryz.f124 (by kernel_rfl) (by kernel_rfl) ?_
 match hat : Lib.atoiAll bs.data.toList with
 | .ok n =>
  rw [hat] at hr
  simp only [aU,bG] at hr
  obtain ⟨rfl,rfl⟩:=hr
  refine (Tryz.strconv_Atoi_ok bs (by omega) n hat w).mono ?_
  rintro e w' ⟨rfl,hw⟩
  have hbel : Below w.heap.size w w':=by
   rcases hw with rfl | ⟨t,rfl⟩
   ·exact Below.refl _ _
   ·exact ⟨rfl,rfl,rfl,by rw [Lib.bytesWorld_size]; omega,fun i hi=>Lib.bytesWorld_at_old w _ t i hi⟩
  exact ⟨ρ,_,rfl,Ex.refl _ _,.t _ _ (.cons _ _ _ _ (.i _ _) (.cons _ _ _ _ .n0 .nil)),H.later hbel,Kp.later H hbel⟩
 | Lib.NumEnd.syntax =>
  rw [hat] at hr
  simp only [aU,bG] at hr
  obtain ⟨rfl,rfl⟩:=hr
  refine (Tryz.strconv_Atoi_syntax bs (by omega) hat e6 w h6 k6).mono ?_
  rintro e w' ⟨N,rfl,_,_,hbel⟩
  exact ⟨ρ,_,rfl,Ex.refl _ _,.t _ _ (.cons _ _ _ _ (.i _ _) (.cons _ _ _ _ (.c _ _ _ (.u _)) .nil)),H.later hbel,Kp.later H hbel⟩
 | .range =>
  rw [hat] at hr
  simp only [aU,bG] at hr
  obtain ⟨rfl,rfl⟩:=hr
  refine (Tryz.strconv_Atoi_range bs (by omega) hat e7 w h7 k7).mono ?_
  rintro e w' ⟨N,rfl,_,_,hbel⟩
  exact ⟨ρ,_,rfl,Ex.refl _ _,.t _ _ (.cons _ _ _ _ (.i _ _) (.cons _ _ _ _ (.c _ _ _ (.u _)) .nil)),H.later hbel,Kp.later H hbel⟩
theorem cNa (G : Gd) (g : FuncId) (F : List DV → Hp → aH) (h : CFn.I g = some F) : gG CFn.P G g F:=by
 unfold CFn at h
 dsimp only at h
 cases h47 : Nat.beq g 124 with
 | true =>
  rw [h47] at h
  cases Nat.eq_of_beq_eq_true h47
  simp only [cond_true,aU] at h
  subst h
  exact cJz G
 | false =>
  rw [h47] at h
  cases h66 : Nat.beq g 24 with
  | true =>
   rw [h66] at h
   cases Nat.eq_of_beq_eq_true h66
   simp only [cond_false,cond_true,aU] at h
   subst h
   exact aXs G
  | false=>rw [h66] at h; cases h
theorem aXy : ∀ (s : Bs) (a j : Nat),(∀ x ∈ s,oN x = true) → a < 10 ^ j → j + s.length ≤ 9 → Lib.parseUint10 a (s.map UInt8.ofNat) = .ok (lZ a s)
 | [],a,j,_,_,_=>rfl
 | x :: s,a,j,hd,ha,hj=>by
  have hx:=dig_iff.1 (hd x (by simp))
  have e : (UInt8.ofNat x).toNat = x:=by simp; omega
  have p : 10 ^ j ≤ 10 ^ 9:=Nat.pow_le_pow_right (by omega) (by simp at hj; omega)
  simp only [List.map_cons,Lib.parseUint10,e]
  rw [if_pos ⟨hx.1,hx.2⟩,if_neg (by omega),if_neg (by omega)]
  have:=aXy s (a * 10 + (x - 48)) (j + 1) (fun y hy=>hd y (by simp [hy])) (by rw [Nat.pow_succ]; omega) (by simp at hj; omega)
  rw [this,Nat.mul_comm a 10]
  rfl
theorem lX {s : Bs} {k : Nat} (h : eR s = some k) : Lib.atoiAll (s.map UInt8.ofNat) = .ok (k : Int) ∧ cG (k : Int) = s ∧ s.length ≤ 9:=by
 obtain ⟨hc,hl,rfl⟩:=cIn h
 obtain ⟨e1,e2⟩:=bUh s.length s rfl hl hc
 refine ⟨?_,e1,hl⟩
 have hu:=aXy s 0 0 hc.2.1 (by simp) (by omega)
 cases s with
 | nil=>exact absurd rfl hc.1
 | cons x s =>
  have hx:=dig_iff.1 (hc.2.1 x (by simp))
  have e : (UInt8.ofNat x).toNat = x:=by simp; omega
  have p : 10 ^ (x :: s).length ≤ 10 ^ 9:=Nat.pow_le_pow_right (by omega) hl
  simp only [List.map_cons,Lib.atoiAll,e] at hu ⊢
  rw [if_neg (show ¬ (x = 43 ∨ x = 45) by omega)]
  have pm : Lib.parseMag (UInt8.ofNat x :: s.map UInt8.ofNat) = .ok (lZ 0 (x :: s)):=by
   unfold Lib.parseMag
   rw [if_neg (by simp)]
   exact hu
  rw [pm]
  simp only
  have n45 : ¬ x = 45:=by omega
  rw [if_neg (by omega),if_neg (by omega),if_neg n45]
theorem aSf (n : Nat) {s : Bs} (hs : s.length ≤ 4000000000) (h : Hp) : mS CFn (n + 1) 74 [.s s] h = some (.t [.i .i64 (match eR s with
  | some k=>Int.ofNat k
  | none=>aCc s),.b (eR s).isSome],h):=by
 have e0 : mS CFn (n + 1) 74 [.s s] h = s74 (mS CFn n) n (.s s) h:=dIo (mS CFn n) n [.s s] h
 rw [e0]
 unfold s74
 have bl:=Nat.ble_eq_true_of_le hs
 have bndS' : ∀ (v : DV) (h : Hp) (k : DV → Hp → aH),bnd (some (v,h)) k = k v h:=fun _ _ _=>rfl
 have x0 : ∀ (a b : DV) (h : Hp),aC 0 (.t [a,b]) h = some (a,h):=fun _ _ _=>rfl
 have x1 : ∀ (a b : DV) (h : Hp),aC 1 (.t [a,b]) h = some (b,h):=fun _ _ _=>rfl
 have gt : ∀ (r : aH) (h : Hp),gD (.b true) true r h = r:=fun _ _=>rfl
 have gf : ∀ (r : aH) (h : Hp),gD (.b false) true r h = some (aS,h):=fun _ _=>rfl
 have pt : ∀ (x y : DV) (h : Hp),aP (.b true) x y h = some (x,h):=fun _ _ _=>rfl
 have pf : ∀ (x y : DV) (h : Hp),aP (.b false) x y h = some (y,h):=fun _ _ _=>rfl
 match hat : Lib.atoiAll (s.map UInt8.ofNat) with
 | Lib.NumEnd.syntax =>
  have hno : eR s = none:=by
   cases hk : eR s with
   | none=>rfl
   | some k=>rw [(lX hk).1] at hat; cases hat
  have hv : aCc s = 0:=by unfold aCc; rw [hat]
  have ha : pS [.s s] h = some (.t [.i .i64 0,.c 343 .u],h):=by simp only [pS,bl,cond_true,hat]
  have en : ∀ h,aGr .eql true (.c 343 .u) .n0 h = some (.b false,h):=fun _=>rfl
  simp only [ha,bndS',x0,x1,en,gf,pf,hno,hv,Option.isSome_none]
 | .range =>
  have hno : eR s = none:=by
   cases hk : eR s with
   | none=>rfl
   | some k=>rw [(lX hk).1] at hat; cases hat
  have hv : aCc s = Lib.atoiSat (s.map UInt8.ofNat):=by unfold aCc; rw [hat]
  have ha : pS [.s s] h = some (.t [.i .i64 (Lib.atoiSat (s.map UInt8.ofNat)),.c 343 .u],h):=by simp only [pS,bl,cond_true,hat]
  have en : ∀ h,aGr .eql true (.c 343 .u) .n0 h = some (.b false,h):=fun _=>rfl
  simp only [ha,bndS',x0,x1,en,gf,pf,hno,hv,Option.isSome_none]
 | .ok v =>
  have hv : aCc s = v:=by unfold aCc; rw [hat]
  have ha : pS [.s s] h = some (.t [.i .i64 v,.n0],h):=by simp only [pS,bl,cond_true,hat]
  have en : ∀ h,aGr .eql true .n0 .n0 h = some (.b true,h):=fun _=>rfl
  have ln : ∀ h,cM (.s s) h = some (.i .i64 (Int.ofNat s.length),h):=fun _=>rfl
  have le : ∀ (a b : Int) h,aD .leq (.i .i64 a) (.i .i64 b) h = some (.b (decide (a ≤ b)),h):=fun a b h=>by simp only [aD,if_true,fF]
  have ge : ∀ (a b : Int) h,aD .geq (.i .i64 a) (.i .i64 b) h = some (.b (decide (a ≥ b)),h):=fun a b h=>by simp only [aD,if_true,fF]
  have val : (match eR s with
   | some k=>Int.ofNat k
   | none=>aCc s) = v:=by
   cases hk : eR s with
   | none=>exact hv
   | some k =>
    have:=(lX hk).1
    rw [hat] at this
    cases this
    rfl
  rw [val]
  simp only [ha,bndS',x0,x1,en,gt,ln,le,pt]
  by_cases c1 : s.length ≤ 9
  case neg =>
   have d1 : decide (Int.ofNat s.length ≤ Int.ofNat 9) = false:=decide_eq_false (by show ¬ (s.length : Int) ≤ ((9 : Nat) : Int); omega)
   have hno : (eR s).isSome = false:=by
    cases hk : eR s with
    | none=>rfl
    | some k=>exact absurd (lX hk).2.2 c1
   simp only [d1,gf,bndS',pf,hno]
  have d1 : decide (Int.ofNat s.length ≤ Int.ofNat 9) = true:=decide_eq_true (by show (s.length : Int) ≤ ((9 : Nat) : Int); omega)
  have rng : -9223372036854775808 ≤ v ∧ v ≤ 9223372036854775807:=by
   have key : ∀ (l : List UInt8) (v : Int),Lib.atoiAll l = .ok v → -9223372036854775808 ≤ v ∧ v ≤ 9223372036854775807:=by
    intro l v h
    cases l with
    | nil=>cases h
    | cons c r =>
     simp only [Lib.atoiAll] at h
     split at h <;> (try (cases h; done))
     split at h <;> (try (cases h; done))
     split at h <;> (try (cases h; done))
     rename_i u _ q1 q2
     cases h
     split <;> (rename_i q3; simp [q3] at q1 q2; omega)
   exact key _ _ hat
  have it : ∀ h,jP [.i .i64 v] h = some (.s (cG v),h):=fun h=>by simp [jP,rng.1,rng.2]
  have eqs : ∀ h,bI .eql (.s (cG v)) (.s s) h = some (.b (uL (cG v) s),h):=fun _=>rfl
  simp only [d1,gt,bndS',it,eqs,pt]
  have eqd : ∀ a b : List Nat,uL a b = true ↔ a = b:=by
   intro a
   induction a with
   | nil=>intro b; cases b <;> simp [uL]
   | cons x a ih=>intro b; cases b with
    | nil=>simp [uL]
    | cons y b =>
     simp only [uL,Bool.and_eq_true,ih,List.cons.injEq]
     constructor
     ·rintro ⟨p,q⟩; exact ⟨Nat.eq_of_beq_eq_true p,q⟩
     ·rintro ⟨rfl,q⟩; exact ⟨Nat.beq_refl _,q⟩
  cases c2 : uL (cG v) s with
  | false =>
   have hno : (eR s).isSome = false:=by
    cases hk : eR s with
    | none=>rfl
    | some k =>
     obtain ⟨q1,q2,q3⟩:=lX hk
     rw [hat] at q1
     cases q1
     rw [(eqd _ _).2 q2] at c2
     cases c2
   simp only [gf,bndS',pf,hno]
  | true =>
   have hs2:=(eqd _ _).1 c2
   simp only [gt,bndS',ge,pt]
   congr 4
   cases v with
   | ofNat n =>
    have d2 : decide (Int.ofNat n ≥ Int.ofNat 0) = true:=decide_eq_true (by show ((0 : Nat) : Int) ≤ (n : Int); omega)
    rw [d2]
    have hn20 : n < 10 ^ 20:=by have:=rng.2; simp at this; omega
    have hcan:=cAd 20 n hn20 hn20
    have hdg : dg n = s:=hs2
    rw [hdg] at hcan
    rw [cPn hcan.1 c1]
    rfl
   | negSucc n =>
    have d2 : decide (Int.negSucc n ≥ Int.ofNat 0) = false:=rfl
    rw [d2]
    cases hk : eR s with
    | none=>rfl
    | some k =>
     obtain ⟨q1,_,_⟩:=lX hk
     rw [hat] at q1
     cases q1
theorem bGj (G : Gd) : gG CF1.P G 74 gK:=by
 intro args h v h1 hr
 refine aEd (C:=CFn) Try_ok cNa 60 G 74 args h v h1 ?_
 unfold gK at hr
 split at hr <;> (try (cases hr; done))
 rename_i s
 cases hc : Nat.ble s.length 4000000000 with
 | false=>rw [hc] at hr; cases hr
 | true =>
 rw [hc] at hr
 have hs':=Nat.le_of_ble_eq_true hc
 simp only [cond_true] at hr
 rw [aSf 59 hs']
 cases hk : eR s with
 | none=>rw [hk] at hr; exact hr
 | some k=>rw [hk] at hr; exact hr
end Go.Dd

end
