/- A part of the proof: HD HE OC T0 TL TM TN TP TQ TR HF HG HI W1 W2 W3 W4 W5 LT0 LT1 LT2 LT3 RH NJ SH FQ RL PL0 PL1: each text has a comment of its own. -/
import Derived.Test.YtfakmddlgjngnaaGreatDoorIA4
import Derived.Test.YtfakmddlgjngnaaGreatDoorIA5
import Derived.Test.YtfakmddlgjngnaaGreatDoorIA6
import Derived.Test.YtfakmddlgjngnaaGreatDoorIA7
import Derived.Shelf.Strings.Builder1
import Derived.Shelf.Strings.Builder2
import Derived.Shelf.Small.Strs
import Derived.Shelf.Strconv.Itoa0
import Derived.Shelf.Strconv.Itoa1
import Derived.Shelf.LaysM
import Derived.Shelf.Strconv.Itoa2
import Derived.Shelf.Strconv.Itoa3
import Derived.Shelf.Strings.Search1
import Derived.Shelf.Strings.Search2
import Derived.Shelf.Strings.Search3
import Derived.Shelf.Strings.Count
import Derived.Shelf.Strings.Shaped
import Derived.Shelf.Strings.Split
import Derived.Shelf.Strings.Replace
import Derived.Shelf.Bits.Mul64
import Derived.Shelf.Unicode.DecodeSlow
import Derived.Test.YtfakmddlgjngnaaGreatDoorProg
import Derived.Lib.SplitLaws
import Derived.Lib.IndexBytes
import Derived.Lib.CutLaws
import Derived.Lib.AtoiAll
import Derived.Tactics
import Derived.Tactics2
import Derived.RegionTactic
import Derived.RegionCalls
set_option linter.unusedVariables false
set_option linter.unusedSimpArgs false
set_option linter.constructorNameAsVariable false
set_option maxRecDepth 100000
noncomputable section
namespace Go.Dd
theorem lF : ∀ p q : Pos,kC p q = true → p = q
 | .h,.h,_=>rfl
 | .h,.o q,h=>by cases h
 | .h,.i q,h=>by cases h
 | .o p,.h,h=>by cases h
 | .o p,.o q,h=>by rw [lF p q h]
 | .o p,.i q,h=>by cases h
 | .i p,.h,h=>by cases h
 | .i p,.o q,h=>by cases h
 | .i p,.i q,h=>by rw [lF p q h]
theorem bNc (x y : Int) (h : cFi x y = true) : x = y:=by
 cases x <;> cases y <;> simp only [cFi] at h
 ·rw [Nat.eq_of_beq_eq_true h]
 ·cases h
 ·cases h
 ·rw [Nat.eq_of_beq_eq_true h]
theorem uA : ∀ t u : WT,wtE t u = true → t = u
 | .e,.e,_=>rfl
 | .e,.n _ _ _,h=>by cases h
 | .n _ _ _,.e,h=>by cases h
 | .n l v r,.n l' v' r',h=>by
  have h' : (cFi v v' && (wtE l l' && wtE r r')) = true:=h
  simp only [Bool.and_eq_true] at h'
  rw [bNc _ _ h'.1,uA _ _ h'.2.1,uA _ _ h'.2.2]
theorem bDg (x y : DV) (h : dvE x y = true) : x = y:=by
 unfold dvE at h
 split at h <;> (try (cases h; done)) <;> (try rfl)
 ·rw [bNc _ _ h]
 ·rw [(aIe _ _).1 h]
 ·simp only [Bool.and_eq_true] at h
  rw [lF _ _ h.1,Nat.eq_of_beq_eq_true h.2]
 ·simp only [Bool.and_eq_true] at h
  rw [lF _ _ h.1,Nat.eq_of_beq_eq_true h.2.1,Nat.eq_of_beq_eq_true h.2.2.1,Nat.eq_of_beq_eq_true h.2.2.2]
 ·rw [lF _ _ h]
 ·simp at h; rw [h]
theorem aHc : ∀ l m : List DV,dFd l m = true → l = m
 | [],[],_=>rfl
 | [],_ :: _,h=>by cases h
 | _ :: _,[],h=>by cases h
 | x :: l,y :: m,h=>by
  have h' : (dvE x y && dFd l m) = true:=h
  simp only [Bool.and_eq_true] at h'
  rw [bDg _ _ h'.1,aHc _ _ h'.2]
theorem bLh : ∀ l m : List (DV × DV),eBg l m = true → l = m
 | [],[],_=>rfl
 | [],_ :: _,h=>by cases h
 | _ :: _,[],h=>by cases h
 | x :: l,y :: m,h=>by
  have h' : (dvE x.1 y.1 && (dvE x.2 y.2 && eBg l m)) = true:=h
  simp only [Bool.and_eq_true] at h'
  rw [bLh _ _ h'.2.2]
  congr 1
  exact Prod.ext (bDg _ _ h'.1) (bDg _ _ h'.2.1)
theorem eDj (o p : Ob) (h : obE o p = true) : o = p:=by
 unfold obE at h
 split at h <;> (try (cases h; done))
 ·rw [aHc _ _ h]
 ·rw [bLh _ _ h]
 ·simp only [Bool.and_eq_true] at h
  rw [Nat.eq_of_beq_eq_true h.1,uA _ _ h.2]
 ·rw [uA _ _ h]
theorem aRq (t : Tr Ob) : ∀ l : List (Pos × Ob),cMk t l = true → ∀ x ∈ l,t.get x.1 = some x.2
 | [],_,x,hx=>by cases hx
 | y :: l,h,x,hx=>by
  have h' : ((match t.get y.1 with
   | some o=>obE o y.2
   | none=>false) && cMk t l) = true:=h
  simp only [Bool.and_eq_true] at h'
  rcases List.mem_cons.1 hx with rfl | hx
  ·have h1:=h'.1
   split at h1
   ·rename_i o ho
    rw [ho,eDj _ _ h1]
   ·cases h1
  ·exact aRq t l h'.2 x hx
theorem aDh : ∀ (l : List (Pos × Ob)) (b : Pos) (o : Ob),(dYr l).get b = some o → (b,o) ∈ l
 | [],b,o,h=>by cases b <;> cases h
 | y :: l,b,o,h=>by
  have h' : (Tr.set y.2 y.1 (dYr l)).get b = some o:=h
  by_cases e : b = y.1
  ·subst e
   rw [fAx] at h'
   simp only [bB] at h'
   rw [← h']
   exact List.mem_cons_self
  ·rw [fAw _ _ _ _ e] at h'
   exact List.mem_cons_of_mem _ (aDh l b o h')
theorem kV (o : Ob) : vL true o o:=by cases o <;> simp [vL]
theorem Sim.refl (h : Hp) : Sim true h h:=⟨rfl,fun b o hb=>⟨o,hb,kV o⟩⟩
theorem lE {o o' : Ob} (h : vL true o o') : o' = o:=by cases o <;> simpa [vL] using h
theorem Sim.trans {a b c : Hp} (h : Sim true a b) (k : Sim true b c) : Sim true a c:=⟨k.next.trans h.next,fun p o hp=>by
 obtain ⟨o',h1,h2⟩:=h.get p o hp
 rw [lE h2] at h1
 exact k.get p o h1⟩
theorem bGx {r : aH} {vs : List DV} {nx : Nat} {l : List (Pos × Ob)} (h : mT r vs nx l = true) : ∃ g,r = some (.t vs,g) ∧ Sim true (iM nx l) g:=by
 unfold mT at h
 split at h <;> (try (cases h; done))
 rename_i us g
 simp only [Bool.and_eq_true] at h
 refine ⟨g,by rw [aHc _ _ h.1], ?_,fun b o hb=>⟨o, ?_,kV o⟩⟩
 ·exact lF _ _ h.2.1
 ·exact aRq _ _ h.2.2 (b,o) (aDh _ _ _ hb)
end Go.Dd

namespace Go.Dd
open Go.Proofs
noncomputable section
def pN0 : Code:=cf Tryz.f11
def pN1 : Code:=cR pN0
def pN2 : Code:=cR pN1
def pN3 : Code:=cR pN2
def pN4 : Code:=cR pN3
def pN5 : Code:=cR pN4
def pN6 : Code:=cR pN5
def dOb : Code:=.seq (cL pN0) (.seq (cL pN1) (.seq (cL pN2) (.seq (cL pN3) (.seq (cL pN4) (.seq (cL pN5) (cL (cL pN6)))))))
def cOo : Code:=cR (cL pN6)
def eSs : Code:=cR pN6
def hS : Hp:=⟨aL 1,.e⟩
def eNf : K:=fun e h=>some (.t [e 5,e 155,e 156,e 157],h)
def eEb (n : Nat) : aH:=aW CF (jX 899) 179 899 dOb (fun _ _ _=>none) (fun _ _=>none) eNf (aQ [.i .i64 (.ofNat n)]) hS
end
theorem he0 : mT (eEb 30000) (lW 0) 432 (oW 30000 553 84 18 [1076,1096,6,24,42,60,78,96,114,132,150,168,186,204,222,240,258,276] [(10,0),(19,0),(46,0),(55,0),(64,0),(91,0),(100,0),(109,0),(118,0),(127,0),(145,0)] 0) = true:=by kernel_rfl
end Go.Dd

namespace Go.Dd
inductive Out where
 | n (e : aZ) (h : Hp)
 | x (i : Nat) (e : aZ) (h : Hp)
 | r (e : aZ) (h : Hp)
def fCa (o : Option Out) (X : Nat → K) (kr k : K) : aH :=
 match o with
 | none=>none
 | some (.n e h)=>k e h
 | some (.x i e h)=>X i e h
 | some (.r e h)=>kr e h
section
variable {C : Cfg} {rec : FuncId → List DV → Hp → aH} {nt : Nat}
theorem bNt (all : Array Oper) : ∀ l : List Oper,∃ O : aZ → Hp → Option (aZ × Hp),∀ k env h,fY C rec nt all l k env h = match O env h with
  | none=>none
  | some (e,h)=>k e h
 | []=>⟨fun e h=>some (e,h),fun k env h=>rfl⟩
 | o :: l=>by
  obtain ⟨O,hO⟩:=bNt all l
  refine ⟨fun env h=>bif cX nt o.dst then (match bA C rec all o env h with
   | some (v,h')=>O (bJ env o.dst v) h'
   | none=>none) else none,fun k env h => ?_⟩
  change cnd (cX nt o.dst) (bnd (bA C rec all o env h) fun v h'=>fY C rec nt all l k (bJ env o.dst v) h') = _
  cases cX nt o.dst with
  | false=>rfl
  | true =>
   simp only [cond_true]
   cases hs : bA C rec all o env h with
   | none=>rfl
   | some p=>exact hO k _ _
theorem aVd (all : Array Oper) (m : Array Nat) (p0 : Pos) : ∀ (l : List Oper) (i c : Nat) (dirty : Bool) (rd : List Seen) (hs : List (Option Nat × Hp)),∃ O : aZ → Hp → Option (aZ × Hp),
  ∀ k env h,eO C rec nt all m p0 l k i c dirty rd hs env h = match O env h with
   | none=>none
   | some (e,h)=>k e h
 | [],i,c,dirty,rd,hs=>⟨fun e h=>some (e,h),fun k env h=>rfl⟩
 | o :: l,i,c,dirty,rd,hs=>by
  have ih:=aVd all m p0 l
  cases hc : bU C.P o.op with
  | pure =>
   obtain ⟨O,hO⟩:=ih (i + 1) c dirty rd hs
   refine ⟨fun env h=>bif cX nt o.dst then (match bA C rec all o env h with
    | some (v,h')=>O (bJ env o.dst v) h'
    | none=>none) else none,fun k env h => ?_⟩
   have e : eO C rec nt all m p0 (o :: l) k i c dirty rd hs env h = cnd (cX nt o.dst) (bnd (bA C rec all o env h) fun v h'=>eO C rec nt all m p0 l k (i + 1) c dirty rd hs (bJ env o.dst v) h'):=by
    change cnd (cX nt o.dst) (match bU C.P o.op with | .pure=>_ | .reads=>_ | .makes=>_ | .acts=>_) = _
    rw [hc]
    rfl
   rw [e]
   cases cX nt o.dst with
   | false=>rfl
   | true =>
    simp only [cond_true]
    cases hs : bA C rec all o env h with
    | none=>rfl
    | some p=>exact hO k _ _
  | reads =>
   have hex : ∀ (env : aZ) (v : DV),∃ O : aZ → Hp → Option (aZ × Hp),∀ k e h,eO C rec nt all m p0 l k (i + 1) c dirty (⟨i,bA C rec all o env,v⟩ :: rd) hs e h = match O e h with
    | none=>none
    | some (e,h)=>k e h:=fun env v=>ih (i + 1) c dirty (⟨i,bA C rec all o env,v⟩ :: rd) hs
   refine ⟨fun env h=>bif cX nt o.dst then (match bA C rec all o env h with
    | some (v,h')=>bif eP m i v (bA C rec all o env) dirty hs then (hex env v).choose (bJ env o.dst v) h' else none
    | none=>none) else none,fun k env h => ?_⟩
   have e : eO C rec nt all m p0 (o :: l) k i c dirty rd hs env h = cnd (cX nt o.dst) (bnd (bA C rec all o env h) fun v h' =>
     cnd (eP m i v (bA C rec all o env) dirty hs) (eO C rec nt all m p0 l k (i + 1) c dirty (⟨i,bA C rec all o env,v⟩ :: rd) hs (bJ env o.dst v) h')):=by
    change cnd (cX nt o.dst) (match bU C.P o.op with | .pure=>_ | .reads=>_ | .makes=>_ | .acts=>_) = _
    rw [hc]
    rfl
   rw [e]
   cases cX nt o.dst with
   | false=>rfl
   | true =>
    simp only [cond_true]
    cases hs2 : bA C rec all o env h with
    | none=>rfl
    | some p =>
     obtain ⟨v,h'⟩:=p
     show cnd (eP m i v (bA C rec all o env) dirty hs) _ = _
     cases hcc : eP m i v (bA C rec all o env) dirty hs with
     | false=>simp only [hcc,cond_false]
     | true=>simp only [hcc,cond_true]; exact (hex env v).choose_spec k _ _
  | makes =>
   obtain ⟨O,hO⟩:=ih (i + 1) (c + 1) true rd hs
   refine ⟨fun env h=>bif cX nt o.dst then (match dW C o (bX c p0) env h with
    | some (v,h')=>O (bJ env o.dst v) h'
    | none=>none) else none,fun k env h => ?_⟩
   have e : eO C rec nt all m p0 (o :: l) k i c dirty rd hs env h = cnd (cX nt o.dst) (bnd (dW C o (bX c p0) env h) fun v h'=>eO C rec nt all m p0 l k (i + 1) (c + 1) true rd hs (bJ env o.dst v) h'):=by
    change cnd (cX nt o.dst) (match bU C.P o.op with | .pure=>_ | .reads=>_ | .makes=>_ | .acts=>_) = _
    rw [hc]
    rfl
   rw [e]
   cases cX nt o.dst with
   | false=>rfl
   | true =>
    simp only [cond_true]
    cases hs : dW C o (bX c p0) env h with
    | none=>rfl
    | some p=>exact hO k _ _
  | acts =>
   have hex : ∀ h' : Hp,∃ O : aZ → Hp → Option (aZ × Hp),∀ k e h,eO C rec nt all m p0 l k (i + 1) c false rd ((some i,h') :: hs) e h = match O e h with
    | none=>none
    | some (e,h)=>k e h:=fun h'=>ih (i + 1) c false rd ((some i,h') :: hs)
   refine ⟨fun env h=>bif cX nt o.dst then (match bA C rec all o env h with
    | some (v,h')=>bif rd.all (fun q=>hC m q.at_ i || aX (q.look h') q.v) then (hex h').choose (bJ env o.dst v) h' else none
    | none=>none) else none,fun k env h => ?_⟩
   have e : eO C rec nt all m p0 (o :: l) k i c dirty rd hs env h = cnd (cX nt o.dst) (bnd (bA C rec all o env h) fun v h' =>
     cnd (rd.all (fun q=>hC m q.at_ i || aX (q.look h') q.v)) (eO C rec nt all m p0 l k (i + 1) c false rd ((some i,h') :: hs) (bJ env o.dst v) h')):=by
    change cnd (cX nt o.dst) (match bU C.P o.op with | .pure=>_ | .reads=>_ | .makes=>_ | .acts=>_) = _
    rw [hc]
    rfl
   rw [e]
   cases cX nt o.dst with
   | false=>rfl
   | true =>
    simp only [cond_true]
    cases hs2 : bA C rec all o env h with
    | none=>rfl
    | some p =>
     obtain ⟨v,h'⟩:=p
     show cnd (rd.all (fun q=>hC m q.at_ i || aX (q.look h') q.v)) _ = _
     cases hcc : rd.all (fun q=>hC m q.at_ i || aX (q.look h') q.v) with
     | false=>simp only [hcc,cond_false]
     | true=>simp only [hcc,cond_true]; exact (hex h').choose_spec k _ _
theorem aVm (n : Nat) : ∀ c : Code,∃ O : aZ → Hp → Option Out,∀ X kr k env h,aW C rec nt n c X kr k env h = fCa (O env h) X kr k:=by
 have hfail : ∃ O : aZ → Hp → Option Out,∀ (X : Nat → K) (kr k : K) (env : aZ) (h : Hp),bY env h = fCa (O env h) X kr k:=⟨fun _ _=>none,fun X kr k env h=>rfl⟩
 intro c
 induction c with
 | skip=>exact ⟨fun e h=>some (.n e h),fun X kr k env h=>rfl⟩
 | region id ops dr =>
  cases dr with
  | false =>
   obtain ⟨O,hO⟩:=bNt (C:=C) (rec:=rec) (nt:=nt) ops ops.toList
   refine ⟨fun env h=>(O env h).map fun p=>.n p.1 p.2,fun X kr k env h => ?_⟩
   show fY C rec nt ops ops.toList k env h = _
   rw [hO]
   dsimp only
   cases hh : O env h <;> rfl
  | true =>
   cases hd : eV C.P ops with
   | false =>
    refine ⟨fun _ _=>none,fun X kr k env h => ?_⟩
    show (Bool.rec (motive:=fun _=>K) bY (iR C rec nt ops k) (eV C.P ops)) env h = _
    rw [hd]; rfl
   | true =>
    have hex : ∀ h : Hp,_:=fun h=>aVd (C:=C) (rec:=rec) (nt:=nt) ops (Region.before ops) h.next ops.toList 0 0 false [] [(none,resv (cF C.P ops.toList) h)]
    refine ⟨fun env h=>((hex h).choose env (resv (cF C.P ops.toList) h)).map fun p=>.n p.1 p.2,fun X kr k env h => ?_⟩
    have e : aW C rec nt n (.region id ops true) X kr k env h = iR C rec nt ops k env h:=by
     show (Bool.rec (motive:=fun _=>K) bY (iR C rec nt ops k) (eV C.P ops)) env h = _
     rw [hd]
    rw [e]
    unfold iR
    rw [(hex h).choose_spec k env _]
    dsimp only
    cases hh : (hex h).choose env (resv (cF C.P ops.toList) h) <;> rfl
 | seq x y ihx ihy =>
  obtain ⟨O1,h1⟩:=ihx
  obtain ⟨O2,h2⟩:=ihy
  refine ⟨fun env h=>match O1 env h with
   | some (.n e h)=>O2 e h
   | o=>o,fun X kr k env h => ?_⟩
  show aW C rec nt n x X kr (aW C rec nt n y X kr k) env h = _
  rw [h1]
  dsimp only
  cases ho : O1 env h with
  | none=>rfl
  | some o =>
   cases o with
   | n e h'=>exact h2 X kr k e h'
   | x i e h'=>rfl
   | r e h'=>rfl
 | cond c x y ihx ihy =>
  obtain ⟨O1,h1⟩:=ihx
  obtain ⟨O2,h2⟩:=ihy
  refine ⟨fun env h=>match opr env c with
   | .b true=>O1 env h
   | .b false=>O2 env h
   | _=>none,fun X kr k env h => ?_⟩
  show aR (opr env c) (aW C rec nt n x X kr k env h) (aW C rec nt n y X kr k env h) = _
  rw [h1,h2]
  rw [oL]
  dsimp only
  cases opr env c <;> try rfl
  rename_i b
  cases b <;> rfl
 | block id x ih =>
  obtain ⟨O1,h1⟩:=ih
  refine ⟨fun env h=>match O1 env h with
   | some (.x i e h')=>bif Nat.beq i id then some (.n e h') else some (.x i e h')
   | o=>o,fun X kr k env h => ?_⟩
  show aW C rec nt n x (fun j=>bif Nat.beq j id then k else X j) kr k env h = _
  rw [h1]
  dsimp only
  cases ho : O1 env h with
  | none=>rfl
  | some o =>
   cases o with
   | n e h'=>rfl
   | r e h'=>rfl
   | x i e h' =>
    simp only [fCa]
    cases hb : Nat.beq i id with
    | true=>rfl
    | false=>rfl
 | loop x ih =>
  obtain ⟨O1,h1⟩:=ih
  have key : ∀ m : Nat,∃ O : aZ → Hp → Option Out,∀ (X : Nat → K) (kr k : K) env h,aM (fun kk=>aW C rec nt n x X kr kk) m env h = fCa (O env h) X kr k:=by
   intro m
   induction m with
   | zero=>exact ⟨fun _ _=>none,fun X kr k env h=>rfl⟩
   | succ m ihm =>
    obtain ⟨O2,h2⟩:=ihm
    refine ⟨fun env h=>match O1 env h with
     | some (.n e h)=>O2 e h
     | o=>o,fun X kr k env h => ?_⟩
    show aW C rec nt n x X kr (aM (fun kk=>aW C rec nt n x X kr kk) m) env h = _
    rw [h1]
    dsimp only
    cases ho : O1 env h with
    | none=>rfl
    | some o =>
     cases o with
     | n e h'=>exact h2 X kr k e h'
     | x i e h'=>rfl
     | r e h'=>rfl
  exact key n
 | rangeFunc f ps x y ihx ihy=>exact hfail
 | exit id=>exact ⟨fun e h=>some (.x id e h),fun X kr k env h=>rfl⟩
 | scope x ih=>exact ih
 | label l=>exact ⟨fun e h=>some (.n e h),fun X kr k env h=>rfl⟩
 | goto l=>exact hfail
 | ret=>exact ⟨fun e h=>some (.r e h),fun X kr k env h=>rfl⟩
 | refuse why=>exact hfail
end
end Go.Dd

namespace Go.Dd
open Go.Proofs
def t20 (rec : FuncId → List DV → Hp → aH) (n : Nat) (x0 x1 : DV) (h0 : Hp) : aH :=
 bnd (aC .eql x1 (.i .i64 (Int.ofNat 0)) h0) fun v1 h1 =>
 bnd (gD v1 false (some (x1,h1)) h1) fun v2 h2 =>
 bnd (gD v1 false (aC .eql v2 (.i .i64 (Int.ofNat 2)) h2) h2) fun v3 h3 =>
 bnd (aN v1 (.b true) v3 h3) fun v4 h4 =>
 bnd (gD v4 false (some (x1,h4)) h4) fun v5 h5 =>
 bnd (gD v4 false (aC .eql v5 (.i .i64 (Int.ofNat 4)) h5) h5) fun v6 h6 =>
 bnd (aN v4 (.b true) v6 h6) fun v7 h7 =>
 bnd (gD v7 false (some (x1,h7)) h7) fun v8 h8 =>
 bnd (gD v7 false (rec 102 [v8] h8) h8) fun v9 h9 =>
 bnd (aN v7 (.b true) v9 h9) fun v10 h10 =>
 bnd (gD v10 false (some (x0,h10)) h10) fun v11 h11 =>
 bnd (gD v10 false (some (x1,h11)) h11) fun v12 h12 =>
 bnd (gD v10 false (rec 98 [v11,v12] h12) h12) fun v13 h13 =>
 bnd (aN v10 (.b true) v13 h13) fun v14 h14 =>
 some (v14,h14)
def E20 (rec : FuncId → List DV → Hp → aH) (n : Nat) (c : Code) (X : Nat → K) (k : K) : K:=aW CF1 rec 24 n c X (bE CF1 Tryz.f58) k
theorem eZh (rec : FuncId → List DV → Hp → aH) (n : Nat) : E20 rec n (cf Tryz.f58) x0 (bE CF1 Tryz.f58) = (fun (env : aZ) (h : Hp)=>t20 rec n (env 0) (env 1) h) :=
 (by kernel_rfl)
theorem eOg (rec : FuncId → List DV → Hp → aH) (n : Nat) (args : List DV) (h : Hp) : aI CF1 rec n 58 args h = t20 rec n (args.getD 0 aT) (args.getD 1 aT) h :=
 (by kernel_rfl : aI CF1 rec n 58 args h = E20 rec n (cf Tryz.f58) x0 (bE CF1 Tryz.f58) (aQ args) h).trans ((congrFun (congrFun (eZh rec n) (aQ args)) h).trans (by kernel_rfl))
def t21 (rec : FuncId → List DV → Hp → aH) (n : Nat) (x0 x1 : DV) (h0 : Hp) : aH :=
 bnd (rec 172 [x1] h0) fun v1 h1 =>
 bnd (gD v1 true (some (x0,h1)) h1) fun v2 h2 =>
 bnd (gD v1 true (aV v2 h2) h2) fun v3 h3 =>
 bnd (gD v1 true (aB 3 v3 h3) h3) fun v4 h4 =>
 bnd (gD v1 true (aA v4 h4) h4) fun v5 h5 =>
 bnd (gD v1 true (some (x1,h5)) h5) fun v6 h6 =>
 bnd (gD v1 true (rec 100 [v6] h6) h6) fun v7 h7 =>
 cnd (aX (gD v1 true (aA v4 h7) h7) v5 && true) (
 bnd (gD v1 true (dV (.int .i64) (.b false) false v5 v7 h7) h7) fun v8 h8 =>
 bnd (aN v1 v8 (.b false) h8) fun v9 h9 =>
 some (v9,h9))
def E21 (rec : FuncId → List DV → Hp → aH) (n : Nat) (c : Code) (X : Nat → K) (k : K) : K:=aW CF1 rec 16 n c X (bE CF1 Tryz.f98) k
theorem eZd (rec : FuncId → List DV → Hp → aH) (n : Nat) : E21 rec n (cf Tryz.f98) x0 (bE CF1 Tryz.f98) = (fun (env : aZ) (h : Hp)=>t21 rec n (env 0) (env 1) h) :=
 (by kernel_rfl)
theorem eSu (rec : FuncId → List DV → Hp → aH) (n : Nat) (args : List DV) (h : Hp) : aI CF1 rec n 98 args h = t21 rec n (args.getD 0 aT) (args.getD 1 aT) h :=
 (by kernel_rfl : aI CF1 rec n 98 args h = E21 rec n (cf Tryz.f98) x0 (bE CF1 Tryz.f98) (aQ args) h).trans ((congrFun (congrFun (eZd rec n) (aQ args)) h).trans (by kernel_rfl))
def t22 (rec : FuncId → List DV → Hp → aH) (n : Nat) (x0 : DV) (h0 : Hp) : aH :=
 bnd (aV x0 h0) fun v1 h1 =>
 bnd (aB 0 v1 h1) fun v2 h2 =>
 bnd (aA v2 h2) fun v3 h3 =>
 bnd (bM v3 h3) fun v4 h4 =>
 some (v4,h4)
def E22 (rec : FuncId → List DV → Hp → aH) (n : Nat) (c : Code) (X : Nat → K) (k : K) : K:=aW CF1 rec 8 n c X (bE CF1 Tryz.f107) k
theorem eYr (rec : FuncId → List DV → Hp → aH) (n : Nat) : E22 rec n (cf Tryz.f107) x0 (bE CF1 Tryz.f107) = (fun (env : aZ) (h : Hp)=>t22 rec n (env 0) h) :=
 (by kernel_rfl)
theorem eIt (rec : FuncId → List DV → Hp → aH) (n : Nat) (args : List DV) (h : Hp) : aI CF1 rec n 107 args h = t22 rec n (args.getD 0 aT) h :=
 (by kernel_rfl : aI CF1 rec n 107 args h = E22 rec n (cf Tryz.f107) x0 (bE CF1 Tryz.f107) (aQ args) h).trans ((congrFun (congrFun (eYr rec n) (aQ args)) h).trans (by kernel_rfl))
def t29 (rec : FuncId → List DV → Hp → aH) (n : Nat) (x0 : DV) (h0 : Hp) : aH :=
 bnd (aV x0 h0) fun v1 h1 =>
 bnd (aB 0 v1 h1) fun v2 h2 =>
 bnd (aA v2 h2) fun v3 h3 =>
 bnd (bM v3 h3) fun v4 h4 =>
 bnd (aV x0 h4) fun v5 h5 =>
 bnd (aB 1 v5 h5) fun v6 h6 =>
 bnd (aA v6 h6) fun v7 h7 =>
 bnd (aC .sub v4 v7 h7) fun v8 h8 =>
 some (v8,h8)
def E29 (rec : FuncId → List DV → Hp → aH) (n : Nat) (c : Code) (X : Nat → K) (k : K) : K:=aW CF1 rec 13 n c X (bE CF1 Tryz.f42) k
theorem fAd (rec : FuncId → List DV → Hp → aH) (n : Nat) : E29 rec n (cf Tryz.f42) x0 (bE CF1 Tryz.f42) = (fun (env : aZ) (h : Hp)=>t29 rec n (env 0) h) :=
 (by kernel_rfl)
theorem eLg (rec : FuncId → List DV → Hp → aH) (n : Nat) (args : List DV) (h : Hp) : aI CF1 rec n 42 args h = t29 rec n (args.getD 0 aT) h :=
 (by kernel_rfl : aI CF1 rec n 42 args h = E29 rec n (cf Tryz.f42) x0 (bE CF1 Tryz.f42) (aQ args) h).trans ((congrFun (congrFun (fAd rec n) (aQ args)) h).trans (by kernel_rfl))
def t30 (rec : FuncId → List DV → Hp → aH) (n : Nat) (x0 x1 x2 x3 : DV) (h0 : Hp) : aH :=
 bnd (rec 52 [x0,x1] h0) fun v1 h1 =>
 bnd (eQ .not v1 h1) fun v2 h2 =>
 bnd (gD v2 false (some (x2,h2)) h2) fun v3 h3 =>
 bnd (gD v2 false (aC .lss v3 (.i .i64 (Int.ofNat 0)) h3) h3) fun v4 h4 =>
 bnd (aN v2 (.b true) v4 h4) fun v5 h5 =>
 bnd (gD v5 false (some (x2,h5)) h5) fun v6 h6 =>
 bnd (gD v5 false (aC .gtr v6 (.i .i64 (Int.ofNat 2)) h6) h6) fun v7 h7 =>
 bnd (aN v5 (.b true) v7 h7) fun v8 h8 =>
 bnd (gD v8 false (some (x3,h8)) h8) fun v9 h9 =>
 bnd (gD v8 false (aC .lss v9 (.i .i64 (Int.ofNat 0)) h9) h9) fun v10 h10 =>
 bnd (aN v8 (.b true) v10 h10) fun v11 h11 =>
 bnd (gD v11 false (some (x3,h11)) h11) fun v12 h12 =>
 bnd (gD v11 false (aC .gtr v12 (.i .i64 (Int.ofNat 256)) h12) h12) fun v13 h13 =>
 bnd (aN v11 (.b true) v13 h13) fun v14 h14 =>
 aR v14 (
  some (.t [(.i .i64 (Int.ofNat 0)),(.i .i64 (Int.ofNat 1))],h14)) (
  bnd (rec 42 [x0] h14) fun v15 h15 =>
  bnd (aC .add x3 (.i .i64 (Int.ofNat 3)) h15) fun v16 h16 =>
  bnd (aC .lss v15 v16 h16) fun v17 h17 =>
  bnd (gD v17 false (some (x0,h17)) h17) fun v18 h18 =>
  bnd (gD v17 false (aV v18 h18) h18) fun v19 h19 =>
  bnd (gD v17 false (aB 2 v19 h19) h19) fun v20 h20 =>
  bnd (gD v17 false (aA v20 h20) h20) fun v21 h21 =>
  bnd (gD v17 false (aC .geq v21 (.i .i64 (Int.ofNat 1099511627776)) h21) h21) fun v22 h22 =>
  bnd (aN v17 (.b true) v22 h22) fun v23 h23 =>
  aR v23 (
   some (.t [(.i .i64 (Int.ofNat 0)),(.i .i64 (Int.ofNat 4))],h23)) (
   bnd (aV x0 h23) fun v24 h24 =>
   bnd (aB 1 v24 h24) fun v25 h25 =>
   bnd (aA v25 h25) fun v26 h26 =>
   bnd (aV x0 h26) fun v27 h27 =>
   bnd (aB 2 v27 h27) fun v28 h28 =>
   bnd (aA v28 h28) fun v29 h29 =>
   bnd (aC .add v29 (.i .i64 (Int.ofNat 1)) h29) fun v30 h30 =>
   bnd (aV x0 h30) fun v31 h31 =>
   bnd (aB 2 v31 h31) fun v32 h32 =>
   bnd (aJ 1 v32 v30 h32) fun _ h33 =>
   bnd (aV x0 h33) fun v34 h34 =>
   bnd (aB 0 v34 h34) fun v35 h35 =>
   bnd (aA v35 h35) fun v36 h36 =>
   bnd (aV x0 h36) fun v37 h37 =>
   bnd (aB 0 v37 h37) fun v38 h38 =>
   bnd (aA v38 h38) fun v39 h39 =>
   bnd (aC .add v26 (.i .i64 (Int.ofNat 1)) h39) fun v40 h40 =>
   bnd (aV x0 h40) fun v41 h41 =>
   bnd (aB 0 v41 h41) fun v42 h42 =>
   bnd (aA v42 h42) fun v43 h43 =>
   bnd (aC .add v26 (.i .i64 (Int.ofNat 2)) h43) fun v44 h44 =>
   bnd (dA .shl x3 (.i .u64 (Int.ofNat 2)) h44) fun v45 h45 =>
   bnd (aC .or v45 x2 h45) fun v46 h46 =>
   bnd (aV x0 h46) fun v47 h47 =>
   bnd (aB 2 v47 h47) fun v48 h48 =>
   bnd (aA v48 h48) fun v49 h49 =>
   bnd (aG 1 v36 v26 h49) fun v50 h50 =>
   bnd (aJ 1 v50 v46 h50) fun v51 h51 =>
   bnd (aG 1 v39 v40 h51) fun v52 h52 =>
   bnd (aJ 1 v52 x1 h52) fun v53 h53 =>
   bnd (aG 1 v43 v44 h53) fun v54 h54 =>
   bnd (aJ 1 v54 v49 h54) fun v55 h55 =>
   bnd (aV x0 h55) fun v56 h56 =>
   bnd (aB 0 v56 h56) fun v57 h57 =>
   bnd (aA v57 h57) fun v58 h58 =>
   bnd (aC .add v26 (.i .i64 (Int.ofNat 3)) h58) fun v59 h59 =>
   bnd (aC .add v26 (.i .i64 (Int.ofNat 3)) h59) fun v60 h60 =>
   bnd (aC .add v60 x3 h60) fun v61 h61 =>
   bnd (eL 1 v58 (some v59) (some v61) h61) fun v62 h62 =>
   bnd (kY [(.i .i64 (Int.ofNat 0))] v62 h62) fun _ h63 =>
   bnd (aV x0 h63) fun v64 h64 =>
   bnd (aB 1 v64 h64) fun v65 h65 =>
   bnd (aA v65 h65) fun v66 h66 =>
   bnd (aC .add x3 (.i .i64 (Int.ofNat 3)) h66) fun v67 h67 =>
   bnd (aC .add v66 v67 h67) fun v68 h68 =>
   bnd (aV x0 h68) fun v69 h69 =>
   bnd (aB 1 v69 h69) fun v70 h70 =>
   bnd (aJ 1 v70 v68 h70) fun _ h71 =>
   bnd (aV x0 h71) fun v72 h72 =>
   bnd (aB 3 v72 h72) fun v73 h73 =>
   bnd (aA v73 h73) fun v74 h74 =>
   bnd (fW (.int .i64) v74 v26 (.b true) h74) fun _ h75 =>
   bnd (rec 53 [v26] h75) fun v76 h76 =>
   bnd (aF 0 v76 h76) fun v77 h77 =>
   bnd (aF 1 v76 h77) fun v78 h78 =>
   some (.t [v77,(.i .i64 (Int.ofNat 0))],h78)))
def E30 (rec : FuncId → List DV → Hp → aH) (n : Nat) (c : Code) (X : Nat → K) (k : K) : K:=aW CF1 rec 118 n c X (bE CF1 Tryz.f24) k
theorem eZu (rec : FuncId → List DV → Hp → aH) (n : Nat) : E30 rec n (cf Tryz.f24) x0 (bE CF1 Tryz.f24) = (fun (env : aZ) (h : Hp)=>t30 rec n (env 0) (env 1) (env 2) (env 3) h) :=
 (by kernel_rfl)
theorem ePe (rec : FuncId → List DV → Hp → aH) (n : Nat) (args : List DV) (h : Hp) : aI CF1 rec n 24 args h = t30 rec n (args.getD 0 aT) (args.getD 1 aT) (args.getD 2 aT) (args.getD 3 aT) h :=
 (by kernel_rfl : aI CF1 rec n 24 args h = E30 rec n (cf Tryz.f24) x0 (bE CF1 Tryz.f24) (aQ args) h).trans ((congrFun (congrFun (eZu rec n) (aQ args)) h).trans (by kernel_rfl))
def t41 (rec : FuncId → List DV → Hp → aH) (n : Nat) (x0 : DV) (h0 : Hp) : aH :=
 bnd (aC .lss x0 (.i .i64 (Int.ofNat 16)) h0) fun v1 h1 =>
 bnd (gD v1 false (some (x0,h1)) h1) fun v2 h2 =>
 bnd (gD v1 false (aC .gtr v2 (.i .i64 (Int.ofNat 131072)) h2) h2) fun v3 h3 =>
 bnd (aN v1 (.b true) v3 h3) fun v4 h4 =>
 aR v4 (
  some (.p0,h4)) (
  bnd (cI 1 8 [(.i .i64 (Int.ofNat 0))] x0 x0 h4) fun v5 h5 =>
  bnd (eE h5) fun v6 h6 =>
  bnd (aY [.l0,(.i .i64 (Int.ofNat 0)),(.i .i64 (Int.ofNat 0)),.m0] [(0,1,v5),(1,1,(.i .i64 (Int.ofNat 3))),(3,1,v6)] h6) fun v7 h7 =>
  bnd (bZ v7 h7) fun v8 h8 =>
  some (v8,h8))
def E41 (rec : FuncId → List DV → Hp → aH) (n : Nat) (c : Code) (X : Nat → K) (k : K) : K:=aW CF1 rec 14 n c X (bE CF1 Tryz.f23) k
theorem eWb (rec : FuncId → List DV → Hp → aH) (n : Nat) : E41 rec n (cf Tryz.f23) x0 (bE CF1 Tryz.f23) = (fun (env : aZ) (h : Hp)=>t41 rec n (env 0) h) :=
 (by kernel_rfl)
theorem dTa (rec : FuncId → List DV → Hp → aH) (n : Nat) (args : List DV) (h : Hp) : aI CF1 rec n 23 args h = t41 rec n (args.getD 0 aT) h :=
 (by kernel_rfl : aI CF1 rec n 23 args h = E41 rec n (cf Tryz.f23) x0 (bE CF1 Tryz.f23) (aQ args) h).trans ((congrFun (congrFun (eWb rec n) (aQ args)) h).trans (by kernel_rfl))
def t44 (rec : FuncId → List DV → Hp → aH) (n : Nat) (x0 x1 x2 : DV) (h0 : Hp) : aH :=
 bnd (rec 54 [x0,x1] h0) fun v1 h1 =>
 bnd (aC .eql v1 (.i .i64 (Int.ofNat 0)) h1) fun v2 h2 =>
 bnd (gD v2 false (some (x0,h2)) h2) fun v3 h3 =>
 bnd (gD v2 false (some (x2,h3)) h3) fun v4 h4 =>
 bnd (gD v2 false (rec 52 [v3,v4] h4) h4) fun v5 h5 =>
 bnd (gD v2 false (eQ .not v5 h5) h5) fun v6 h6 =>
 bnd (aN v2 (.b true) v6 h6) fun v7 h7 =>
 aR v7 (
  some ((.i .i64 (Int.ofNat 1)),h7)) (
  bnd (aV x0 h7) fun v8 h8 =>
  bnd (aB 0 v8 h8) fun v9 h9 =>
  bnd (aA v9 h9) fun v10 h10 =>
  bnd (aC .add v1 (.i .i64 (Int.ofNat 1)) h10) fun v11 h11 =>
  bnd (aG 1 v10 v11 h11) fun v12 h12 =>
  bnd (aJ 1 v12 x2 h12) fun _ h13 =>
  some ((.i .i64 (Int.ofNat 0)),h13))
def E44 (rec : FuncId → List DV → Hp → aH) (n : Nat) (c : Code) (X : Nat → K) (k : K) : K:=aW CF1 rec 27 n c X (bE CF1 Tryz.f27) k
theorem fAs (rec : FuncId → List DV → Hp → aH) (n : Nat) : E44 rec n (cf Tryz.f27) x0 (bE CF1 Tryz.f27) = (fun (env : aZ) (h : Hp)=>t44 rec n (env 0) (env 1) (env 2) h) :=
 (by kernel_rfl)
theorem eMo (rec : FuncId → List DV → Hp → aH) (n : Nat) (args : List DV) (h : Hp) : aI CF1 rec n 27 args h = t44 rec n (args.getD 0 aT) (args.getD 1 aT) (args.getD 2 aT) h :=
 (by kernel_rfl : aI CF1 rec n 27 args h = E44 rec n (cf Tryz.f27) x0 (bE CF1 Tryz.f27) (aQ args) h).trans ((congrFun (congrFun (fAs rec n) (aQ args)) h).trans (by kernel_rfl))
def vC (rec : FuncId → List DV → Hp → aH) (n : Nat) (x0 x3 x9 : DV) (h0 : Hp) : aH :=
 bnd (aV x0 h0) fun v1 h1 =>
 bnd (aB 0 v1 h1) fun v2 h2 =>
 bnd (aA v2 h2) fun v3 h3 =>
 bnd (aG 1 v3 x9 h3) fun v4 h4 =>
 bnd (aJ 1 v4 x3 h4) fun _ h5 =>
 some ((.i .i64 (Int.ofNat 0)),h5)
def bJq (rec : FuncId → List DV → Hp → aH) (n : Nat) (x0 x1 x3 x9 : DV) (h0 : Hp) : aH :=
 bnd (rec 62 [x0,x1] h0) fun v11 h11 =>
 bnd (aC .eql v11 (.i .i64 (Int.ofNat 0)) h11) fun v12 h12 =>
 aR v12 (
  bnd (rec 58 [x0,x3] h12) fun v13 h13 =>
  bnd (eQ .not v13 h13) fun v14 h14 =>
  aR v14 (
   some ((.i .i64 (Int.ofNat 6)),h14)) (
   vC rec n x0 x3 x9 h14)) (
  bnd (aC .eql v11 (.i .i64 (Int.ofNat 2)) h12) fun v15 h15 =>
  aR v15 (
   bnd (aC .lss x3 (.i .i64 (Int.ofNat 0)) h15) fun v16 h16 =>
   bnd (gD v16 false (some (x3,h16)) h16) fun v17 h17 =>
   bnd (gD v16 false (aC .gtr v17 (.i .i64 (Int.ofNat 255)) h17) h17) fun v18 h18 =>
   bnd (aN v16 (.b true) v18 h18) fun v19 h19 =>
   aR v19 (
    some ((.i .i64 (Int.ofNat 6)),h19)) (
    vC rec n x0 x3 x9 h19)) (
   vC rec n x0 x3 x9 h15))
def aSv (rec : FuncId → List DV → Hp → aH) (n : Nat) (x0 x1 x3 x9 x10 : DV) (h0 : Hp) : aH :=
 bnd (aC .neq x10 (.i .i64 (Int.ofNat 0)) h0) fun v29 h29 =>
 aR v29 (
  some (x10,h29)) (
  bJq rec n x0 x1 x3 x9 h29)
def bMj (rec : FuncId → List DV → Hp → aH) (n : Nat) (x0 x1 x2 x3 : DV) (h0 : Hp) : aH :=
 bnd (rec 61 [x0,x1,x2] h0) fun v31 h31 =>
 bnd (aF 0 v31 h31) fun v32 h32 =>
 bnd (aF 1 v31 h32) fun v33 h33 =>
 aSv rec n x0 x1 x3 v32 v33 h33
def t47 (rec : FuncId → List DV → Hp → aH) (n : Nat) (x0 x1 x2 x3 : DV) (h0 : Hp) : aH :=
 bMj rec n x0 x1 x2 x3 h0
def E47 (rec : FuncId → List DV → Hp → aH) (n : Nat) (c : Code) (X : Nat → K) (k : K) : K:=aW CF1 rec 45 n c X (bE CF1 Tryz.f31) k
theorem eAp (rec : FuncId → List DV → Hp → aH) (n : Nat) : E47 rec n (cR (cR (cR (cR (cf Tryz.f31))))) x0 (bE CF1 Tryz.f31) = (fun (env : aZ) (h : Hp)=>vC rec n (env 0) (env 3) (env 9) h) :=
 (by kernel_rfl)
theorem dLh (rec : FuncId → List DV → Hp → aH) (n : Nat) : E47 rec n (cR (cR (cR (cf Tryz.f31)))) x0 (bE CF1 Tryz.f31) = E47 rec n (cL (cR (cR (cR (cf Tryz.f31))))) x0 (fun (env : aZ) (h : Hp)=>vC rec n (env 0) (env 3) (env 9) h) :=
 congrArg (fun k=>E47 rec n (cL (cR (cR (cR (cf Tryz.f31))))) x0 k) (eAp rec n)
theorem dVk (rec : FuncId → List DV → Hp → aH) (n : Nat) : E47 rec n (cR (cR (cR (cf Tryz.f31)))) x0 (bE CF1 Tryz.f31) = (fun (env : aZ) (h : Hp)=>bJq rec n (env 0) (env 1) (env 3) (env 9) h) :=
 (dLh rec n).trans
 ((by kernel_rfl))
theorem cZw (rec : FuncId → List DV → Hp → aH) (n : Nat) : E47 rec n (cR (cR (cf Tryz.f31))) x0 (bE CF1 Tryz.f31) = E47 rec n (cL (cR (cR (cf Tryz.f31)))) x0 (fun (env : aZ) (h : Hp)=>bJq rec n (env 0) (env 1) (env 3) (env 9) h) :=
 congrArg (fun k=>E47 rec n (cL (cR (cR (cf Tryz.f31)))) x0 k) (dVk rec n)
theorem eBm (rec : FuncId → List DV → Hp → aH) (n : Nat) : E47 rec n (cR (cR (cf Tryz.f31))) x0 (bE CF1 Tryz.f31) = (fun (env : aZ) (h : Hp)=>aSv rec n (env 0) (env 1) (env 3) (env 9) (env 10) h) :=
 (cZw rec n).trans
 ((by kernel_rfl))
theorem dIc (rec : FuncId → List DV → Hp → aH) (n : Nat) : E47 rec n (cR (cf Tryz.f31)) x0 (bE CF1 Tryz.f31) = E47 rec n (cL (cR (cf Tryz.f31))) x0 (fun (env : aZ) (h : Hp)=>aSv rec n (env 0) (env 1) (env 3) (env 9) (env 10) h) :=
 congrArg (fun k=>E47 rec n (cL (cR (cf Tryz.f31))) x0 k) (eBm rec n)
theorem eEc (rec : FuncId → List DV → Hp → aH) (n : Nat) : E47 rec n (cR (cf Tryz.f31)) x0 (bE CF1 Tryz.f31) = (fun (env : aZ) (h : Hp)=>bMj rec n (env 0) (env 1) (env 2) (env 3) h) :=
 (dIc rec n).trans
 ((by kernel_rfl))
theorem eNm (rec : FuncId → List DV → Hp → aH) (n : Nat) : E47 rec n (cf Tryz.f31) x0 (bE CF1 Tryz.f31) = E47 rec n (cL (cf Tryz.f31)) x0 (fun (env : aZ) (h : Hp)=>bMj rec n (env 0) (env 1) (env 2) (env 3) h) :=
 congrArg (fun k=>E47 rec n (cL (cf Tryz.f31)) x0 k) (eEc rec n)
theorem eZn (rec : FuncId → List DV → Hp → aH) (n : Nat) : E47 rec n (cf Tryz.f31) x0 (bE CF1 Tryz.f31) = (fun (env : aZ) (h : Hp)=>t47 rec n (env 0) (env 1) (env 2) (env 3) h) :=
 (eNm rec n).trans
 ((by kernel_rfl))
theorem eIe (rec : FuncId → List DV → Hp → aH) (n : Nat) (args : List DV) (h : Hp) : aI CF1 rec n 31 args h = t47 rec n (args.getD 0 aT) (args.getD 1 aT) (args.getD 2 aT) (args.getD 3 aT) h :=
 (by kernel_rfl : aI CF1 rec n 31 args h = E47 rec n (cf Tryz.f31) x0 (bE CF1 Tryz.f31) (aQ args) h).trans ((congrFun (congrFun (eZn rec n) (aQ args)) h).trans (by kernel_rfl))
def t50 (rec : FuncId → List DV → Hp → aH) (n : Nat) (x0 x1 : DV) (h0 : Hp) : aH :=
 bnd (aV x0 h0) fun v1 h1 =>
 bnd (aB 0 v1 h1) fun v2 h2 =>
 bnd (aA v2 h2) fun v3 h3 =>
 bnd (rec 54 [x0,x1] h3) fun v4 h4 =>
 cnd (aX (aA v2 h4) v3 && true) (
 bnd (aC .add v4 (.i .i64 (Int.ofNat 1)) h4) fun v5 h5 =>
 bnd (aG 1 v3 v5 h5) fun v6 h6 =>
 bnd (aA v6 h6) fun v7 h7 =>
 some (v7,h7))
def E50 (rec : FuncId → List DV → Hp → aH) (n : Nat) (c : Code) (X : Nat → K) (k : K) : K:=aW CF1 rec 15 n c X (bE CF1 Tryz.f141) k
theorem eYy (rec : FuncId → List DV → Hp → aH) (n : Nat) : E50 rec n (cf Tryz.f141) x0 (bE CF1 Tryz.f141) = (fun (env : aZ) (h : Hp)=>t50 rec n (env 0) (env 1) h) :=
 (by kernel_rfl)
theorem eKz (rec : FuncId → List DV → Hp → aH) (n : Nat) (args : List DV) (h : Hp) : aI CF1 rec n 141 args h = t50 rec n (args.getD 0 aT) (args.getD 1 aT) h :=
 (by kernel_rfl : aI CF1 rec n 141 args h = E50 rec n (cf Tryz.f141) x0 (bE CF1 Tryz.f141) (aQ args) h).trans ((congrFun (congrFun (eYy rec n) (aQ args)) h).trans (by kernel_rfl))
def t51 (rec : FuncId → List DV → Hp → aH) (n : Nat) (x0 x1 : DV) (h0 : Hp) : aH :=
 bnd (aV x0 h0) fun v1 h1 =>
 bnd (aB 0 v1 h1) fun v2 h2 =>
 bnd (aA v2 h2) fun v3 h3 =>
 bnd (rec 54 [x0,x1] h3) fun v4 h4 =>
 cnd (aX (aA v2 h4) v3 && true) (
 bnd (aG 1 v3 v4 h4) fun v5 h5 =>
 bnd (aA v5 h5) fun v6 h6 =>
 bnd (aC .and v6 (.i .i64 (Int.ofNat 3)) h6) fun v7 h7 =>
 some (v7,h7))
def E51 (rec : FuncId → List DV → Hp → aH) (n : Nat) (c : Code) (X : Nat → K) (k : K) : K:=aW CF1 rec 15 n c X (bE CF1 Tryz.f62) k
theorem eZx (rec : FuncId → List DV → Hp → aH) (n : Nat) : E51 rec n (cf Tryz.f62) x0 (bE CF1 Tryz.f62) = (fun (env : aZ) (h : Hp)=>t51 rec n (env 0) (env 1) h) :=
 (by kernel_rfl)
theorem eLb (rec : FuncId → List DV → Hp → aH) (n : Nat) (args : List DV) (h : Hp) : aI CF1 rec n 62 args h = t51 rec n (args.getD 0 aT) (args.getD 1 aT) h :=
 (by kernel_rfl : aI CF1 rec n 62 args h = E51 rec n (cf Tryz.f62) x0 (bE CF1 Tryz.f62) (aQ args) h).trans ((congrFun (congrFun (eZx rec n) (aQ args)) h).trans (by kernel_rfl))
def t52 (rec : FuncId → List DV → Hp → aH) (n : Nat) (x0 x1 : DV) (h0 : Hp) : aH :=
 bnd (aV x0 h0) fun v1 h1 =>
 bnd (aB 0 v1 h1) fun v2 h2 =>
 bnd (aA v2 h2) fun v3 h3 =>
 bnd (rec 54 [x0,x1] h3) fun v4 h4 =>
 cnd (aX (aA v2 h4) v3 && true) (
 bnd (aG 1 v3 v4 h4) fun v5 h5 =>
 bnd (aA v5 h5) fun v6 h6 =>
 bnd (dA .shr v6 (.i .u64 (Int.ofNat 2)) h6) fun v7 h7 =>
 some (v7,h7))
def E52 (rec : FuncId → List DV → Hp → aH) (n : Nat) (c : Code) (X : Nat → K) (k : K) : K:=aW CF1 rec 15 n c X (bE CF1 Tryz.f103) k
theorem eWz (rec : FuncId → List DV → Hp → aH) (n : Nat) : E52 rec n (cf Tryz.f103) x0 (bE CF1 Tryz.f103) = (fun (env : aZ) (h : Hp)=>t52 rec n (env 0) (env 1) h) :=
 (by kernel_rfl)
theorem eOe (rec : FuncId → List DV → Hp → aH) (n : Nat) (args : List DV) (h : Hp) : aI CF1 rec n 103 args h = t52 rec n (args.getD 0 aT) (args.getD 1 aT) h :=
 (by kernel_rfl : aI CF1 rec n 103 args h = E52 rec n (cf Tryz.f103) x0 (bE CF1 Tryz.f103) (aQ args) h).trans ((congrFun (congrFun (eWz rec n) (aQ args)) h).trans (by kernel_rfl))
def t54 (rec : FuncId → List DV → Hp → aH) (n : Nat) (x0 : DV) (h0 : Hp) : aH :=
 bnd (aC .and x0 (.i .i64 (Int.ofNat 1)) h0) fun v1 h1 =>
 bnd (aC .eql v1 (.i .i64 (Int.ofNat 1)) h1) fun v2 h2 =>
 bnd (gD v2 true (some (x0,h2)) h2) fun v3 h3 =>
 bnd (gD v2 true (dA .shr v3 (.i .u64 (Int.ofNat 1)) h3) h3) fun v4 h4 =>
 bnd (gD v2 true (rec 99 [v4,(.i .i64 (Int.negSucc 1073741823)),(.i .i64 (Int.ofNat 1073741823))] h4) h4) fun v5 h5 =>
 bnd (aN v2 v5 (.b false) h5) fun v6 h6 =>
 some (v6,h6)
def E54 (rec : FuncId → List DV → Hp → aH) (n : Nat) (c : Code) (X : Nat → K) (k : K) : K:=aW CF1 rec 11 n c X (bE CF1 Tryz.f102) k
theorem eWx (rec : FuncId → List DV → Hp → aH) (n : Nat) : E54 rec n (cf Tryz.f102) x0 (bE CF1 Tryz.f102) = (fun (env : aZ) (h : Hp)=>t54 rec n (env 0) h) :=
 (by kernel_rfl)
theorem eSp (rec : FuncId → List DV → Hp → aH) (n : Nat) (args : List DV) (h : Hp) : aI CF1 rec n 102 args h = t54 rec n (args.getD 0 aT) h :=
 (by kernel_rfl : aI CF1 rec n 102 args h = E54 rec n (cf Tryz.f102) x0 (bE CF1 Tryz.f102) (aQ args) h).trans ((congrFun (congrFun (eWx rec n) (aQ args)) h).trans (by kernel_rfl))
def t60 (rec : FuncId → List DV → Hp → aH) (n : Nat) (x0 : DV) (h0 : Hp) : aH :=
 bnd (rec 99 [x0,(.i .i64 (Int.negSucc 1073741823)),(.i .i64 (Int.ofNat 1073741823))] h0) fun v1 h1 =>
 bnd (eQ .not v1 h1) fun v2 h2 =>
 aR v2 (
  some (.t [(.i .i64 (Int.ofNat 0)),(.b false)],h2)) (
  bnd (dA .shl x0 (.i .u64 (Int.ofNat 1)) h2) fun v3 h3 =>
  bnd (aC .or v3 (.i .i64 (Int.ofNat 1)) h3) fun v4 h4 =>
  some (.t [v4,(.b true)],h4))
def E60 (rec : FuncId → List DV → Hp → aH) (n : Nat) (c : Code) (X : Nat → K) (k : K) : K:=aW CF1 rec 10 n c X (bE CF1 Tryz.f60) k
theorem eXn (rec : FuncId → List DV → Hp → aH) (n : Nat) : E60 rec n (cf Tryz.f60) x0 (bE CF1 Tryz.f60) = (fun (env : aZ) (h : Hp)=>t60 rec n (env 0) h) :=
 (by kernel_rfl)
theorem eSr (rec : FuncId → List DV → Hp → aH) (n : Nat) (args : List DV) (h : Hp) : aI CF1 rec n 60 args h = t60 rec n (args.getD 0 aT) h :=
 (by kernel_rfl : aI CF1 rec n 60 args h = E60 rec n (cf Tryz.f60) x0 (bE CF1 Tryz.f60) (aQ args) h).trans ((congrFun (congrFun (eXn rec n) (aQ args)) h).trans (by kernel_rfl))
def t62 (rec : FuncId → List DV → Hp → aH) (n : Nat) (x0 : DV) (h0 : Hp) : aH :=
 bnd (rec 102 [x0] h0) fun v1 h1 =>
 bnd (eQ .not v1 h1) fun v2 h2 =>
 aR v2 (
  some ((.i .i64 (Int.ofNat 0)),h2)) (
  bnd (dA .shr x0 (.i .u64 (Int.ofNat 1)) h2) fun v3 h3 =>
  some (v3,h3))
def E62 (rec : FuncId → List DV → Hp → aH) (n : Nat) (c : Code) (X : Nat → K) (k : K) : K:=aW CF1 rec 8 n c X (bE CF1 Tryz.f143) k
theorem eXk (rec : FuncId → List DV → Hp → aH) (n : Nat) : E62 rec n (cf Tryz.f143) x0 (bE CF1 Tryz.f143) = (fun (env : aZ) (h : Hp)=>t62 rec n (env 0) h) :=
 (by kernel_rfl)
theorem eIv (rec : FuncId → List DV → Hp → aH) (n : Nat) (args : List DV) (h : Hp) : aI CF1 rec n 143 args h = t62 rec n (args.getD 0 aT) h :=
 (by kernel_rfl : aI CF1 rec n 143 args h = E62 rec n (cf Tryz.f143) x0 (bE CF1 Tryz.f143) (aQ args) h).trans ((congrFun (congrFun (eXk rec n) (aQ args)) h).trans (by kernel_rfl))
def t63 (rec : FuncId → List DV → Hp → aH) (n : Nat) (x0 : DV) (h0 : Hp) : aH :=
 bnd (aC .and x0 (.i .i64 (Int.ofNat 1)) h0) fun v1 h1 =>
 bnd (aC .eql v1 (.i .i64 (Int.ofNat 0)) h1) fun v2 h2 =>
 bnd (gD v2 true (some (x0,h2)) h2) fun v3 h3 =>
 bnd (gD v2 true (dA .shr v3 (.i .u64 (Int.ofNat 1)) h3) h3) fun v4 h4 =>
 bnd (gD v2 true (rec 99 [v4,(.i .i64 (Int.ofNat 3)),(.i .i64 (Int.ofNat 131072))] h4) h4) fun v5 h5 =>
 bnd (aN v2 v5 (.b false) h5) fun v6 h6 =>
 some (v6,h6)
def E63 (rec : FuncId → List DV → Hp → aH) (n : Nat) (c : Code) (X : Nat → K) (k : K) : K:=aW CF1 rec 11 n c X (bE CF1 Tryz.f172) k
theorem eWr (rec : FuncId → List DV → Hp → aH) (n : Nat) : E63 rec n (cf Tryz.f172) x0 (bE CF1 Tryz.f172) = (fun (env : aZ) (h : Hp)=>t63 rec n (env 0) h) :=
 (by kernel_rfl)
theorem eMf (rec : FuncId → List DV → Hp → aH) (n : Nat) (args : List DV) (h : Hp) : aI CF1 rec n 172 args h = t63 rec n (args.getD 0 aT) h :=
 (by kernel_rfl : aI CF1 rec n 172 args h = E63 rec n (cf Tryz.f172) x0 (bE CF1 Tryz.f172) (aQ args) h).trans ((congrFun (congrFun (eWr rec n) (aQ args)) h).trans (by kernel_rfl))
def t64 (rec : FuncId → List DV → Hp → aH) (n : Nat) (x0 : DV) (h0 : Hp) : aH :=
 bnd (rec 172 [x0] h0) fun v1 h1 =>
 bnd (eQ .not v1 h1) fun v2 h2 =>
 aR v2 (
  some ((.i .i64 (Int.ofNat 0)),h2)) (
  bnd (dA .shr x0 (.i .u64 (Int.ofNat 1)) h2) fun v3 h3 =>
  some (v3,h3))
def E64 (rec : FuncId → List DV → Hp → aH) (n : Nat) (c : Code) (X : Nat → K) (k : K) : K:=aW CF1 rec 8 n c X (bE CF1 Tryz.f100) k
theorem eWs (rec : FuncId → List DV → Hp → aH) (n : Nat) : E64 rec n (cf Tryz.f100) x0 (bE CF1 Tryz.f100) = (fun (env : aZ) (h : Hp)=>t64 rec n (env 0) h) :=
 (by kernel_rfl)
theorem eOy (rec : FuncId → List DV → Hp → aH) (n : Nat) (args : List DV) (h : Hp) : aI CF1 rec n 100 args h = t64 rec n (args.getD 0 aT) h :=
 (by kernel_rfl : aI CF1 rec n 100 args h = E64 rec n (cf Tryz.f100) x0 (bE CF1 Tryz.f100) (aQ args) h).trans ((congrFun (congrFun (eWs rec n) (aQ args)) h).trans (by kernel_rfl))
def t73 (rec : FuncId → List DV → Hp → aH) (n : Nat) (x0 x1 x2 : DV) (h0 : Hp) : aH :=
 bnd (rec 61 [x0,x1,x2] h0) fun v1 h1 =>
 bnd (aF 0 v1 h1) fun v2 h2 =>
 bnd (aF 1 v1 h2) fun v3 h3 =>
 bnd (aC .neq v3 (.i .i64 (Int.ofNat 0)) h3) fun v4 h4 =>
 aR v4 (
  some (.t [(.i .i64 (Int.ofNat 0)),v3],h4)) (
  bnd (aV x0 h4) fun v5 h5 =>
  bnd (aB 0 v5 h5) fun v6 h6 =>
  bnd (aA v6 h6) fun v7 h7 =>
  bnd (aG 1 v7 v2 h7) fun v8 h8 =>
  bnd (aA v8 h8) fun v9 h9 =>
  some (.t [v9,(.i .i64 (Int.ofNat 0))],h9))
def E73 (rec : FuncId → List DV → Hp → aH) (n : Nat) (c : Code) (X : Nat → K) (k : K) : K:=aW CF1 rec 27 n c X (bE CF1 Tryz.f180) k
theorem eWf (rec : FuncId → List DV → Hp → aH) (n : Nat) : E73 rec n (cf Tryz.f180) x0 (bE CF1 Tryz.f180) = (fun (env : aZ) (h : Hp)=>t73 rec n (env 0) (env 1) (env 2) h) :=
 (by kernel_rfl)
theorem dSw (rec : FuncId → List DV → Hp → aH) (n : Nat) (args : List DV) (h : Hp) : aI CF1 rec n 180 args h = t73 rec n (args.getD 0 aT) (args.getD 1 aT) (args.getD 2 aT) h :=
 (by kernel_rfl : aI CF1 rec n 180 args h = E73 rec n (cf Tryz.f180) x0 (bE CF1 Tryz.f180) (aQ args) h).trans ((congrFun (congrFun (eWf rec n) (aQ args)) h).trans (by kernel_rfl))
def t74 (rec : FuncId → List DV → Hp → aH) (n : Nat) (x0 x1 : DV) (h0 : Hp) : aH :=
 bnd (aC .eql x1 (.i .i64 (Int.ofNat 0)) h0) fun v1 h1 =>
 bnd (gD v1 false (some (x0,h1)) h1) fun v2 h2 =>
 bnd (gD v1 false (some (x1,h2)) h2) fun v3 h3 =>
 bnd (gD v1 false (rec 98 [v2,v3] h3) h3) fun v4 h4 =>
 bnd (aN v1 (.b true) v4 h4) fun v5 h5 =>
 some (v5,h5)
def E74 (rec : FuncId → List DV → Hp → aH) (n : Nat) (c : Code) (X : Nat → K) (k : K) : K:=aW CF1 rec 12 n c X (bE CF1 Tryz.f52) k
theorem eYs (rec : FuncId → List DV → Hp → aH) (n : Nat) : E74 rec n (cf Tryz.f52) x0 (bE CF1 Tryz.f52) = (fun (env : aZ) (h : Hp)=>t74 rec n (env 0) (env 1) h) :=
 (by kernel_rfl)
theorem eUz (rec : FuncId → List DV → Hp → aH) (n : Nat) (args : List DV) (h : Hp) : aI CF1 rec n 52 args h = t74 rec n (args.getD 0 aT) (args.getD 1 aT) h :=
 (by kernel_rfl : aI CF1 rec n 52 args h = E74 rec n (cf Tryz.f52) x0 (bE CF1 Tryz.f52) (aQ args) h).trans ((congrFun (congrFun (eYs rec n) (aQ args)) h).trans (by kernel_rfl))
def t75 (rec : FuncId → List DV → Hp → aH) (n : Nat) (x0 : DV) (h0 : Hp) : aH :=
 bnd (rec 99 [x0,(.i .i64 (Int.ofNat 3)),(.i .i64 (Int.ofNat 131072))] h0) fun v1 h1 =>
 bnd (eQ .not v1 h1) fun v2 h2 =>
 aR v2 (
  some (.t [(.i .i64 (Int.ofNat 0)),(.b false)],h2)) (
  bnd (dA .shl x0 (.i .u64 (Int.ofNat 1)) h2) fun v3 h3 =>
  some (.t [v3,(.b true)],h3))
def E75 (rec : FuncId → List DV → Hp → aH) (n : Nat) (c : Code) (X : Nat → K) (k : K) : K:=aW CF1 rec 9 n c X (bE CF1 Tryz.f53) k
theorem eWg (rec : FuncId → List DV → Hp → aH) (n : Nat) : E75 rec n (cf Tryz.f53) x0 (bE CF1 Tryz.f53) = (fun (env : aZ) (h : Hp)=>t75 rec n (env 0) h) :=
 (by kernel_rfl)
theorem eSt (rec : FuncId → List DV → Hp → aH) (n : Nat) (args : List DV) (h : Hp) : aI CF1 rec n 53 args h = t75 rec n (args.getD 0 aT) h :=
 (by kernel_rfl : aI CF1 rec n 53 args h = E75 rec n (cf Tryz.f53) x0 (bE CF1 Tryz.f53) (aQ args) h).trans ((congrFun (congrFun (eWg rec n) (aQ args)) h).trans (by kernel_rfl))
def t105 (rec : FuncId → List DV → Hp → aH) (n : Nat) (x0 x1 : DV) (h0 : Hp) : aH :=
 bnd (rec 98 [x0,x1] h0) fun v1 h1 =>
 bnd (eQ .not v1 h1) fun v2 h2 =>
 aR v2 (
  some ((.i .i64 (Int.ofNat 0)),h2)) (
  bnd (rec 100 [x1] h2) fun v3 h3 =>
  some (v3,h3))
def eKq (rec : FuncId → List DV → Hp → aH) (n : Nat) (c : Code) (X : Nat → K) (k : K) : K:=aW CF1 rec 11 n c X (bE CF1 Tryz.f54) k
theorem eLz (rec : FuncId → List DV → Hp → aH) (n : Nat) : eKq rec n (cf Tryz.f54) x0 (bE CF1 Tryz.f54) = (fun (env : aZ) (h : Hp)=>t105 rec n (env 0) (env 1) h) :=
 (by kernel_rfl)
theorem eAv (rec : FuncId → List DV → Hp → aH) (n : Nat) (args : List DV) (h : Hp) : aI CF1 rec n 54 args h = t105 rec n (args.getD 0 aT) (args.getD 1 aT) h :=
 (by kernel_rfl : aI CF1 rec n 54 args h = eKq rec n (cf Tryz.f54) x0 (bE CF1 Tryz.f54) (aQ args) h).trans ((congrFun (congrFun (eLz rec n) (aQ args)) h).trans (by kernel_rfl))
def bUp (rec : FuncId → List DV → Hp → aH) (n : Nat) (x0 x1 x2 : DV) (h0 : Hp) : aH :=
 bnd (rec 54 [x0,x1] h0) fun v1 h1 =>
 bnd (aC .eql v1 (.i .i64 (Int.ofNat 0)) h1) fun v2 h2 =>
 aR v2 (
  some (.t [(.i .i64 (Int.ofNat 0)),(.i .i64 (Int.ofNat 1))],h2)) (
  bnd (aC .lss x2 (.i .i64 (Int.ofNat 0)) h2) fun v3 h3 =>
  bnd (gD v3 false (some (x2,h3)) h3) fun v4 h4 =>
  bnd (gD v3 false (some (x0,h4)) h4) fun v5 h5 =>
  bnd (gD v3 false (some (x1,h5)) h5) fun v6 h6 =>
  bnd (gD v3 false (rec 103 [v5,v6] h6) h6) fun v7 h7 =>
  bnd (gD v3 false (aC .geq v4 v7 h7) h7) fun v8 h8 =>
  bnd (aN v3 (.b true) v8 h8) fun v9 h9 =>
  aR v9 (
   some (.t [(.i .i64 (Int.ofNat 0)),(.i .i64 (Int.ofNat 5))],h9)) (
   bnd (aC .add v1 (.i .i64 (Int.ofNat 3)) h9) fun v10 h10 =>
   bnd (aC .add v10 x2 h10) fun v11 h11 =>
   some (.t [v11,(.i .i64 (Int.ofNat 0))],h11)))
def ePg (rec : FuncId → List DV → Hp → aH) (n : Nat) (c : Code) (X : Nat → K) (k : K) : K:=aW CF1 rec 29 n c X (bE CF1 Tryz.f61) k
theorem eSb (rec : FuncId → List DV → Hp → aH) (n : Nat) : ePg rec n (cf Tryz.f61) x0 (bE CF1 Tryz.f61) = (fun (env : aZ) (h : Hp)=>bUp rec n (env 0) (env 1) (env 2) h) :=
 (by kernel_rfl)
theorem aJv (rec : FuncId → List DV → Hp → aH) (n : Nat) (args : List DV) (h : Hp) : aI CF1 rec n 61 args h = bUp rec n (args.getD 0 aT) (args.getD 1 aT) (args.getD 2 aT) h :=
 (by kernel_rfl : aI CF1 rec n 61 args h = ePg rec n (cf Tryz.f61) x0 (bE CF1 Tryz.f61) (aQ args) h).trans ((congrFun (congrFun (eSb rec n) (aQ args)) h).trans (by kernel_rfl))
def eAa (rec : FuncId → List DV → Hp → aH) (n : Nat) (x0 x1 x2 : DV) (h0 : Hp) : aH :=
 bnd (aC .geq x0 x1 h0) fun v1 h1 =>
 bnd (gD v1 true (some (x0,h1)) h1) fun v2 h2 =>
 bnd (gD v1 true (some (x2,h2)) h2) fun v3 h3 =>
 bnd (gD v1 true (aC .leq v2 v3 h3) h3) fun v4 h4 =>
 bnd (aN v1 v4 (.b false) h4) fun v5 h5 =>
 some (v5,h5)
def eUs (rec : FuncId → List DV → Hp → aH) (n : Nat) (c : Code) (X : Nat → K) (k : K) : K:=aW CF1 rec 15 n c X (bE CF1 Tryz.f99) k
theorem eSg (rec : FuncId → List DV → Hp → aH) (n : Nat) : eUs rec n (cf Tryz.f99) x0 (bE CF1 Tryz.f99) = (fun (env : aZ) (h : Hp)=>eAa rec n (env 0) (env 1) (env 2) h) :=
 (by kernel_rfl)
theorem dUa (rec : FuncId → List DV → Hp → aH) (n : Nat) (args : List DV) (h : Hp) : aI CF1 rec n 99 args h = eAa rec n (args.getD 0 aT) (args.getD 1 aT) (args.getD 2 aT) h :=
 (by kernel_rfl : aI CF1 rec n 99 args h = eUs rec n (cf Tryz.f99) x0 (bE CF1 Tryz.f99) (aQ args) h).trans ((congrFun (congrFun (eSg rec n) (aQ args)) h).trans (by kernel_rfl))
end Go.Dd

namespace Go.Dd
theorem sA {a b : Nat} : Nat.beq a b = decide (a = b):=by
 cases h : Nat.beq a b with
 | true=>simp [Nat.eq_of_beq_eq_true h]
 | false =>
  have : a ≠ b:=by intro e; subst e; simp at h
  simp [this]
theorem aYx {a b : Nat} : Nat.ble a b = decide (a ≤ b):=by
 cases h : Nat.ble a b with
 | true=>simp [Nat.le_of_ble_eq_true h]
 | false =>
  have : ¬ a ≤ b:=by intro e; rw [Nat.ble_eq_true_of_le e] at h; cases h
  simp [this]
theorem aDg {a b : Nat} : Nat.blt a b = decide (a < b):=by
 show Nat.ble (a + 1) b = _
 rw [aYx]
 simp [Nat.succ_le_iff]
theorem aTd (w : Int) : (kK w ≠ 0 ↔ (w % 2 = 0 ∧ 3 ≤ w / 2 ∧ w / 2 ≤ 131072)) ∧ (kK w ≠ 0 → (kK w : Int) = w / 2) ∧ kK w ≤ 131072:=by
 cases w with
 | ofNat w =>
  simp only [kK,sA,aYx]
  have e1 : Nat.mod w 2 = w % 2:=rfl
  have e2 : Nat.div w 2 = w / 2:=rfl
  rw [e1,e2]
  by_cases hc : w % 2 = 0 ∧ 6 ≤ w ∧ w ≤ 262144
  ·obtain ⟨h1,h2,h3⟩:=hc
   simp only [h1,h2,h3,decide_true,Bool.and_self,cond_true]
   simp only [Int.ofNat_eq_natCast]
   refine ⟨⟨fun _=>⟨by omega,by omega,by omega⟩,fun _=>by omega⟩,fun _=>by omega,by omega⟩
  ·have : (decide (w % 2 = 0) && (decide (6 ≤ w) && decide (w ≤ 262144))) = false:=by
    rw [← Bool.not_eq_true]
    simpa using hc
   rw [this]
   simp only [cond_false,Int.ofNat_eq_natCast]
   refine ⟨⟨fun h=>absurd rfl h,fun h=>by omega⟩,fun h=>absurd rfl h,by omega⟩
 | negSucc w =>
  simp only [kK]
  refine ⟨⟨fun h=>absurd rfl h,fun h=>by omega⟩,fun h=>absurd rfl h,by omega⟩
theorem bBq (w : Int) : hU w = decide (w % 2 = 1 ∧ -1073741824 ≤ w / 2 ∧ w / 2 ≤ 1073741823):=by
 rw [Bool.eq_iff_iff,decide_eq_true_iff]
 cases w with
 | ofNat w =>
  simp only [hU,sA,aDg,Bool.and_eq_true,decide_eq_true_eq]
  have e1 : Nat.mod w 2 = w % 2:=rfl
  rw [e1]
  simp only [Int.ofNat_eq_natCast]
  omega
 | negSucc w =>
  simp only [hU,sA,aDg,Bool.and_eq_true,decide_eq_true_eq]
  have e1 : Nat.mod w 2 = w % 2:=rfl
  rw [e1]
  omega
theorem bVr (w : Int) : cTq w = w / 2:=by
 cases w with
 | ofNat w=>show Int.ofNat (w / 2) = _; simp
 | negSucc w=>show Int.negSucc (w / 2) = _; omega
theorem kD (a : Int) (h : -9223372036854775808 ≤ a ∧ a ≤ 9223372036854775807) : IntKind.i64.wrap a = a:=by
 simp [IntKind.wrap,IntKind.signed,IntKind.bits,Int.bmod]
 omega
theorem hY (a : Int) : (BitVec.ofInt 64 a).toNat = (a % 18446744073709551616).toNat:=by
 rw [BitVec.toNat_ofInt]
 rfl
theorem fAf (w : Int) : IntKind.i64.wrap (((BitVec.ofInt 64 w &&& BitVec.ofInt 64 1).toNat : Nat) : Int) = w % 2:=by
 rw [BitVec.toNat_and,hY,hY]
 rw [show ((1 : Int) % 18446744073709551616).toNat = 1 from rfl,Nat.and_one_is_mod]
 rw [kD _ (by omega)]
 omega
theorem fAp (w : Int) : IntKind.i64.wrap (((BitVec.ofInt 64 w &&& BitVec.ofInt 64 3).toNat : Nat) : Int) = w % 4:=by
 rw [BitVec.toNat_and,hY,hY]
 rw [show ((3 : Int) % 18446744073709551616).toNat = 2 ^ 2 - 1 from rfl,Nat.and_two_pow_sub_one_eq_mod]
 rw [kD _ (by omega)]
 omega
theorem dVe (a : Nat) (k b : Nat) (hb : b < 2 ^ k) (hs : a * 2 ^ k + b < 9223372036854775808) : IntKind.i64.wrap (((BitVec.ofInt 64 ((a * 2 ^ k : Nat) : Int) ||| BitVec.ofInt 64 (b : Int)).toNat : Nat) : Int) = ((a * 2 ^ k + b : Nat) : Int):=by
 have h1 : (BitVec.ofInt 64 ((a * 2 ^ k : Nat) : Int)).toNat = a * 2 ^ k:=by rw [hY]; omega
 have h2 : (BitVec.ofInt 64 (b : Int)).toNat = b:=by rw [hY]; omega
 rw [BitVec.toNat_or,h1,h2,Nat.mul_comm a,← Nat.two_pow_add_eq_or_of_lt hb,Nat.mul_comm]
 exact kD _ (by omega)
theorem aSx (a : Int) (b : Int) (hb : 0 ≤ b) : a.fdiv b = a / b:=Int.fdiv_eq_ediv_of_nonneg a hb
theorem iX (k : IntKind) (a b : Int) (h : Hp) : aC .eql (.i k a) (.i k b) h = some (.b (a == b),h):=by simp only [dT,if_true,gG]
theorem nK (k : IntKind) (a b : Int) (h : Hp) : aC .neq (.i k a) (.i k b) h = some (.b (a != b),h):=by simp only [dT,if_true,gG]
theorem jC (k : IntKind) (a b : Int) (h : Hp) : aC .lss (.i k a) (.i k b) h = some (.b (decide (a < b)),h):=by simp only [dT,if_true,gG]
theorem aXn (k : IntKind) (a b : Int) (h : Hp) : aC .leq (.i k a) (.i k b) h = some (.b (decide (a ≤ b)),h):=by simp only [dT,if_true,gG]
theorem aCc (k : IntKind) (a b : Int) (h : Hp) : aC .gtr (.i k a) (.i k b) h = some (.b (decide (a > b)),h):=by simp only [dT,if_true,gG]
theorem qE (k : IntKind) (a b : Int) (h : Hp) : aC .geq (.i k a) (.i k b) h = some (.b (decide (a ≥ b)),h):=by simp only [dT,if_true,gG]
theorem tH (a b : Int) (h : Hp) (hr : -9223372036854775808 ≤ a + b ∧ a + b ≤ 9223372036854775807) : aC .add (.i .i64 a) (.i .i64 b) h = some (.i .i64 (a + b),h):=by simp only [dT,if_true,gG,kD _ hr]
theorem cKc (a b : Int) (h : Hp) (hr : -9223372036854775808 ≤ a - b ∧ a - b ≤ 9223372036854775807) : aC .sub (.i .i64 a) (.i .i64 b) h = some (.i .i64 (a - b),h):=by simp only [dT,if_true,gG,kD _ hr]
theorem bIw (w : Int) (h : Hp) : aC .and (.i .i64 w) (.i .i64 (Int.ofNat 1)) h = some (.i .i64 (w % 2),h):=by
 have : gG .and .i64 w (Int.ofNat 1) = some (.i .i64 (w % 2)):=by
  rw [← fAf w]; rfl
 simp only [dT,if_true,this]
theorem dGq (w : Int) (h : Hp) : aC .and (.i .i64 w) (.i .i64 (Int.ofNat 3)) h = some (.i .i64 (w % 4),h):=by
 have : gG .and .i64 w (Int.ofNat 3) = some (.i .i64 (w % 4)):=by
  rw [← fAp w]; rfl
 simp only [dT,if_true,this]
theorem yX (w : Int) (h : Hp) : dA .shr (.i .i64 w) (.i .u64 (Int.ofNat 1)) h = some (.i .i64 (w / 2),h):=by
 have : w.fdiv (2 ^ (min (Int.ofNat 1).toNat IntKind.i64.bits)) = w / 2:=aSx w (2 ^ 1) (by decide)
 simp only [dA,show ¬ ((Int.ofNat 1) < 0) by decide,if_false,this]
theorem dBq (w : Int) (h : Hp) : dA .shr (.i .i64 w) (.i .u64 (Int.ofNat 2)) h = some (.i .i64 (w / 4),h):=by
 have : w.fdiv (2 ^ (min (Int.ofNat 2).toNat IntKind.i64.bits)) = w / 4:=aSx w (2 ^ 2) (by decide)
 simp only [dA,show ¬ ((Int.ofNat 2) < 0) by decide,if_false,this]
theorem bKk (w : Int) (h : Hp) (hr : -4611686018427387904 ≤ w ∧ w ≤ 4611686018427387903) : dA .shl (.i .i64 w) (.i .u64 (Int.ofNat 1)) h = some (.i .i64 (2 * w),h):=by
 have : IntKind.i64.wrap (w * 2 ^ (min (Int.ofNat 1).toNat IntKind.i64.bits)) = 2 * w:=by
  rw [show w * 2 ^ (min (Int.ofNat 1).toNat IntKind.i64.bits) = 2 * w from Int.mul_comm w 2]
  exact kD _ (by omega)
 simp only [dA,show ¬ ((Int.ofNat 1) < 0) by decide,if_false,this]
theorem dOz (w : Int) (h : Hp) (hr : -2305843009213693952 ≤ w ∧ w ≤ 2305843009213693951) : dA .shl (.i .i64 w) (.i .u64 (Int.ofNat 2)) h = some (.i .i64 (4 * w),h):=by
 have : IntKind.i64.wrap (w * 2 ^ (min (Int.ofNat 2).toNat IntKind.i64.bits)) = 4 * w:=by
  rw [show w * 2 ^ (min (Int.ofNat 2).toNat IntKind.i64.bits) = 4 * w from Int.mul_comm w 4]
  exact kD _ (by omega)
 simp only [dA,show ¬ ((Int.ofNat 2) < 0) by decide,if_false,this]
theorem cMb (r : aH) (h : Hp) : gD (.b true) true r h = r:=Eq.trans rfl rfl
theorem nE (r : aH) (h : Hp) : gD (.b false) false r h = r:=Eq.trans rfl rfl
theorem iP (r : aH) (h : Hp) : gD (.b true) false r h = some (aT,h):=Eq.trans rfl rfl
theorem aFi (r : aH) (h : Hp) : gD (.b false) true r h = some (aT,h):=Eq.trans rfl rfl
theorem bP (v : DV) (h : Hp) (k : DV → Hp → aH) : bnd (some (v,h)) k = k v h:=Eq.trans rfl rfl
theorem dL (x y : DV) (h : Hp) : aN (.b true) x y h = some (x,h):=Eq.trans rfl rfl
theorem dS (x y : DV) (h : Hp) : aN (.b false) x y h = some (y,h):=Eq.trans rfl rfl
theorem vI (b : Bool) (h : Hp) : eQ .not (.b b) h = some (.b (!b),h):=Eq.trans rfl rfl
theorem eC (a b : aH) : aR (.b true) a b = a:=Eq.trans rfl rfl
theorem eF (a b : aH) : aR (.b false) a b = b:=Eq.trans rfl rfl
theorem g0 (a : DV) (l : List DV) : (a :: l).getD 0 aT = a:=Eq.trans rfl rfl
theorem g1 (a b : DV) (l : List DV) : (a :: b :: l).getD 1 aT = b:=Eq.trans rfl rfl
theorem g2 (a b c : DV) (l : List DV) : (a :: b :: c :: l).getD 2 aT = c:=Eq.trans rfl rfl
theorem g3 (a b c d : DV) (l : List DV) : (a :: b :: c :: d :: l).getD 3 aT = d:=Eq.trans rfl rfl
theorem bOg (n : Nat) (a b c : Int) (h : Hp) : fU CF1 (n + 1) 99 [.i .i64 a,.i .i64 b,.i .i64 c] h = some (.b (decide (b ≤ a ∧ a ≤ c)),h):=by
 rw [cE 99 rfl,dUa]
 simp only [eAa,g0,g1,g2,qE,bP]
 by_cases h1 : b ≤ a
 ·simp only [ge_iff_le,h1,decide_true,cMb,bP,aXn,dL,true_and]
 ·simp only [ge_iff_le,h1,decide_false,aFi,bP,dS,false_and]
theorem eHd (n : Nat) (w : Int) (h : Hp) : fU CF1 (n + 2) 102 [.i .i64 w] h = some (.b (hU w),h):=by
 rw [cE 102 rfl,eSp]
 simp only [t54,g0,bIw,bP,iX,bBq]
 by_cases h1 : w % 2 = 1
 ·have e : (w % 2 == Int.ofNat 1) = true:=by simpa using h1
  rw [e]
  simp only [cMb,bP,yX,bOg,dL,h1,true_and]
  rfl
 ·have e : (w % 2 == Int.ofNat 1) = false:=by simpa using h1
  rw [e]
  simp only [aFi,bP,dS,h1,false_and,decide_false]
theorem eJy (n : Nat) (w : Int) (h : Hp) : fU CF1 (n + 2) 172 [.i .i64 w] h = some (.b (!(Nat.beq (kK w) 0)),h):=by
 rw [cE 172 rfl,eMf]
 simp only [t63,g0,bIw,bP,iX,sA]
 have hp:=(aTd w).1
 by_cases h1 : w % 2 = 0
 ·have e : (w % 2 == Int.ofNat 0) = true:=by simpa using h1
  rw [e]
  simp only [cMb,bP,yX,bOg,dL]
  by_cases h2 : kK w = 0
  ·have : ¬ (Int.ofNat 3 ≤ w / 2 ∧ w / 2 ≤ Int.ofNat 131072):=fun h=>(hp.2 ⟨h1,h⟩) h2
   simp only [h2,this,decide_true,Bool.not_true,decide_false]
  ·have : Int.ofNat 3 ≤ w / 2 ∧ w / 2 ≤ Int.ofNat 131072:=(hp.1 h2).2
   simp only [h2,this,decide_false,Bool.not_false,and_self,decide_true]
 ·have h2 : kK w = 0:=by
   by_cases h2 : kK w = 0
   ·exact h2
   ·exact absurd (hp.1 h2).1 h1
  have e : (w % 2 == Int.ofNat 0) = false:=by simpa using h1
  rw [e]
  simp only [aFi,bP,dS,h2,decide_true,Bool.not_true]
theorem eKr (n : Nat) (w : Int) (h : Hp) : fU CF1 (n + 3) 100 [.i .i64 w] h = some (.i .i64 (kK w),h):=by
 rw [cE 100 rfl,eOy]
 simp only [t64,g0,eJy,bP,vI,sA]
 by_cases h2 : kK w = 0
 ·simp only [h2,decide_true,Bool.not_true,Bool.not_false,eC]; rfl
 ·have hp:=(aTd w).2.1 h2
  simp only [h2,decide_false,Bool.not_false,Bool.not_true,eF,yX,bP,hp]
theorem eLc (n : Nat) (w : Int) (h : Hp) : fU CF1 (n + 2) 60 [.i .i64 w] h = some (if -1073741824 ≤ w ∧ w ≤ 1073741823 then .t [.i .i64 (2 * w + 1),.b true] else .t [.i .i64 0,.b false],h):=by
 rw [cE 60 rfl,eSr]
 simp only [t60,g0,bOg,bP,vI]
 by_cases h1 : -1073741824 ≤ w ∧ w ≤ 1073741823
 ·have h1' : Int.negSucc 1073741823 ≤ w ∧ w ≤ Int.ofNat 1073741823:=h1
  rw [if_pos h1]
  simp only [h1',decide_true,and_self,eF,Bool.not_true]
  rw [bKk w h (by omega)]
  have hb : gG .or .i64 (2 * w) (Int.ofNat 1) = some (.i .i64 (2 * w + 1)):=by
   have : IntKind.i64.wrap (((BitVec.ofInt 64 (2 * w) ||| BitVec.ofInt 64 (Int.ofNat 1)).toNat : Nat) : Int) = 2 * w + 1:=by
    rw [BitVec.toNat_or,hY,hY]
    rw [show ((Int.ofNat 1) % 18446744073709551616).toNat = 1 from rfl]
    obtain ⟨q,hq⟩ : ∃ q : Nat,((2 * w) % 18446744073709551616).toNat = 2 ^ 1 * q:=⟨((2 * w) % 18446744073709551616).toNat / 2,by omega⟩
    rw [hq,← Nat.two_pow_add_eq_or_of_lt (show 1 < 2 ^ 1 by omega)]
    rw [← hq]
    simp [IntKind.wrap,IntKind.signed,IntKind.bits,Int.bmod]
    omega
   rw [← this]; rfl
  simp only [bP,dT,if_true,hb]
 ·have h1' : ¬ (Int.negSucc 1073741823 ≤ w ∧ w ≤ Int.ofNat 1073741823):=h1
  rw [if_neg h1]
  simp only [h1',decide_false,eC,Bool.not_false]
  rfl
theorem eYf (n : Nat) (w : Int) (h : Hp) : fU CF1 (n + 3) 143 [.i .i64 w] h = some (if hU w then .i .i64 (w / 2) else .i .i64 0,h):=by
 rw [cE 143 rfl,eIv]
 simp only [t62,g0,eHd,bP,vI]
 cases hU w with
 | false=>rfl
 | true=>simp only [Bool.not_true,eF,yX,bP,if_true]
theorem eVk (n : Nat) (a : Int) (h : Hp) : fU CF1 (n + 2) 53 [.i .i64 a] h = some (if 3 ≤ a ∧ a ≤ 131072 then .t [.i .i64 (2 * a),.b true] else .t [.i .i64 0,.b false],h):=by
 rw [cE 53 rfl,eSt]
 simp only [t75,g0,bOg,bP,vI]
 by_cases h1 : 3 ≤ a ∧ a ≤ 131072
 ·have h1' : Int.ofNat 3 ≤ a ∧ a ≤ Int.ofNat 131072:=h1
  rw [if_pos h1]
  simp only [h1',decide_true,and_self,eF,Bool.not_true]
  rw [bKk a h (by omega)]
  rfl
 ·have h1' : ¬ (Int.ofNat 3 ≤ a ∧ a ≤ Int.ofNat 131072):=h1
  rw [if_neg h1]
  simp only [h1',decide_false,eC,Bool.not_false]
  rfl
end Go.Dd

namespace Go.Dd
structure ML (m : Pos) (M : MemV) (h : Hp) : Prop where
 row : h.bl.get m = some (.row .ex [.l M.wb 0 M.n M.n,.i .i64 (Int.ofNat M.fin),.i .i64 (Int.ofNat M.made),.m M.pb])
 words : h.bl.get M.wb = some (.row .ex (iO M.n M.t))
 places : ∃ es,h.bl.get M.pb = some (.mp es) ∧ ∀ a : Int,gW (.int .i64) (.i .i64 a) es = some (if 0 ≤ a ∧ M.pl.get a.toNat ≠ 0 then some (.b true) else none)
 n_lt : M.n < 1000000
 fin_le : M.fin ≤ M.n
 made_lt : M.made < 2000000
 d1 : m ≠ M.wb
 d2 : m ≠ M.pb
 d3 : M.wb ≠ M.pb
theorem tJ {m : Pos} {M : MemV} {h : Hp} (hm : kE m h = some M) :
  h.bl.get m = some (.row .ex [.l M.wb 0 M.n M.n,.i .i64 (Int.ofNat M.fin),.i .i64 (Int.ofNat M.made),.m M.pb]) ∧ h.bl.get M.wb = some (.big M.n M.t) ∧ h.bl.get M.pb = some (.mi M.pl) ∧ M.n < 1000000 ∧ M.fin ≤ M.n ∧ M.made < 1000000:=by
 unfold kE at hm
 split at hm <;> (try (cases hm; done))
 rename_i wb n c fin made pb hr
 split at hm <;> (try (cases hm; done))
 rename_i n' t pl h1 h2
 cases hb : (Nat.beq n n' && Nat.beq n c) with
 | false=>rw [hb] at hm; cases hm
 | true =>
  rw [hb] at hm
  simp only [cond_true] at hm
  cases hc : (Nat.blt n 1000000 && (Nat.ble fin n && Nat.blt made 1000000)) with
  | false=>rw [hc] at hm; cases hm
  | true =>
   rw [hc] at hm
   simp only [cond_true,bB] at hm
   subst hm
   simp only [sA,aYx,aDg,Bool.and_eq_true,decide_eq_true_eq] at hb hc
   obtain ⟨rfl,rfl⟩:=hb
   exact ⟨hr,h1,h2,hc.1,hc.2.1,hc.2.2⟩
theorem fV {m : Pos} {M : MemV} {h h' : Hp} (hm : kE m h = some M) (S : Sim false h h') : ML m M h':=by
 obtain ⟨h1,h2,h3,h4,h5,h6⟩:=tJ hm
 refine ⟨S.row h1, ?_, ?_,h4,h5,by omega,fun e=>by (rw [e,h2] at h1; cases h1),fun e=>by (rw [e,h3] at h1; cases h1),fun e=>by (rw [e,h3] at h2; cases h2)⟩
 ·obtain ⟨o',e1,e2⟩:=S.get _ _ h2
  have e2' : o' = .row .ex (iO M.n M.t):=by simpa [aE,vL] using e2
  rw [e1,e2']
 ·obtain ⟨o',e1,e2⟩:=S.get _ _ h3
  have e2' : ∃ es,o' = .mp es ∧ ∀ a : Int,gW (.int .i64) (.i .i64 a) es = some (if 0 ≤ a ∧ M.pl.get a.toNat ≠ 0 then some (.b true) else none):=by simpa [aE,vL] using e2
  obtain ⟨es,rfl,e3⟩:=e2'
  exact ⟨es,e1,e3⟩
section
variable {m : Pos} {M : MemV} {h : Hp}
theorem iD (b : Pos) (o : Nat) (h : Hp) : aV (.p b o) h = some (.p b o,h):=Eq.trans rfl rfl
theorem eD (k : Nat) (b : Pos) (o : Nat) (h : Hp) : aB k (.p b o) h = some (.p b (o + k),h):=Eq.trans rfl rfl
theorem ML.l0 (H : ML m M h) : aA (.p m (0 + 0)) h = some (.l M.wb 0 M.n M.n,h):=by
 simp [cO,dD,nthD_eq,cQ,H.row,DV.one]
theorem ML.l1 (H : ML m M h) : aA (.p m (0 + 1)) h = some (.i .i64 (Int.ofNat M.fin),h):=by
 simp [cO,dD,nthD_eq,cQ,H.row,DV.one]
theorem ML.l2 (H : ML m M h) : aA (.p m (0 + 2)) h = some (.i .i64 (Int.ofNat M.made),h):=by
 simp [cO,dD,nthD_eq,cQ,H.row,DV.one]
theorem ML.l3 (H : ML m M h) : aA (.p m (0 + 3)) h = some (.m M.pb,h):=by
 simp [cO,dD,nthD_eq,cQ,H.row,DV.one]
theorem mA {n : Nat} {t : WT} {i : Nat} (h : i < n) : (iO n t)[i]? = some (.i .i64 (t.get i)):=by
 simp [iO,h]
theorem ML.ix (H : ML m M h) {a : Nat} (ha : a < M.n) : aG 1 (.l M.wb 0 M.n M.n) (.i .i64 (a : Int)) h = some (.p M.wb a,h):=by
 have : (0 : Int) ≤ (a : Int) ∧ (a : Int) < (M.n : Int):=by omega
 simp [eT,this]
theorem ML.ld (H : ML m M h) {a : Nat} (ha : a < M.n) : aA (.p M.wb a) h = some (.i .i64 (M.t.get a),h):=by
 simp [cO,dD,nthD_eq,cQ,H.words,mA ha,DV.one]
theorem cTa (o : Int) (pl : WT) : gV o pl = 0 ∨ (gV o pl = kK o ∧ kK o ≠ 0):=by
 unfold gV
 by_cases h0 : kK o = 0
 ·simp [h0,sA]
 ·simp only [sA,h0,decide_false,cond_false]
  split
  ·exact .inl rfl
  ·exact .inr ⟨rfl,h0⟩
theorem atN_pos {o : Int} {pl : WT} : (gV o pl ≠ 0) ↔ (kK o ≠ 0 ∧ pl.get (kK o) ≠ 0):=by
 unfold gV
 by_cases h0 : kK o = 0
 ·simp [h0,sA]
 ·simp only [sA,h0,decide_false,cond_false]
  split
  ·rename_i e; simp [e]
  ·rename_i e
   refine ⟨fun _=>⟨h0,fun e'=>e (by rw [e']; rfl)⟩,fun _=>h0⟩
theorem ML.lookup (H : ML m M h) (a : Nat) : dV (.int .i64) (.b false) false (.m M.pb) (.i .i64 (a : Int)) h = some (.b (decide (M.pl.get a ≠ 0)),h):=by
 obtain ⟨es,h1,h2⟩:=H.places
 have:=h2 a
 simp only [Int.toNat_natCast] at this
 simp only [dV,kL,h1,this]
 by_cases hc : M.pl.get a = 0
 ·simp [hc]
 ·simp [hc]
theorem mW {r : aH} {v : DV} {h : Hp} (hr : r = some (v,h)) (hv : DV.beq v v = true) : aX r v = true:=by
 rw [hr]; exact hv
theorem eLw (b : Pos) : DV.beq (.m b) (.m b) = true:=by simp [DV.beq]
theorem cIc (b : Pos) (o n c : Nat) : DV.beq (.l b o n c) (.l b o n c) = true:=by simp [DV.beq]
theorem dMq (H : ML m M h) (n : Nat) (w : Int) : fU CF1 (n + 4) 98 [.p m 0,.i .i64 w] h = some (.b (!(Nat.beq (gV w M.pl) 0)),h):=by
 rw [cE 98 rfl,eSu]
 simp only [t21,g0,g1,eJy,bP,sA]
 by_cases h0 : kK w = 0
 ·have : gV w M.pl = 0:=by
   rcases cTa w M.pl with e | ⟨e,e'⟩
   ·exact e
   ·exact absurd h0 e'
  simp only [h0,decide_true,Bool.not_true,aFi,bP,this]
  simp [aX,aT,DV.beq,fBm,cnd,bLe,aFw]
 ·simp only [h0,decide_false,Bool.not_false,cMb,bP,iD,eD,H.l3,eKr]
  rw [mW rfl (eLw _),Bool.and_self]
  simp only [cnd,H.lookup,bP,dL]
  by_cases h1 : M.pl.get (kK w) = 0
  ·have : gV w M.pl = 0:=by
    by_cases e : gV w M.pl = 0
    ·exact e
    ·exact absurd h1 (atN_pos.1 e).2
   simp [h1,this]
  ·have : gV w M.pl ≠ 0:=atN_pos.2 ⟨h0,h1⟩
   simp [h1,this]
theorem eZy (H : ML m M h) (n : Nat) : fU CF1 (n + 1) 107 [.p m 0] h = some (.i .i64 (Int.ofNat M.n),h):=by
 rw [cE 107 rfl,eIt]
 simp only [t22,g0,bP,iD,eD,H.l0]
 rfl
theorem eUu (H : ML m M h) (n : Nat) : fU CF1 (n + 1) 42 [.p m 0] h = some (.i .i64 (Int.ofNat (M.n - M.fin)),h):=by
 rw [cE 42 rfl,eLg]
 have h1:=H.n_lt
 have h2:=H.fin_le
 have e : bM (.l M.wb 0 M.n M.n) h = some (.i .i64 (M.n : Int),h):=rfl
 simp only [t29,g0,bP,iD,eD,H.l0,H.l1,e]
 rw [cKc _ _ _ (by simp only [Int.ofNat_eq_natCast]; omega)]
 simp only [bP]
 congr 3
 simp only [Int.ofNat_eq_natCast]
 omega
theorem eNt (H : ML m M h) (n : Nat) (w : Int) : fU CF1 (n + 5) 58 [.p m 0,.i .i64 w] h = some (.b (aBw w M.pl),h):=by
 rw [cE 58 rfl,eOg]
 have hm : aBw w M.pl = (decide (w = 0) || (decide (w = 2) || (decide (w = 4) || (hU w || !(Nat.beq (gV w M.pl) 0))))):=by
  unfold aBw
  split
  ·simp
  ·simp
  ·simp
  ·rename_i h1 h2 h3
   have e1 : w ≠ 0:=fun e=>h1 (by rw [e]; rfl)
   have e2 : w ≠ 2:=fun e=>h2 (by rw [e]; rfl)
   have e3 : w ≠ 4:=fun e=>h3 (by rw [e]; rfl)
   simp [e1,e2,e3]
 rw [hm]
 simp only [t20,g0,g1,iX,bP]
 have b0 : (w == Int.ofNat 0) = decide (w = 0):=rfl
 have b2 : (w == Int.ofNat 2) = decide (w = 2):=rfl
 have b4 : (w == Int.ofNat 4) = decide (w = 4):=rfl
 rw [b0]
 cases decide (w = 0) with
 | true=>simp only [iP,bP,dL,Bool.true_or]
 | false =>
  simp only [nE,bP,iX,dS,b2,Bool.false_or]
  cases decide (w = 2) with
  | true=>simp only [iP,bP,dL,Bool.true_or]
  | false =>
   simp only [nE,bP,iX,dS,b4,Bool.false_or]
   cases decide (w = 4) with
   | true=>simp only [iP,bP,dL,Bool.true_or]
   | false =>
    simp only [nE,bP,eHd,dS,Bool.false_or]
    cases hU w with
    | true=>simp only [iP,bP,dL,Bool.true_or]
    | false=>simp only [nE,bP,dMq H,dS,Bool.false_or]
theorem eMm (H : ML m M h) (n : Nat) (w : Int) : fU CF1 (n + 5) 52 [.p m 0,.i .i64 w] h = some (.b (aEu w M.pl),h):=by
 rw [cE 52 rfl,eUz]
 have hm : aEu w M.pl = (decide (w = 0) || !(Nat.beq (gV w M.pl) 0)):=by
  unfold aEu
  split
  ·simp
  ·rename_i h1
   have e1 : w ≠ 0:=fun e=>h1 (by rw [e]; rfl)
   simp [e1]
 rw [hm]
 have b0 : (w == Int.ofNat 0) = decide (w = 0):=rfl
 simp only [t74,g0,g1,iX,bP,b0]
 cases decide (w = 0) with
 | true=>simp only [iP,bP,dL,Bool.true_or]
 | false=>simp only [nE,bP,dMq H,dS,Bool.false_or]
theorem vK (H : ML m M h) (n : Nat) (w : Int) : fU CF1 (n + 5) 54 [.p m 0,.i .i64 w] h = some (.i .i64 (gV w M.pl),h):=by
 rw [cE 54 rfl,eAv]
 simp only [t105,g0,g1,dMq H,bP,vI,sA]
 rcases cTa w M.pl with e | ⟨e,e'⟩
 ·simp only [e,decide_true,Bool.not_true,Bool.not_false,eC]; rfl
 ·simp only [e,e',decide_false,Bool.not_false,Bool.not_true,eF,eKr,bP]
theorem wZ {o : Int} {k : Nat → aH} {r : DV × Hp} (hh : kU M o k = some r) : gV o M.pl + 1 < M.n ∧ ∃ hd,M.t.get (gV o M.pl) = Int.ofNat hd ∧ hd < 1000000000000 ∧ k hd = some r:=by
 unfold kU at hh
 cases hb : Nat.blt (Nat.add (gV o M.pl) 1) M.n with
 | false=>rw [hb] at hh; cases hh
 | true =>
  rw [hb] at hh
  simp only [cond_true] at hh
  simp only [aDg,decide_eq_true_eq] at hb
  split at hh <;> (try (cases hh; done))
  rename_i hd he
  cases hc : Nat.blt hd 1000000000000 with
  | false=>rw [hc] at hh; cases hh
  | true =>
   rw [hc] at hh
   simp only [aDg,decide_eq_true_eq] at hc
   exact ⟨hb,hd,he,hc,hh⟩
theorem eWk (H : ML m M h) (n : Nat) (o : Int) (ho : gV o M.pl + 1 < M.n) : fU CF1 (n + 6) 141 [.p m 0,.i .i64 o] h = some (.i .i64 (M.t.get (gV o M.pl + 1)),h):=by
 rw [cE 141 rfl,eKz]
 have hn:=H.n_lt
 simp only [t50,g0,g1,bP,iD,eD,H.l0,vK H]
 rw [mW rfl (cIc _ _ _ _),Bool.and_self]
 simp only [cnd]
 rw [tH _ _ _ (by simp only [Int.ofNat_eq_natCast]; omega)]
 have e : (gV o M.pl : Int) + Int.ofNat 1 = ((gV o M.pl + 1 : Nat) : Int):=by simp
 simp only [bP,e,H.ix ho,H.ld ho]
theorem ePf (H : ML m M h) (n : Nat) (o : Int) (ho : gV o M.pl < M.n) : fU CF1 (n + 6) 62 [.p m 0,.i .i64 o] h = some (.i .i64 (M.t.get (gV o M.pl) % 4),h):=by
 rw [cE 62 rfl,eLb]
 simp only [t51,g0,g1,bP,iD,eD,H.l0,vK H]
 rw [mW rfl (cIc _ _ _ _),Bool.and_self]
 simp only [cnd,bP,H.ix ho,H.ld ho,dGq]
theorem eJh (H : ML m M h) (n : Nat) (o : Int) (ho : gV o M.pl < M.n) : fU CF1 (n + 6) 103 [.p m 0,.i .i64 o] h = some (.i .i64 (M.t.get (gV o M.pl) / 4),h):=by
 rw [cE 103 rfl,eOe]
 simp only [t52,g0,g1,bP,iD,eD,H.l0,vK H]
 rw [mW rfl (cIc _ _ _ _),Bool.and_self]
 simp only [cnd,bP,H.ix ho,H.ld ho,dBq]
end
end Go.Dd

namespace Go.Dd
section
variable {m : Pos} {M : MemV} {h : Hp}
theorem cGt (H : ML m M h) {o i : Int} {bad : Nat → aH} {k : Nat → Nat → aH} {r : DV × Hp} (hf : jW M o i bad k = some r) :
  (∃ e : Nat,e ≠ 0 ∧ bad e = some r ∧ ∀ n,fU CF1 (n + 7) 61 [.p m 0,.i .i64 o,.i .i64 i] h = some (.t [.i .i64 (Int.ofNat 0),.i .i64 (Int.ofNat e)],h)) ∨
  (∃ hd a : Nat,gV o M.pl ≠ 0 ∧ a < M.n ∧ gV o M.pl + 1 < M.n ∧ M.t.get (gV o M.pl) = Int.ofNat hd ∧ k hd a = some r ∧ ∀ n,fU CF1 (n + 7) 61 [.p m 0,.i .i64 o,.i .i64 i] h = some (.t [.i .i64 (a : Int),.i .i64 (Int.ofNat 0)],h)):=by
 have hn:=H.n_lt
 unfold jW at hf
 rw [sA] at hf
 by_cases h0 : gV o M.pl = 0
 ·simp only [h0,decide_true,cond_true] at hf
  refine .inl ⟨1,by omega,hf,fun n => ?_⟩
  rw [cE 61 rfl,aJv]
  simp only [bUp,g0,g1,g2,vK H,bP,iX,h0]
  rfl
 ·simp only [h0,decide_false,cond_false] at hf
  have e0 : ((gV o M.pl : Int) == Int.ofNat 0) = false:=by simpa using h0
  cases i with
  | negSucc i =>
   refine .inl ⟨5,by omega,hf,fun n => ?_⟩
   rw [cE 61 rfl,aJv]
   have hlt : decide (Int.negSucc i < Int.ofNat 0) = true:=decide_eq_true (Int.negSucc_lt_zero i)
   simp only [bUp,g0,g1,g2,vK H,bP,iX,e0,eF,jC,hlt,iP,dL,eC]
  | ofNat i =>
   dsimp only at hf
   obtain ⟨h1,hd,h2,h3,h4⟩:=wZ hf
   rw [aYx] at h4
   have hlt : decide (Int.ofNat i < Int.ofNat 0) = false:=by simp
   have h52:=fun n=>eJh H n o (show gV o M.pl < M.n by omega)
   rw [h2] at h52
   by_cases hi : Nat.div hd 4 ≤ i
   ·simp only [hi,decide_true,cond_true] at h4
    refine .inl ⟨5,by omega,h4,fun n => ?_⟩
    rw [cE 61 rfl,aJv]
    have hge : decide (Int.ofNat i ≥ Int.ofNat hd / 4) = true:=by
     have : hd / 4 ≤ i:=hi
     simp only [decide_eq_true_eq,Int.ofNat_eq_natCast]
     omega
    simp only [bUp,g0,g1,g2,vK H,bP,iX,e0,eF,jC,hlt,nE,h52,qE,hge,dS,eC]
   ·simp only [hi,decide_false,cond_false] at h4
    rw [aDg] at h4
    by_cases ha : Nat.add (Nat.add (gV o M.pl) 3) i < M.n
    ·simp only [ha,decide_true,cond_true] at h4
     have ha' : gV o M.pl + 3 + i < M.n:=ha
     refine .inr ⟨hd,_,h0,ha,h1,h2,h4,fun n => ?_⟩
     rw [cE 61 rfl,aJv]
     have hge : decide (Int.ofNat i ≥ Int.ofNat hd / 4) = false:=by
      have : ¬ hd / 4 ≤ i:=hi
      simp only [decide_eq_false_iff_not,Int.ofNat_eq_natCast]
      omega
     simp only [bUp,g0,g1,g2,vK H,bP,iX,e0,eF,jC,hlt,nE,h52,qE,hge,dS]
     rw [tH _ _ _ (by simp only [Int.ofNat_eq_natCast]; omega)]
     simp only [bP]
     rw [tH _ _ _ (by simp only [Int.ofNat_eq_natCast]; omega)]
     simp only [bP]
     congr 4
    ·simp only [ha,decide_false,cond_false] at h4
     cases h4
theorem cIp (a b : DV) (h : Hp) : aF 0 (.t [a,b]) h = some (a,h):=Eq.trans rfl rfl
theorem cEe (a b : DV) (h : Hp) : aF 1 (.t [a,b]) h = some (b,h):=Eq.trans rfl rfl
theorem dRh {e : Nat} (he : e ≠ 0) : (Int.ofNat e != Int.ofNat 0) = true:=by
 simpa using he
theorem ML.put (H : ML m M h) {a : Nat} (ha : a < M.n) (w : Int) : aJ 1 (.p M.wb a) (.i .i64 w) h = some (aT,⟨h.next,Tr.set (.row .ex (iO M.n (M.t.set a w))) M.wb h.bl⟩):=by
 have hput : ∀ (n : Nat) (l : List DV) (x : DV),(∀ v ∈ l,v.one = true) → x.one = true → n < l.length → fR n l [x] = some (l.set n x):=by
  intro n
  induction n with
  | zero =>
   intro l x hl hx hlt
   cases l with
   | nil=>simp at hlt
   | cons y l =>
    have hp : oK l [] = some l:=by cases l <;> rfl
    simp [fR,oK,hl y (by simp),hx,hp]
  | succ n ih =>
   intro l x hl hx hlt
   cases l with
   | nil=>simp at hlt
   | cons y l =>
    simp only [fR,List.set_cons_succ]
    rw [ih l x (fun v hv=>hl v (by simp [hv])) hx (by simpa using hlt)]
    rfl
 have hb : ∀ v ∈ iO M.n M.t,v.one = true:=by
  intro v hv
  simp only [iO,List.mem_map] at hv
  obtain ⟨i,_,rfl⟩:=hv
  rfl
 have hlen : (iO M.n M.t).length = M.n:=by simp [iO]
 have hset : (iO M.n M.t).set a (.i .i64 w) = iO M.n (M.t.set a w):=by
  apply List.ext_getElem?
  intro i
  rw [List.getElem?_set]
  by_cases hi : i < M.n
  ·rw [mA hi,mA hi,WT.get_set M.t a w i (by have:=H.n_lt; omega)]
   by_cases e : a = i
   ·subst e
    simp [hlen,hi]
   ·rw [if_neg e,if_neg (by omega)]
  ·have h1 : (iO M.n M.t)[i]? = none:=List.getElem?_eq_none (by omega)
   have h2 : (iO M.n (M.t.set a w))[i]? = none:=List.getElem?_eq_none (by simp [iO]; omega)
   rw [h2]
   split
   ·rename_i e; subst e; rw [if_neg (by omega)]
   ·exact h1
 simp only [eM,dJ,List.length_singleton,if_true,cW,putQ_eq,H.words,Kind.writable]
 rw [hput a _ _ hb rfl (by omega),hset]
theorem eYe (H : ML m M h) {o i : Int} {k : Nat → aH} {kk : Nat → Nat → aH} {r : DV × Hp} (hf : jW M o i k kk = some r) :
  (∃ e : Nat,k e = some r ∧ ∀ n,fU CF1 (n + 8) 180 [.p m 0,.i .i64 o,.i .i64 i] h = some (.t [.i .i64 (Int.ofNat 0),.i .i64 (Int.ofNat e)],h)) ∨
  (∃ hd a : Nat,kk hd a = some r ∧ ∀ n,fU CF1 (n + 8) 180 [.p m 0,.i .i64 o,.i .i64 i] h = some (.t [.i .i64 (M.t.get a),.i .i64 (Int.ofNat 0)],h)):=by
 rcases cGt H hf with ⟨e,he,h1,h2⟩ | ⟨hd,a,h0,h1,h2,h3,h4,h5⟩
 ·refine .inl ⟨e,h1,fun n => ?_⟩
  rw [cE 180 rfl,dSw]
  simp only [t73,g0,g1,g2,h2,bP,cIp,cEe,nK,dRh he,eC]
 ·refine .inr ⟨hd,a,h4,fun n => ?_⟩
  rw [cE 180 rfl,dSw]
  have e0 : (Int.ofNat 0 != Int.ofNat 0) = false:=rfl
  simp only [t73,g0,g1,g2,h5,bP,cIp,cEe,nK,e0,eF,iD,eD,H.l0,H.ix h1,H.ld h1]
end
theorem eS {args : List DV} {h : Hp} {k : MemV → List DV → aH} {r : DV × Hp} (hr : lA args h k = some r) :
  ∃ m rest M,args = .p m 0 :: rest ∧ kE m h = some M ∧ k M rest = some r:=by
 unfold lA at hr
 split at hr <;> (try (cases hr; done))
 rename_i m rest
 split at hr <;> (try (cases hr; done))
 rename_i M hM
 exact ⟨m,rest,M,rfl,hM,hr⟩
theorem dZe (n : Nat) (args : List DV) : SimP false (isF args) (fU CF1 (n + 12) 98 args):=fun h h' S v k e=>by
 obtain ⟨m,rest,M,rfl,hM,e⟩:=eS e
 split at e <;> (try (cases e; done))
 simp only [bB,bN] at e
 obtain ⟨rfl,rfl⟩:=e
 exact ⟨h',dMq (fV hM S) (n + 8) _,S⟩
theorem dLn (n : Nat) (args : List DV) : SimP false (bWq args) (fU CF1 (n + 12) 58 args):=fun h h' S v k e=>by
 obtain ⟨m,rest,M,rfl,hM,e⟩:=eS e
 split at e <;> (try (cases e; done))
 simp only [bB,bN] at e
 obtain ⟨rfl,rfl⟩:=e
 exact ⟨h',eNt (fV hM S) (n + 7) _,S⟩
theorem cPw (n : Nat) (args : List DV) : SimP false (aFn args) (fU CF1 (n + 12) 107 args):=fun h h' S v k e=>by
 obtain ⟨m,rest,M,rfl,hM,e⟩:=eS e
 split at e <;> (try (cases e; done))
 simp only [bB,bN] at e
 obtain ⟨rfl,rfl⟩:=e
 exact ⟨h',eZy (fV hM S) (n + 11),S⟩
theorem bYm (n : Nat) (args : List DV) : SimP false (vB args) (fU CF1 (n + 12) 42 args):=fun h h' S v k e=>by
 obtain ⟨m,rest,M,rfl,hM,e⟩:=eS e
 split at e <;> (try (cases e; done))
 simp only [bB,bN] at e
 obtain ⟨rfl,rfl⟩:=e
 exact ⟨h',eUu (fV hM S) (n + 11),S⟩
theorem bTm (n : Nat) (args : List DV) : SimP false (uP args) (fU CF1 (n + 12) 141 args):=fun h h' S v k e=>by
 obtain ⟨m,rest,M,rfl,hM,e⟩:=eS e
 split at e <;> (try (cases e; done))
 obtain ⟨h1,hd,h2,h3,e⟩:=wZ e
 simp only [bB,bN] at e
 obtain ⟨rfl,rfl⟩:=e
 exact ⟨h',eWk (fV hM S) (n + 6) _ h1,S⟩
theorem bCs (n : Nat) (args : List DV) : SimP false (oX args) (fU CF1 (n + 12) 62 args):=fun h h' S v k e=>by
 obtain ⟨m,rest,M,rfl,hM,e⟩:=eS e
 split at e <;> (try (cases e; done))
 obtain ⟨h1,hd,h2,h3,e⟩:=wZ e
 simp only [bB,bN] at e
 obtain ⟨rfl,rfl⟩:=e
 refine ⟨h', ?_,S⟩
 rw [ePf (fV hM S) (n + 6) _ (by omega),h2]
 rfl
theorem aYt (n : Nat) (args : List DV) : SimP false (oZ args) (fU CF1 (n + 12) 103 args):=fun h h' S v k e=>by
 obtain ⟨m,rest,M,rfl,hM,e⟩:=eS e
 split at e <;> (try (cases e; done))
 obtain ⟨h1,hd,h2,h3,e⟩:=wZ e
 simp only [bB,bN] at e
 obtain ⟨rfl,rfl⟩:=e
 refine ⟨h', ?_,S⟩
 rw [eJh (fV hM S) (n + 6) _ (by omega),h2]
 rfl
theorem dPe (n : Nat) (args : List DV) : SimP false (bWk args) (fU CF1 (n + 12) 180 args):=fun h h' S v k e=>by
 obtain ⟨m,rest,M,rfl,hM,e⟩:=eS e
 split at e <;> (try (cases e; done))
 rename_i o i
 rcases eYe (fV hM S) e with ⟨er,e1,e2⟩ | ⟨hd,a,e1,e2⟩
 ·simp only [err,bB,bN] at e1
  obtain ⟨rfl,rfl⟩:=e1
  exact ⟨h',e2 (n + 4),S⟩
 ·simp only [bB,bN] at e1
  obtain ⟨rfl,rfl⟩:=e1
  exact ⟨h',e2 (n + 4),S⟩
theorem aTq (n : Nat) (args : List DV) : SimP false (jT args) (fU CF1 (n + 12) 102 args):=fun h h' S v k e=>by
 unfold jT at e
 split at e <;> (try (cases e; done))
 simp only [bB,bN] at e
 obtain ⟨rfl,rfl⟩:=e
 exact ⟨h',eHd (n + 10) _ h',S⟩
theorem bUz (n : Nat) (args : List DV) : SimP false (nQ args) (fU CF1 (n + 12) 143 args):=fun h h' S v k e=>by
 unfold nQ at e
 split at e <;> (try (cases e; done))
 rename_i w
 have hc:=eYf (n + 9) w h'
 cases hs : hU w with
 | true =>
  rw [hs] at e hc
  simp only [cond_true,bB,bN] at e
  obtain ⟨rfl,rfl⟩:=e
  exact ⟨h',by rw [hc,bVr]; rfl,S⟩
 | false =>
  rw [hs] at e hc
  simp only [cond_false,bB,bN] at e
  obtain ⟨rfl,rfl⟩:=e
  exact ⟨h',by rw [hc]; rfl,S⟩
theorem bWt (n : Nat) (args : List DV) : SimP false (lQ args) (fU CF1 (n + 12) 60 args):=fun h h' S v k e=>by
 unfold lQ at e
 split at e <;> (try (cases e; done))
 ·rename_i w
  have hc:=eLc (n + 10) (Int.ofNat w) h'
  rw [aDg] at e
  by_cases hw : w < 1073741824
  ·simp only [hw,decide_true,cond_true,bB,bN] at e
   obtain ⟨rfl,rfl⟩:=e
   rw [if_pos (by simp only [Int.ofNat_eq_natCast]; omega)] at hc
   refine ⟨h', ?_,S⟩
   rw [hc]
   have : 2 * Int.ofNat w + 1 = Int.ofNat (Nat.succ (Nat.mul w 2)):=by
    have : Nat.mul w 2 = w * 2:=rfl
    rw [this]
    simp only [Int.ofNat_eq_natCast]; omega
   rw [this]
  ·simp only [hw,decide_false,cond_false,bB,bN] at e
   obtain ⟨rfl,rfl⟩:=e
   rw [if_neg (by simp only [Int.ofNat_eq_natCast]; omega)] at hc
   exact ⟨h',by rw [hc]; rfl,S⟩
 ·rename_i w
  have hc:=eLc (n + 10) (Int.negSucc w) h'
  rw [aDg] at e
  by_cases hw : w < 1073741824
  ·simp only [hw,decide_true,cond_true,bB,bN] at e
   obtain ⟨rfl,rfl⟩:=e
   rw [if_pos (by omega)] at hc
   refine ⟨h', ?_,S⟩
   rw [hc]
   have : 2 * Int.negSucc w + 1 = Int.negSucc (Nat.mul w 2):=by
    have : Nat.mul w 2 = w * 2:=rfl
    rw [this]; omega
   rw [this]
  ·simp only [hw,decide_false,cond_false,bB,bN] at e
   obtain ⟨rfl,rfl⟩:=e
   rw [if_neg (by omega)] at hc
   exact ⟨h',by rw [hc]; rfl,S⟩
end Go.Dd

namespace Go.Dd
def Oth (m wb pb : Pos) (h h1 : Hp) : Prop:=h1.next = h.next ∧ ∀ b,b ≠ m → b ≠ wb → b ≠ pb → h1.bl.get b = h.bl.get b
theorem Oth.refl (m wb pb : Pos) (h : Hp) : Oth m wb pb h h:=⟨rfl,fun _ _ _ _=>rfl⟩
theorem Oth.trans {m wb pb : Pos} {a b c : Hp} (h : Oth m wb pb a b) (k : Oth m wb pb b c) : Oth m wb pb a c:=⟨k.1.trans h.1,fun x h1 h2 h3=>(k.2 x h1 h2 h3).trans (h.2 x h1 h2 h3)⟩
section
variable {m : Pos} {M : MemV} {h : Hp}
def cBc (M : MemV) : Ob:=.row .ex [.l M.wb 0 M.n M.n,.i .i64 (Int.ofNat M.fin),.i .i64 (Int.ofNat M.made),.m M.pb]
theorem ML.setM (H : ML m M h) (M' : MemV) (e1 : M'.wb = M.wb) (e2 : M'.pb = M.pb) (e3 : M'.n = M.n) (e4 : M'.t = M.t) (e5 : M'.pl = M.pl) (h1 : M'.fin ≤ M.n) (h2 : M'.made < 2000000) :
  ML m M' ⟨h.next,Tr.set (cBc M') m h.bl⟩ ∧ Oth m M.wb M.pb h ⟨h.next,Tr.set (cBc M') m h.bl⟩:=by
 refine ⟨⟨by rw [fAx]; rfl, ?_, ?_,by rw [e3]; exact H.n_lt,by rw [e3]; exact h1,h2,by rw [e1]; exact H.d1,by rw [e2]; exact H.d2,by rw [e1,e2]; exact H.d3⟩,rfl,fun b h1 _ _=>fAw _ _ _ _ h1⟩
 ·rw [e1,e3,e4,fAw _ _ _ _ (Ne.symm H.d1)]; exact H.words
 ·rw [e2,e5,fAw _ _ _ _ (Ne.symm H.d2)]; exact H.places
theorem ML.st1 (H : ML m M h) {x : Nat} (hx : x ≤ M.n) : ∃ h1,aJ 1 (.p m (0 + 1)) (.i .i64 (Int.ofNat x)) h = some (aT,h1) ∧ ML m { M with fin:=x } h1 ∧ Oth m M.wb M.pb h h1:=by
 obtain ⟨a,b⟩:=H.setM { M with fin:=x } rfl rfl rfl rfl rfl hx H.made_lt
 exact ⟨_,by simp [eM,dJ,cW,putQ_eq,H.row,Kind.writable,fR,oK,DV.one,cBc],a,b⟩
theorem ML.st2 (H : ML m M h) {x : Nat} (hx : x < 2000000) : ∃ h1,aJ 1 (.p m (0 + 2)) (.i .i64 (Int.ofNat x)) h = some (aT,h1) ∧ ML m { M with made:=x } h1 ∧ Oth m M.wb M.pb h h1:=by
 obtain ⟨a,b⟩:=H.setM { M with made:=x } rfl rfl rfl rfl rfl H.fin_le hx
 exact ⟨_,by simp [eM,dJ,cW,putQ_eq,H.row,Kind.writable,fR,oK,DV.one,cBc],a,b⟩
theorem ML.setW (H : ML m M h) (t : WT) : ML m { M with t:=t } ⟨h.next,Tr.set (.row .ex (iO M.n t)) M.wb h.bl⟩ ∧ Oth m M.wb M.pb h ⟨h.next,Tr.set (.row .ex (iO M.n t)) M.wb h.bl⟩:=by
 refine ⟨⟨?_,by rw [fAx], ?_,H.n_lt,H.fin_le,H.made_lt,H.d1,H.d2,H.d3⟩,rfl,fun b _ h1 _=>fAw _ _ _ _ h1⟩
 ·rw [fAw _ _ _ _ H.d1]; exact H.row
 ·rw [fAw _ _ _ _ (Ne.symm H.d3)]; exact H.places
theorem ML.put' (H : ML m M h) {a : Nat} (ha : a < M.n) (w : Int) : ∃ h1,aJ 1 (.p M.wb a) (.i .i64 w) h = some (aT,h1) ∧ ML m { M with t:=M.t.set a w } h1 ∧ Oth m M.wb M.pb h h1 :=
 ⟨_,H.put ha w,(H.setW _).1,(H.setW _).2⟩
theorem bWp {a : Int} {es : List (DV × DV)} : ∀ (b : Int) {r r' : Option DV},gW (.int .i64) (.i .i64 a) es = some r → gW (.int .i64) (.i .i64 b) es = some r' →
  gW (.int .i64) (.i .i64 b) (tL (.int .i64) (.i .i64 a) (.b true) es) = some (if b = a then some (.b true) else r'):=by
 induction es with
 | nil =>
  intro b r r' h1 h2
  simp only [gW,bB] at h2
  subst h2
  simp only [tL,gW,vP,if_true]
  by_cases e : b = a
  ·simp [e]
  ·have : (b == a) = false:=by simpa using e
   simp [e,this]
 | cons e es ih =>
  intro b r r' h1 h2
  simp only [gW] at h1 h2
  have hk : ∃ c,e.1 = .i .i64 c:=by
   obtain ⟨x,y⟩:=e
   cases x <;> simp [vP] at h1
   rename_i k c
   cases k <;> simp at h1
   exact ⟨c,rfl⟩
  obtain ⟨c,hc⟩:=hk
  simp only [hc,vP,if_true] at h1 h2
  simp only [tL,hc,vP,if_true]
  by_cases hac : a = c
  ·subst hac
   simp only [beq_self_eq_true] at h1 ⊢
   simp only [gW,vP,if_true]
   by_cases hba : b = a
   ·subst hba; simp
   ·have : (b == a) = false:=by simpa using hba
    simp only [this] at h2 ⊢
    rw [h2]; simp [hba]
  ·have hac' : (a == c) = false:=by simpa using hac
   simp only [hac'] at h1 ⊢
   simp only [gW,hc,vP,if_true]
   by_cases hbc : b = c
   ·subst hbc
    simp only [beq_self_eq_true,bB] at h2 ⊢
    rw [if_neg (fun e=>hac e.symm),h2]
   ·have hbc' : (b == c) = false:=by simpa using hbc
    simp only [hbc'] at h2 ⊢
    exact ih b h1 h2
theorem ML.place (H : ML m M h) {a : Nat} (ha : a < 16000000) : ∃ h1,fW (.int .i64) (.m M.pb) (.i .i64 (a : Int)) (.b true) h = some (aT,h1) ∧ ML m { M with pl:=M.pl.set a 1 } h1 ∧ Oth m M.wb M.pb h h1:=by
 obtain ⟨es,h1,h2⟩:=H.places
 refine ⟨⟨h.next,Tr.set (.mp (tL (.int .i64) (.i .i64 (a : Int)) (.b true) es)) M.pb h.bl⟩,by simp [fW,h1,h2 a],⟨?_, ?_,⟨_,by rw [fAx],fun b => ?_⟩,H.n_lt,H.fin_le,H.made_lt,H.d1,H.d2,H.d3⟩,rfl,fun b _ _ h1=>fAw _ _ _ _ h1⟩
 ·rw [fAw _ _ _ _ H.d2]; exact H.row
 ·rw [fAw _ _ _ _ H.d3]; exact H.words
 ·rw [bWp b (h2 a) (h2 b)]
  congr 1
  by_cases e : b = (a : Int)
  ·subst e
   simp [WT.get_set _ _ _ _ ha]
  ·rw [if_neg e]
   by_cases hb : 0 ≤ b
   ·have : b.toNat ≠ a:=by omega
    rw [WT.get_set _ _ _ _ ha,if_neg this]
   ·simp [hb]
theorem dHr {h' h1 : Hp} {M' : MemV} (S : Sim false h h') (hM : kE m h = some M) (H1 : ML m M' h1) (e1 : M'.wb = M.wb) (e2 : M'.pb = M.pb) (e3 : M'.n = M.n) (O : Oth m M.wb M.pb h' h1) :
  Sim false ⟨h.next,Tr.set (cBc M') m (Tr.set (.mi M'.pl) M.pb (Tr.set (.big M.n M'.t) M.wb h.bl))⟩ h1:=by
 have H:=fV hM S
 refine ⟨O.1.trans S.next,fun b o hb => ?_⟩
 by_cases b1 : b = m
 ·subst b1
  simp only [fAx,bB] at hb
  subst hb
  exact ⟨_,H1.row,rfl⟩
 ·simp only [fAw _ _ _ _ b1] at hb
  by_cases b2 : b = M.pb
  ·subst b2
   simp only [fAx,bB] at hb
   subst hb
   obtain ⟨es,p1,p2⟩:=H1.places
   rw [e2] at p1
   exact ⟨_,p1,by simp only [vL]; exact ⟨es,rfl,p2⟩⟩
  ·simp only [fAw _ _ _ _ b2] at hb
   by_cases b3 : b = M.wb
   ·subst b3
    simp only [fAx,bB] at hb
    subst hb
    have:=H1.words
    rw [e1,e3] at this
    exact ⟨_,this,by simp [vL]⟩
   ·simp only [fAw _ _ _ _ b3] at hb
    rw [O.2 b b1 b3 b2]
    exact S.get b o hb
theorem bQy {h' h1 : Hp} {t : WT} (S : Sim false h h') (hM : kE m h = some M) (H1 : ML m { M with t:=t } h1) (O : Oth m M.wb M.pb h' h1) (hm : h1.bl.get m = h'.bl.get m) (hp : h1.bl.get M.pb = h'.bl.get M.pb) :
  Sim false ⟨h.next,Tr.set (.big M.n t) M.wb h.bl⟩ h1:=by
 refine ⟨O.1.trans S.next,fun b o hb => ?_⟩
 by_cases b3 : b = M.wb
 ·subst b3
  simp only [fAx,bB] at hb
  subst hb
  exact ⟨_,H1.words,by simp [vL]⟩
 ·simp only [fAw _ _ _ _ b3] at hb
  by_cases b1 : b = m
  ·subst b1; rw [hm]; exact S.get _ o hb
  ·by_cases b2 : b = M.pb
   ·subst b2; rw [hp]; exact S.get _ o hb
   ·rw [O.2 b b1 b3 b2]
    exact S.get b o hb
end
theorem aVg {m : Pos} {M : MemV} {h h' : Hp} (S : Sim false h h') (hM : kE m h = some M) {a : Nat} (ha : a < M.n) (w : Int) {v : DV} {k : Hp} (hp : nY M a w h = some (v,k)) :
  v = .i .i64 (Int.ofNat 0) ∧ ∃ h1,aJ 1 (.p M.wb a) (.i .i64 w) h' = some (aT,h1) ∧ Sim false k h1:=by
 have H:=fV hM S
 simp only [nY,bB,bN] at hp
 obtain ⟨rfl,rfl⟩:=hp
 refine ⟨rfl,_,H.put ha w,bQy S hM (H.setW _).1 (H.setW _).2 ?_ ?_⟩
 ·exact fAw _ _ _ _ H.d1
 ·exact fAw _ _ _ _ (Ne.symm H.d3)
theorem cZr (n : Nat) (args : List DV) : SimP false (bRn args) (fU CF1 (n + 12) 31 args):=fun h h' S v k e=>by
 obtain ⟨m,rest,M,rfl,hM,e⟩:=eS e
 split at e <;> (try (cases e; done))
 rename_i o i w _
 have H:=fV hM S
 rw [cE 31 rfl,eIe]
 simp only [t47,bMj,g0,g1,g2,g3]
 rcases cGt H e with ⟨er,he,e1,e2⟩ | ⟨hd,a,h0,h1,h2,h3,e1,e2⟩
 ·simp only [bB,bN] at e1
  obtain ⟨rfl,rfl⟩:=e1
  refine ⟨h', ?_,S⟩
  simp only [e2 (n + 4),bP,cIp,cEe,aSv,nK,dRh he,eC]
 ·have e0 : (Int.ofNat 0 != Int.ofNat 0) = false:=rfl
  have h51:=ePf H (n + 5) o (show gV o M.pl < M.n by omega)
  rw [h3] at h51
  simp only [e2 (n + 4),bP,cIp,cEe,aSv,nK,e0,eF,bJq,h51,iX]
  have hmod : Int.ofNat hd % 4 = Int.ofNat (Nat.mod hd 4):=rfl
  have h4 : vC (fU CF1 (n + 11)) (n + 11) (.p m 0) (.i .i64 w) (.i .i64 (a : Int)) h' = bnd (aJ 1 (.p M.wb a) (.i .i64 w) h') fun _ h5=>some (.i .i64 (Int.ofNat 0),h5):=by
   simp only [vC,iD,eD,bP,H.l0,H.ix h1]
  have hput : nY M a w h = some (v,k) → ∃ h1,vC (fU CF1 (n + 11)) (n + 11) (.p m 0) (.i .i64 w) (.i .i64 (a : Int)) h' = some (v,h1) ∧ Sim false k h1:=by
   intro hp
   obtain ⟨rfl,h1',p1,p2⟩:=aVg S hM h1 w hp
   exact ⟨h1',by rw [h4,p1]; rfl,p2⟩
  rw [hmod]
  split at e1
  ·rename_i hz
   rw [hz]
   have : (Int.ofNat 0 == Int.ofNat 0) = true:=rfl
   simp only [this,eC,eNt H,bP,vI]
   cases hmay : aBw w M.pl with
   | true =>
    rw [hmay] at e1
    simp only [cond_true] at e1
    simp only [Bool.not_true,eF]
    exact hput e1
   | false =>
    rw [hmay] at e1
    simp only [cond_false,bB,bN] at e1
    obtain ⟨rfl,rfl⟩:=e1
    exact ⟨h',rfl,S⟩
  ·rename_i hz
   rw [hz]
   have q0 : (Int.ofNat 2 == Int.ofNat 0) = false:=rfl
   have q2 : (Int.ofNat 2 == Int.ofNat 2) = true:=rfl
   simp only [q0,eF,bP,q2,eC,jC]
   cases w with
   | negSucc c =>
    simp only [bB,bN] at e1
    obtain ⟨rfl,rfl⟩:=e1
    have hlt : decide (Int.negSucc c < Int.ofNat 0) = true:=decide_eq_true (Int.negSucc_lt_zero c)
    simp only [hlt,iP,bP,dL,eC]
    exact ⟨h',rfl,S⟩
   | ofNat c =>
    dsimp only at e1
    have hlt : decide (Int.ofNat c < Int.ofNat 0) = false:=by simp
    simp only [hlt,nE,bP,dS,aCc]
    rw [aYx] at e1
    by_cases hc : c ≤ 255
    ·simp only [hc,decide_true,cond_true] at e1
     have hgt : decide (Int.ofNat c > Int.ofNat 255) = false:=by
      simp only [decide_eq_false_iff_not,Int.ofNat_eq_natCast]; omega
     simp only [hgt,eF]
     exact hput e1
    ·simp only [hc,decide_false,cond_false,bB,bN] at e1
     obtain ⟨rfl,rfl⟩:=e1
     have hgt : decide (Int.ofNat c > Int.ofNat 255) = true:=by
      simp only [decide_eq_true_eq,Int.ofNat_eq_natCast]; omega
     simp only [hgt,eC]
     exact ⟨h',rfl,S⟩
  ·rename_i hz0 hz2
   have q0 : (Int.ofNat (Nat.mod hd 4) == Int.ofNat 0) = false:=by
    simp only [beq_eq_false_iff_ne,ne_eq,Int.ofNat_eq_natCast]
    intro e; exact hz0 (by exact_mod_cast e)
   have q2 : (Int.ofNat (Nat.mod hd 4) == Int.ofNat 2) = false:=by
    simp only [beq_eq_false_iff_ne,ne_eq,Int.ofNat_eq_natCast]
    intro e; exact hz2 (by exact_mod_cast e)
   simp only [q0,eF,bP,q2,eF]
   exact hput e1
theorem aIn (n : Nat) (args : List DV) : SimP false (kJ args) (fU CF1 (n + 12) 27 args):=fun h h' S v k e=>by
 obtain ⟨m,rest,M,rfl,hM,e⟩:=eS e
 split at e <;> (try (cases e; done))
 rename_i o c _
 have H:=fV hM S
 rw [cE 27 rfl,eMo]
 simp only [t44,g0,g1,g2,vK H,bP,iX]
 rw [sA] at e
 by_cases h0 : gV o M.pl = 0
 ·simp only [h0,decide_true,Bool.true_or,cond_true,bB,bN] at e
  obtain ⟨rfl,rfl⟩:=e
  have : ((0 : Nat) : Int) = Int.ofNat 0:=rfl
  have q : (((gV o M.pl : Nat) : Int) == Int.ofNat 0) = true:=by rw [h0]; rfl
  simp only [q,iP,bP,dL,eC]
  exact ⟨h',rfl,S⟩
 ·have q : (((gV o M.pl : Nat) : Int) == Int.ofNat 0) = false:=by simpa using h0
  simp only [q,nE,bP,dS,eMm H,vI]
  cases hc : aEu c M.pl with
  | false =>
   rw [hc] at e
   simp only [h0,decide_false,Bool.not_false,Bool.false_or,cond_true,bB,bN] at e
   obtain ⟨rfl,rfl⟩:=e
   simp only [Bool.not_false,eC]
   exact ⟨h',rfl,S⟩
  | true =>
   rw [hc] at e
   simp only [h0,decide_false,Bool.not_true,Bool.false_or,cond_false] at e
   rw [aDg] at e
   by_cases ha : Nat.add (gV o M.pl) 1 < M.n
   ·simp only [ha,decide_true,cond_true] at e
    have ha' : gV o M.pl + 1 < M.n:=ha
    have hn:=H.n_lt
    simp only [Bool.not_true,eF,iD,eD,bP,H.l0]
    rw [tH _ _ _ (by simp only [Int.ofNat_eq_natCast]; omega)]
    have ee : (gV o M.pl : Int) + Int.ofNat 1 = ((gV o M.pl + 1 : Nat) : Int):=by simp
    obtain ⟨rfl,h1',p1,p2⟩:=aVg S hM ha' c e
    simp only [bP,ee,H.ix ha',p1]
    exact ⟨h1',rfl,p2⟩
   ·simp only [ha,decide_false,cond_false] at e
    cases e
end Go.Dd

namespace Go.Dd
theorem dK (a b : Nat) (h : Hp) (hr : a + b < 4611686018427387904) : aC .add (.i .i64 (Int.ofNat a)) (.i .i64 (Int.ofNat b)) h = some (.i .i64 (Int.ofNat (a + b)),h):=by
 rw [tH _ _ _ (by simp only [Int.ofNat_eq_natCast]; omega)]
 rfl
theorem eDk (c f : Nat) (h : Hp) (hc : c ≤ 256) (hf : f ≤ 2) : aC .or (.i .i64 (4 * Int.ofNat c)) (.i .i64 (Int.ofNat f)) h = some (.i .i64 (Int.ofNat (c * 4 + f)),h):=by
 have hb : gG .or .i64 (4 * Int.ofNat c) (Int.ofNat f) = some (.i .i64 (Int.ofNat (c * 4 + f))):=by
  have:=dVe c 2 f (by omega) (by omega)
  have e1 : ((c * 2 ^ 2 : Nat) : Int) = 4 * Int.ofNat c:=by simp only [Int.ofNat_eq_natCast]; omega
  have e2 : ((c * 2 ^ 2 + f : Nat) : Int) = Int.ofNat (c * 4 + f):=rfl
  rw [e1,e2] at this
  rw [← this]; rfl
 simp only [dT,if_true,hb]
theorem aFy (t : WT) : ∀ (c a j : Nat),a + c < 16000000 → (pJ t c a).get j = if a ≤ j ∧ j < a + c then 0 else t.get j
 | 0,a,j,h=>by rw [if_neg (by omega)]; rfl
 | c + 1,a,j,h=>by
  have e : pJ t (c + 1) a = (pJ t c (a + 1)).set a (.ofNat 0):=rfl
  rw [e,WT.get_set _ _ _ _ (by omega),aFy t c (a + 1) j (by omega)]
  by_cases h1 : j = a
  ·rw [if_pos h1,if_pos (by omega)]; rfl
  ·rw [if_neg h1]
   by_cases h2 : a + 1 ≤ j ∧ j < a + 1 + c
   ·rw [if_pos h2,if_pos (by omega)]
   ·rw [if_neg h2,if_neg (by omega)]
theorem bKb : ∀ (l vs : List DV),(∀ v ∈ l,v.one = true) → (∀ v ∈ vs,v.one = true) → vs.length ≤ l.length → ∃ l',oK l vs = some l'
 | l,[],_,_,_=>⟨l,by cases l <;> rfl⟩
 | [],v :: vs,_,_,h=>by simp at h
 | x :: l,v :: vs,h1,h2,h3=>by
  obtain ⟨l',e⟩:=bKb l vs (fun u hu=>h1 u (by simp [hu])) (fun u hu=>h2 u (by simp [hu])) (by simpa using h3)
  exact ⟨v :: l',by simp [oK,h1 x (by simp),h2 v (by simp),e]⟩
theorem aUl : ∀ (o : Nat) (l vs : List DV),(∀ v ∈ l,v.one = true) → (∀ v ∈ vs,v.one = true) → o + vs.length ≤ l.length → ∃ l',fR o l vs = some l'
 | 0,l,vs,h1,h2,h3=>by
  obtain ⟨l',e⟩:=bKb l vs h1 h2 (by omega)
  exact ⟨l',e⟩
 | o + 1,[],vs,h1,h2,h3=>by simp at h3
 | o + 1,x :: l,vs,h1,h2,h3=>by
  obtain ⟨l',e⟩:=aUl o l vs (fun u hu=>h1 u (by simp [hu])) h2 (by simp at h3; omega)
  exact ⟨x :: l',by simp [fR,e]⟩
section
variable {m : Pos} {M : MemV} {h : Hp}
theorem cSo {n : Nat} {t : WT} : ∀ v ∈ iO n t,v.one = true:=by
 intro v hv
 simp only [iO,List.mem_map] at hv
 obtain ⟨i,_,rfl⟩:=hv
 rfl
theorem ML.ix' (H : ML m M h) {a : Nat} (ha : a < M.n) : aG 1 (.l M.wb 0 M.n M.n) (.i .i64 (Int.ofNat a)) h = some (.p M.wb a,h):=H.ix ha
theorem aBm (c : Nat) : (List.replicate c [DV.i .i64 (Int.ofNat 0)]).flatten = List.replicate c (.i .i64 (Int.ofNat 0)):=by
 induction c with
 | zero=>rfl
 | succ c ih=>simp [List.replicate_succ,ih]
theorem ML.clear (H : ML m M h) {a c : Nat} (hac : a + c ≤ M.n) : ∃ v h1,eL 1 (.l M.wb 0 M.n M.n) (some (.i .i64 (Int.ofNat a))) (some (.i .i64 (Int.ofNat (a + c)))) h = some (v,h) ∧
  kY [.i .i64 (Int.ofNat 0)] v h = some (.t [],h1) ∧ ML m { M with t:=pJ M.t c a } h1 ∧ Oth m M.wb M.pb h h1:=by
 have hn:=H.n_lt
 have e1 : iT (.i .i64 (Int.ofNat (a + c))) M.n = some (a + c):=by
  have : (0 : Int) ≤ Int.ofNat (a + c) ∧ Int.ofNat (a + c) ≤ (M.n : Int):=by simp only [Int.ofNat_eq_natCast]; omega
  simp only [iT,this,and_self,if_true]
  rfl
 have e2 : iT (.i .i64 (Int.ofNat a)) (a + c) = some a:=by
  have : (0 : Int) ≤ Int.ofNat a ∧ Int.ofNat a ≤ ((a + c : Nat) : Int):=by simp only [Int.ofNat_eq_natCast]; omega
  simp only [iT,this,and_self,if_true]
  rfl
 refine ⟨.l M.wb (if M.n = a then 0 else 0 + a * 1) (a + c - a) (M.n - a), ?_⟩
 have hs : eL 1 (.l M.wb 0 M.n M.n) (some (.i .i64 (Int.ofNat a))) (some (.i .i64 (Int.ofNat (a + c)))) h = some (.l M.wb (if M.n = a then 0 else 0 + a * 1) (a + c - a) (M.n - a),h):=by
  simp only [eL,hiD,loD,e1,e2,H.words]
 by_cases hc : c = 0
 ·subst hc
  refine ⟨h,hs,by simp [kY],H,Oth.refl _ _ _ _⟩
 ·obtain ⟨l',hl'⟩:=aUl a (iO M.n M.t) (List.replicate c (.i .i64 (Int.ofNat 0))) cSo (fun v hv=>by rw [List.eq_of_mem_replicate hv]; rfl) (by simp [iO]; omega)
  obtain ⟨p1,p2,p3,p4,p5⟩:=kZ _ _ _ _ hl'
  have hll : l' = iO M.n (pJ M.t c a):=by
   apply List.ext_getElem?
   intro j
   by_cases hj : j < M.n
   ·rw [mA hj,aFy _ _ _ _ (by omega)]
    by_cases hin : a ≤ j ∧ j < a + c
    ·rw [if_pos hin]
     obtain ⟨q1,_⟩:=p4 (j - a) (.i .i64 (Int.ofNat 0)) (by rw [List.getElem?_replicate,if_pos (by omega)])
     rw [show a + (j - a) = j from by omega] at q1
     exact q1
    ·rw [if_neg hin,p5 j (by rw [List.length_replicate]; omega),mA hj]
   ·rw [List.getElem?_eq_none (by rw [p1]; simp [iO]; omega),List.getElem?_eq_none (by simp [iO]; omega)]
  refine ⟨⟨h.next,Tr.set (.row .ex (iO M.n (pJ M.t c a))) M.wb h.bl⟩,hs, ?_,(H.setW _).1,(H.setW _).2⟩
  have hna : M.n ≠ a:=by omega
  rw [if_neg hna]
  simp only [kY,show a + c - a = c from by omega,hc,if_false,aBm,cW,putQ_eq,H.words,Kind.writable,if_true,Nat.zero_add,Nat.mul_one,hl',hll]
end
def bLv (rec : FuncId → List DV → Hp → aH) (x0 x3 v26 : DV) (h0 : Hp) : aH :=
 bnd (aV x0 h0) fun v64 h64 =>
 bnd (aB 1 v64 h64) fun v65 h65 =>
 bnd (aA v65 h65) fun v66 h66 =>
 bnd (aC .add x3 (.i .i64 (Int.ofNat 3)) h66) fun v67 h67 =>
 bnd (aC .add v66 v67 h67) fun v68 h68 =>
 bnd (aV x0 h68) fun v69 h69 =>
 bnd (aB 1 v69 h69) fun v70 h70 =>
 bnd (aJ 1 v70 v68 h70) fun _ h71 =>
 bnd (aV x0 h71) fun v72 h72 =>
 bnd (aB 3 v72 h72) fun v73 h73 =>
 bnd (aA v73 h73) fun v74 h74 =>
 bnd (fW (.int .i64) v74 v26 (.b true) h74) fun _ h75 =>
 bnd (rec 53 [v26] h75) fun v76 h76 =>
 bnd (aF 0 v76 h76) fun v77 h77 =>
 bnd (aF 1 v76 h77) fun v78 h78 =>
 some (.t [v77,(.i .i64 (Int.ofNat 0))],h78)
def bKs (rec : FuncId → List DV → Hp → aH) (x0 x3 v26 : DV) (h0 : Hp) : aH :=
 bnd (aV x0 h0) fun v56 h56 =>
 bnd (aB 0 v56 h56) fun v57 h57 =>
 bnd (aA v57 h57) fun v58 h58 =>
 bnd (aC .add v26 (.i .i64 (Int.ofNat 3)) h58) fun v59 h59 =>
 bnd (aC .add v26 (.i .i64 (Int.ofNat 3)) h59) fun v60 h60 =>
 bnd (aC .add v60 x3 h60) fun v61 h61 =>
 bnd (eL 1 v58 (some v59) (some v61) h61) fun v62 h62 =>
 bnd (kY [(.i .i64 (Int.ofNat 0))] v62 h62) fun _ h63 =>
 bLv rec x0 x3 v26 h63
def bLt (rec : FuncId → List DV → Hp → aH) (x0 x1 x2 x3 v26 : DV) (h0 : Hp) : aH :=
 bnd (aV x0 h0) fun v34 h34 =>
 bnd (aB 0 v34 h34) fun v35 h35 =>
 bnd (aA v35 h35) fun v36 h36 =>
 bnd (aV x0 h36) fun v37 h37 =>
 bnd (aB 0 v37 h37) fun v38 h38 =>
 bnd (aA v38 h38) fun v39 h39 =>
 bnd (aC .add v26 (.i .i64 (Int.ofNat 1)) h39) fun v40 h40 =>
 bnd (aV x0 h40) fun v41 h41 =>
 bnd (aB 0 v41 h41) fun v42 h42 =>
 bnd (aA v42 h42) fun v43 h43 =>
 bnd (aC .add v26 (.i .i64 (Int.ofNat 2)) h43) fun v44 h44 =>
 bnd (dA .shl x3 (.i .u64 (Int.ofNat 2)) h44) fun v45 h45 =>
 bnd (aC .or v45 x2 h45) fun v46 h46 =>
 bnd (aV x0 h46) fun v47 h47 =>
 bnd (aB 2 v47 h47) fun v48 h48 =>
 bnd (aA v48 h48) fun v49 h49 =>
 bnd (aG 1 v36 v26 h49) fun v50 h50 =>
 bnd (aJ 1 v50 v46 h50) fun v51 h51 =>
 bnd (aG 1 v39 v40 h51) fun v52 h52 =>
 bnd (aJ 1 v52 x1 h52) fun v53 h53 =>
 bnd (aG 1 v43 v44 h53) fun v54 h54 =>
 bnd (aJ 1 v54 v49 h54) fun v55 h55 =>
 bKs rec x0 x3 v26 h55
def aOm (rec : FuncId → List DV → Hp → aH) (x0 x1 x2 x3 : DV) (h0 : Hp) : aH :=
 bnd (aV x0 h0) fun v24 h24 =>
 bnd (aB 1 v24 h24) fun v25 h25 =>
 bnd (aA v25 h25) fun v26 h26 =>
 bnd (aV x0 h26) fun v27 h27 =>
 bnd (aB 2 v27 h27) fun v28 h28 =>
 bnd (aA v28 h28) fun v29 h29 =>
 bnd (aC .add v29 (.i .i64 (Int.ofNat 1)) h29) fun v30 h30 =>
 bnd (aV x0 h30) fun v31 h31 =>
 bnd (aB 2 v31 h31) fun v32 h32 =>
 bnd (aJ 1 v32 v30 h32) fun _ h33 =>
 bLt rec x0 x1 x2 x3 v26 h33
theorem eBb (rec : FuncId → List DV → Hp → aH) (n : Nat) (x0 x1 x2 x3 : DV) (h0 : Hp) : t30 rec n x0 x1 x2 x3 h0 = (
 bnd (rec 52 [x0,x1] h0) fun v1 h1 =>
 bnd (eQ .not v1 h1) fun v2 h2 =>
 bnd (gD v2 false (some (x2,h2)) h2) fun v3 h3 =>
 bnd (gD v2 false (aC .lss v3 (.i .i64 (Int.ofNat 0)) h3) h3) fun v4 h4 =>
 bnd (aN v2 (.b true) v4 h4) fun v5 h5 =>
 bnd (gD v5 false (some (x2,h5)) h5) fun v6 h6 =>
 bnd (gD v5 false (aC .gtr v6 (.i .i64 (Int.ofNat 2)) h6) h6) fun v7 h7 =>
 bnd (aN v5 (.b true) v7 h7) fun v8 h8 =>
 bnd (gD v8 false (some (x3,h8)) h8) fun v9 h9 =>
 bnd (gD v8 false (aC .lss v9 (.i .i64 (Int.ofNat 0)) h9) h9) fun v10 h10 =>
 bnd (aN v8 (.b true) v10 h10) fun v11 h11 =>
 bnd (gD v11 false (some (x3,h11)) h11) fun v12 h12 =>
 bnd (gD v11 false (aC .gtr v12 (.i .i64 (Int.ofNat 256)) h12) h12) fun v13 h13 =>
 bnd (aN v11 (.b true) v13 h13) fun v14 h14 =>
 aR v14 (
 some (.t [(.i .i64 (Int.ofNat 0)),(.i .i64 (Int.ofNat 1))],h14)) (
 bnd (rec 42 [x0] h14) fun v15 h15 =>
 bnd (aC .add x3 (.i .i64 (Int.ofNat 3)) h15) fun v16 h16 =>
 bnd (aC .lss v15 v16 h16) fun v17 h17 =>
 bnd (gD v17 false (some (x0,h17)) h17) fun v18 h18 =>
 bnd (gD v17 false (aV v18 h18) h18) fun v19 h19 =>
 bnd (gD v17 false (aB 2 v19 h19) h19) fun v20 h20 =>
 bnd (gD v17 false (aA v20 h20) h20) fun v21 h21 =>
 bnd (gD v17 false (aC .geq v21 (.i .i64 (Int.ofNat 1099511627776)) h21) h21) fun v22 h22 =>
 bnd (aN v17 (.b true) v22 h22) fun v23 h23 =>
 aR v23 (
 some (.t [(.i .i64 (Int.ofNat 0)),(.i .i64 (Int.ofNat 4))],h23)) (
 aOm rec x0 x1 x2 x3 h23))):=rfl
section
variable {m : Pos} {M : MemV} {h : Hp}
theorem cDe (H : ML m M h) {c : Nat} (hr : M.fin + (c + 3) ≤ M.n) (ha : 3 ≤ M.fin ∧ M.fin ≤ 131072) (n : Nat) :
  ∃ h1,bLv (fU CF1 (n + 11)) (.p m 0) (.i .i64 (Int.ofNat c)) (.i .i64 (Int.ofNat M.fin)) h = some (.t [.i .i64 (Int.ofNat (Nat.mul M.fin 2)),.i .i64 (Int.ofNat 0)],h1) ∧
   ML m { M with fin:=M.fin + (c + 3),pl:=M.pl.set M.fin 1 } h1 ∧ Oth m M.wb M.pb h h1:=by
 have hn:=H.n_lt
 simp only [bLv,iD,eD,bP,H.l1,dK c 3 _ (show c + 3 < 4611686018427387904 by omega),dK M.fin (c + 3) _ (show M.fin + (c + 3) < 4611686018427387904 by omega)]
 obtain ⟨h6,s6,H6,O6⟩:=H.st1 (x:=M.fin + (c + 3)) hr
 simp only [s6,bP,H6.l3]
 obtain ⟨h7,s7,H7,O7⟩:=H6.place (a:=M.fin) (by omega)
 rw [show fW (.int .i64) (.m M.pb) (.i .i64 (Int.ofNat M.fin)) (.b true) h6 = some (aT,h7) from s7]
 have hp : 3 ≤ Int.ofNat M.fin ∧ Int.ofNat M.fin ≤ 131072:=by simp only [Int.ofNat_eq_natCast]; omega
 have e2 : 2 * Int.ofNat M.fin = Int.ofNat (Nat.mul M.fin 2):=by
  have : Nat.mul M.fin 2 = M.fin * 2:=rfl
  rw [this]; simp only [Int.ofNat_eq_natCast]; omega
 have h75:=eVk (n + 9) (Int.ofNat M.fin) h7
 rw [if_pos hp,e2] at h75
 simp only [bP,h75,cIp,cEe]
 exact ⟨h7,rfl,H7,O6.trans O7⟩
theorem cOb (H : ML m M h) {c : Nat} (hr : M.fin + (c + 3) ≤ M.n) (n : Nat) :
  ∃ h1,bKs (fU CF1 (n + 11)) (.p m 0) (.i .i64 (Int.ofNat c)) (.i .i64 (Int.ofNat M.fin)) h = bLv (fU CF1 (n + 11)) (.p m 0) (.i .i64 (Int.ofNat c)) (.i .i64 (Int.ofNat M.fin)) h1 ∧
   ML m { M with t:=pJ M.t c (M.fin + 3) } h1 ∧ Oth m M.wb M.pb h h1:=by
 have hn:=H.n_lt
 obtain ⟨vv,h5,s5,s5',H5,O5⟩:=H.clear (a:=M.fin + 3) (c:=c) (show M.fin + 3 + c ≤ M.n by omega)
 refine ⟨h5, ?_,H5,O5⟩
 simp only [bKs,iD,eD,bP,H.l0,dK M.fin 3 _ (show M.fin + 3 < 4611686018427387904 by omega),dK (M.fin + 3) c _ (show M.fin + 3 + c < 4611686018427387904 by omega),s5,s5']
theorem bZy (H : ML m M h) {cls : Int} {c f : Nat} (hcc : c ≤ 256) (hf : f ≤ 2) (hr : M.fin + (c + 3) ≤ M.n) (n : Nat) :
  ∃ h1,bLt (fU CF1 (n + 11)) (.p m 0) (.i .i64 cls) (.i .i64 (Int.ofNat f)) (.i .i64 (Int.ofNat c)) (.i .i64 (Int.ofNat M.fin)) h = bKs (fU CF1 (n + 11)) (.p m 0) (.i .i64 (Int.ofNat c)) (.i .i64 (Int.ofNat M.fin)) h1 ∧
   ML m { M with t:=((M.t.set M.fin (Int.ofNat (c * 4 + f))).set (M.fin + 1) cls).set (M.fin + 2) (Int.ofNat M.made) } h1 ∧ Oth m M.wb M.pb h h1:=by
 have hn:=H.n_lt
 obtain ⟨h2,s2,H2,O2⟩:=H.put' (a:=M.fin) (show M.fin < M.n by omega) (Int.ofNat (c * 4 + f))
 obtain ⟨h3,s3,H3,O3⟩:=H2.put' (a:=M.fin + 1) (show M.fin + 1 < M.n by omega) cls
 obtain ⟨h4,s4,H4,O4⟩:=H3.put' (a:=M.fin + 2) (show M.fin + 2 < M.n by omega) (Int.ofNat M.made)
 have i1:=H.ix' (a:=M.fin) (by omega)
 have i2 : aG 1 (.l M.wb 0 M.n M.n) (.i .i64 (Int.ofNat (M.fin + 1))) h2 = some (.p M.wb (M.fin + 1),h2):=H2.ix' (a:=M.fin + 1) (show M.fin + 1 < M.n by omega)
 have i3 : aG 1 (.l M.wb 0 M.n M.n) (.i .i64 (Int.ofNat (M.fin + 2))) h3 = some (.p M.wb (M.fin + 2),h3):=H3.ix' (a:=M.fin + 2) (show M.fin + 2 < M.n by omega)
 have s3' : aJ 1 (.p M.wb (M.fin + 1)) (.i .i64 cls) h2 = some (aT,h3):=s3
 have s4' : aJ 1 (.p M.wb (M.fin + 2)) (.i .i64 (Int.ofNat M.made)) h3 = some (aT,h4):=s4
 refine ⟨h4, ?_,H4,(O2.trans O3).trans O4⟩
 simp only [bLt,iD,eD,bP,H.l0,H.l2,dK M.fin 1 _ (show M.fin + 1 < 4611686018427387904 by omega),dK M.fin 2 _ (show M.fin + 2 < 4611686018427387904 by omega),
  dOz (Int.ofNat c) _ (show -2305843009213693952 ≤ Int.ofNat c ∧ Int.ofNat c ≤ 2305843009213693951 by simp only [Int.ofNat_eq_natCast]; omega),eDk c f _ hcc hf,i1,s2,i2,s3',i3,s4']
end
theorem bWr {m : Pos} {M : MemV} {h h' : Hp} (S : Sim false h h') (hM : kE m h = some M) {cls : Int} {c f : Nat} (hcc : c ≤ 256) (hf : f ≤ 2) (hr : M.fin + (c + 3) ≤ M.n) (ha : 3 ≤ M.fin ∧ M.fin ≤ 131072) (n : Nat) :
  ∃ h1,aOm (fU CF1 (n + 11)) (.p m 0) (.i .i64 cls) (.i .i64 (Int.ofNat f)) (.i .i64 (Int.ofNat c)) h' = some (.t [.i .i64 (Int.ofNat (Nat.mul M.fin 2)),.i .i64 (Int.ofNat 0)],h1) ∧
   Sim false ⟨h.next,Tr.set (.row .ex [.l M.wb 0 M.n M.n,.i .i64 (Int.ofNat (M.fin + (c + 3))),.i .i64 (Int.ofNat (M.made + 1)),.m M.pb]) m
    (Tr.set (.mi (M.pl.set M.fin 1)) M.pb
     (Tr.set (.big M.n (pJ (((M.t.set M.fin (Int.ofNat (c * 4 + f))).set (M.fin + 1) cls).set (M.fin + 2) (Int.ofNat (M.made + 1))) c (M.fin + 3))) M.wb h.bl))⟩ h1:=by
 have H:=fV hM S
 have hmd : M.made < 1000000:=(tJ hM).2.2.2.2.2
 obtain ⟨h1,s1,H1,O1⟩:=H.st2 (x:=M.made + 1) (by omega)
 obtain ⟨h2,s2,H2,O2⟩:=bZy H1 (cls:=cls) hcc hf hr n
 obtain ⟨h3,s3,H3,O3⟩:=cOb H2 hr n
 obtain ⟨h4,s4,H4,O4⟩:=cDe H3 hr ha n
 have e : aOm (fU CF1 (n + 11)) (.p m 0) (.i .i64 cls) (.i .i64 (Int.ofNat f)) (.i .i64 (Int.ofNat c)) h' = bLt (fU CF1 (n + 11)) (.p m 0) (.i .i64 cls) (.i .i64 (Int.ofNat f)) (.i .i64 (Int.ofNat c)) (.i .i64 (Int.ofNat M.fin)) h1:=by
  simp only [aOm,iD,eD,bP,H.l1,H.l2,dK M.made 1 _ (show M.made + 1 < 4611686018427387904 by omega),s1]
 refine ⟨h4,e.trans (s2.trans (s3.trans s4)), ?_⟩
 dsimp only at H4
 have H5 : ML m ⟨M.wb,M.n,M.fin + (c + 3),M.made + 1,M.pb,pJ (((M.t.set M.fin (Int.ofNat (c * 4 + f))).set (M.fin + 1) cls).set (M.fin + 2) (Int.ofNat (M.made + 1))) c (M.fin + 3),M.pl.set M.fin 1⟩ h4:=H4
 exact dHr S hM H5 rfl rfl rfl (((O1.trans O2).trans O3).trans O4)
theorem cOf (n : Nat) (args : List DV) : SimP false (nF args) (fU CF1 (n + 12) 24 args):=fun h h' S v k e=>by
 unfold nF at e
 split at e <;> (try (cases e; done))
 rename_i m cls fmt cnt
 split at e <;> (try (cases e; done))
 rename_i M hM
 have H:=fV hM S
 have hn:=H.n_lt
 have hfn:=H.fin_le
 rw [cE 24 rfl,ePe,eBb]
 simp only [g0,g1,g2,g3,eMm H,bP,vI]
 have herr : ∀ er : Nat,err er h = some (v,k) → ∃ h1,(some (.t [.i .i64 (Int.ofNat 0),.i .i64 (Int.ofNat er)],h') : aH) = some (v,h1) ∧ Sim false k h1:=by
  intro er he
  simp only [err,bB,bN] at he
  obtain ⟨rfl,rfl⟩:=he
  exact ⟨h',rfl,S⟩
 cases hc : aEu cls M.pl with
 | false =>
  rw [hc] at e
  simp only [Bool.not_false,cond_true] at e
  simp only [Bool.not_false,iP,bP,dL,eC]
  exact herr 1 e
 | true =>
  rw [hc] at e
  simp only [Bool.not_true,cond_false] at e
  simp only [Bool.not_true,nE,bP,dS,jC]
  cases fmt with
  | negSucc f =>
   have hlt : decide (Int.negSucc f < Int.ofNat 0) = true:=decide_eq_true (Int.negSucc_lt_zero f)
   simp only [hlt,iP,bP,dL,eC]
   exact herr 1 e
  | ofNat f =>
   have hlt : decide (Int.ofNat f < Int.ofNat 0) = false:=by simp
   simp only [hlt,nE,bP,dS,aCc]
   by_cases hf : f ≤ 2
   ·have hgt : decide (Int.ofNat f > Int.ofNat 2) = false:=by simp only [decide_eq_false_iff_not,Int.ofNat_eq_natCast]; omega
    simp only [hgt,nE,bP,dS,jC]
    cases cnt with
    | negSucc c =>
     have hlt : decide (Int.negSucc c < Int.ofNat 0) = true:=decide_eq_true (Int.negSucc_lt_zero c)
     simp only [hlt,iP,bP,dL,eC]
     exact herr 1 e
    | ofNat c =>
     have hlt : decide (Int.ofNat c < Int.ofNat 0) = false:=by simp
     simp only [hlt,nE,bP,dS,aCc]
     dsimp only at e
     simp only [aYx,aDg,hf,decide_true,Bool.true_and] at e
     by_cases hcc : c ≤ 256
     ·have hgt : decide (Int.ofNat c > Int.ofNat 256) = false:=by simp only [decide_eq_false_iff_not,Int.ofNat_eq_natCast]; omega
      simp only [hgt,eF,eUu H,bP,dK c 3 _ (by omega),jC]
      simp only [hcc,decide_true,cond_true] at e
      have hsub : Nat.sub M.n M.fin = M.n - M.fin:=rfl
      have hadd : Nat.add c 3 = c + 3:=rfl
      rw [hsub,hadd] at e
      by_cases hr : M.n - M.fin < c + 3
      ·simp only [hr,decide_true,cond_true] at e
       have hl : decide (Int.ofNat (M.n - M.fin) < Int.ofNat (c + 3)) = true:=by simp only [decide_eq_true_eq,Int.ofNat_eq_natCast]; omega
       simp only [hl,iP,bP,dL,eC]
       exact herr 4 e
      ·simp only [hr,decide_false,cond_false] at e
       have hl : decide (Int.ofNat (M.n - M.fin) < Int.ofNat (c + 3)) = false:=by simp only [decide_eq_false_iff_not,Int.ofNat_eq_natCast]; omega
       simp only [hl,nE,bP,dS,iD,eD,H.l2,qE]
       have hg : decide (Int.ofNat M.made ≥ Int.ofNat 1099511627776) = false:=by
        have hmd : M.made < 1000000:=(tJ hM).2.2.2.2.2
        simp only [decide_eq_false_iff_not,Int.ofNat_eq_natCast]; omega
       simp only [hg,eF]
       by_cases ha : 3 ≤ M.fin ∧ M.fin ≤ 131072
       ·simp only [ha.1,ha.2,decide_true,Bool.and_self,cond_true,bB,bN] at e
        obtain ⟨rfl,rfl⟩:=e
        exact bWr S hM hcc hf (by omega) ha n
       ·have : (decide (3 ≤ M.fin) && decide (M.fin ≤ 131072)) = false:=by
         rw [← Bool.not_eq_true]
         simpa using ha
        rw [this] at e
        simp only [cond_false] at e
        cases e
     ·have hgt : decide (Int.ofNat c > Int.ofNat 256) = true:=by simp only [decide_eq_true_eq,Int.ofNat_eq_natCast]; omega
      simp only [hcc,decide_false,cond_false] at e
      simp only [hgt,eC]
      exact herr 1 e
   ·have hgt : decide (Int.ofNat f > Int.ofNat 2) = true:=by simp only [decide_eq_true_eq,Int.ofNat_eq_natCast]; omega
    simp only [hgt,iP,bP,dL,eC]
    cases cnt with
    | negSucc c=>exact herr 1 e
    | ofNat c =>
     dsimp only at e
     simp only [aYx,hf,decide_false,Bool.false_and,cond_false] at e
     exact herr 1 e
theorem bCh (n : Nat) (args : List DV) : SimP false (aRx args) (fU CF1 (n + 12) 23 args):=fun h h' S v k e=>by
 unfold aRx at e
 split at e <;> (try (cases e; done))
 ·rename_i w
  rw [cE 23 rfl,dTa]
  simp only [t41,g0,jC,bP]
  simp only [aDg] at e
  by_cases h1 : w < 16
  ·simp only [h1,decide_true,Bool.true_or,cond_true,bB,bN] at e
   obtain ⟨rfl,rfl⟩:=e
   have hl : decide (Int.ofNat w < Int.ofNat 16) = true:=by simp only [decide_eq_true_eq,Int.ofNat_eq_natCast]; omega
   simp only [hl,iP,bP,dL,eC]
   exact ⟨h',rfl,S⟩
  ·have hl : decide (Int.ofNat w < Int.ofNat 16) = false:=by simp only [decide_eq_false_iff_not,Int.ofNat_eq_natCast]; omega
   simp only [hl,nE,bP,dS,aCc]
   by_cases h2 : 131072 < w
   ·simp only [h2,decide_true,Bool.or_true,cond_true,bB,bN] at e
    obtain ⟨rfl,rfl⟩:=e
    have hg : decide (Int.ofNat w > Int.ofNat 131072) = true:=by simp only [decide_eq_true_eq,Int.ofNat_eq_natCast]; omega
    simp only [hg,eC]
    exact ⟨h',rfl,S⟩
   ·simp only [h1,h2,decide_false,Bool.or_self,cond_false,bB,bN] at e
    obtain ⟨rfl,rfl⟩:=e
    have hg : decide (Int.ofNat w > Int.ofNat 131072) = false:=by simp only [decide_eq_false_iff_not,Int.ofNat_eq_natCast]; omega
    simp only [hg,eF]
    have hms : cI 1 8 [.i .i64 (Int.ofNat 0)] (.i .i64 (Int.ofNat w)) (.i .i64 (Int.ofNat w)) h' = some (.l h'.next 0 w w,⟨h'.next.succ,Tr.set (.row .ex (iO w .e)) h'.next h'.bl⟩):=by
     have hc : (0 : Int) ≤ Int.ofNat w ∧ Int.ofNat w ≤ Int.ofNat w ∧ (Int.ofNat w).toNat * 8 ≤ 2 ^ 30 ∧ (Int.ofNat w).toNat * 1 ≤ 2 ^ 24 ∧ Int.ofNat w < 2 ^ 32:=by
      have : (Int.ofNat w).toNat = w:=rfl
      rw [this]
      simp only [Int.ofNat_eq_natCast]
      omega
     have hz : (List.replicate (Int.ofNat w).toNat [DV.i .i64 (Int.ofNat 0)]).flatten = iO w .e:=by
      have : (Int.ofNat w).toNat = w:=rfl
      rw [this,aBm]
      apply List.ext_getElem?
      intro j
      by_cases hj : j < w
      ·rw [mA hj,List.getElem?_replicate,if_pos hj]; rfl
      ·rw [List.getElem?_replicate,if_neg hj,List.getElem?_eq_none (by simp [iO]; omega)]
     simp only [cI,hc,and_self,if_true,hz]
     rfl
    simp only [hms,bP,eE]
    have hb : ∀ x y h,aY [.l0,.i .i64 (Int.ofNat 0),.i .i64 (Int.ofNat 0),.m0] [(0,1,.l x 0 w w),(1,1,.i .i64 (Int.ofNat 3)),(3,1,.m y)] h = some (.a [.l x 0 w w,.i .i64 (Int.ofNat 3),.i .i64 (Int.ofNat 0),.m y],h):=fun x y h=>rfl
    simp only [hb,bP,bZ,dJ,bQ]
    have hnx:=S.next
    refine ⟨_,by rw [hnx]; rfl, ?_⟩
    refine ⟨rfl,fun b o hb => ?_⟩
    show ∃ o',(Tr.set _ (bX 2 h.next) (Tr.set _ (bX 1 h.next) (Tr.set _ h.next h'.bl))).get b = some o' ∧ _
    by_cases b1 : b = bX 2 h.next
    ·subst b1
     simp only [fAx,bB] at hb ⊢
     subst hb
     exact ⟨_,rfl,rfl⟩
    ·simp only [fAw _ _ _ _ b1] at hb ⊢
     by_cases b2 : b = bX 1 h.next
     ·subst b2
      simp only [fAx,bB] at hb ⊢
      subst hb
      exact ⟨_,rfl,by simp only [vL]; exact ⟨[],rfl,fun a=>by simp [gW,WT.get_e]⟩⟩
     ·simp only [fAw _ _ _ _ b2] at hb ⊢
      by_cases b3 : b = h.next
      ·subst b3
       simp only [fAx,bB] at hb ⊢
       subst hb
       exact ⟨_,rfl,by simp [vL]⟩
      ·simp only [fAw _ _ _ _ b3] at hb ⊢
       exact S.get b o hb
 ·rename_i w
  simp only [bB,bN] at e
  obtain ⟨rfl,rfl⟩:=e
  rw [cE 23 rfl,dTa]
  have hl : decide (Int.negSucc w < Int.ofNat 16) = true:=by simp only [decide_eq_true_eq]; have:=Int.negSucc_lt_zero w; simp only [Int.ofNat_eq_natCast]; omega
  simp only [t41,g0,jC,bP,hl,iP,dL,eC]
  exact ⟨h',rfl,S⟩
end Go.Dd

namespace Go.Dd
theorem dGz {gg : Bool} (args : List DV) : SimP gg (bBc args) (bBc args):=fun h h' S v k e=>by
 unfold bBc at e ⊢
 split at e <;> (try (cases e; done))
 rename_i l c
 cases hc : Nat.blt c 256 with
 | false=>rw [hc] at e; cases e
 | true =>
  rw [hc] at e
  simp only [cond_true,bB,bN] at e
  obtain ⟨rfl,rfl⟩:=e
  exact ⟨h',rfl,S⟩
theorem aCm {gg : Bool} (q : Pos) (l1 : DV) (cs : List DV) : SimP gg (iI q l1 cs) (iI q l1 cs):=fun h h' S v k e=>by
 unfold iI at e ⊢
 split at e <;> (try (cases e; done))
 ·simp only [bB,bN] at e ⊢
  obtain ⟨rfl,rfl⟩:=e
  exact ⟨_,⟨by rw [S.next],rfl⟩,by rw [S.next]; exact S.setR _ _ _ _⟩
 ·rename_i b o len cap
  cases hc : (Nat.ble cap len && !(kC b q)) with
  | false=>rw [hc] at e; cases e
  | true =>
   rw [hc] at e
   simp only [cnd] at e ⊢
   split at e <;> (try (cases e; done))
   rename_i es l old hb hold
   rw [S.row hb,S.cellsAt hold]
   dsimp only
   split at e <;> (try (cases e; done))
   rename_i hr
   rw [if_pos hr]
   simp only [bB,bN] at e ⊢
   obtain ⟨rfl,rfl⟩:=e
   refine ⟨_,⟨by rw [S.next],rfl⟩, ?_⟩
   rw [S.next]
   exact (S.setR .sp (bR o l) b h.next).setR _ _ _ _
theorem aWs {gg : Bool} (c q : Pos) : SimP gg (tM c q) (tM c q):=by
 intro h h' S
 unfold tM
 refine fBc (iY _ h h' S) fun l1 _ _ _ => ?_
 refine fBc (fAz (kQ l1) h h' S) fun n _ _ _ => ?_
 refine fBc (jB _ _ h h' S) fun x _ _ _ => ?_
 split
 ·refine fBv id ?_
  have S2 : Sim gg ⟨h.next.succ.succ,h.bl⟩ ⟨h'.next.succ.succ,h'.bl⟩:=⟨by show h'.next.succ.succ = _; rw [S.next],S.get⟩
  refine fBc (aCm _ _ _ _ _ S2) fun l2 h3 h3' T3 => ?_
  exact fBc (eW _ _ _ h3 h3' T3) fun u h4 h4' T4=>SimR.some T4 _
 ·exact SimR.none _
theorem bQi {gg : Bool} (n : Nat) (f : FuncId) (args : List DV) : SimP gg (fnD CF0 n f args) (fnD CF0 n f args) :=
 cRe (gg:=gg) (P:=Go.Proofs.Tryz.prog) (I2:=fun _=>none) (I1:=fun _=>none) 0 (fun _ _=>rfl) (fun _ _ h=>by cases h) n f args
theorem dBv {gg : Bool} (args : List DV) : SimP gg (bSv args) (bSv args):=by
 unfold bSv
 intro h h' S
 split
 ·rename_i c lit
  dsimp only
  rw [show h'.next = h.next from S.next]
  refine fBc (aMq _ h h' S) fun b h1 h1' T1 => ?_
  refine fBc (iY _ h1 h1' T1) fun ls h2 h2' T2 => ?_
  refine fBc (bQi _ _ _ h2 h2' T2) fun i h3 h3' T3 => ?_
  refine fBc (fAz (aDp _ _ _) h3 h3' T3) fun t h4 h4' T4 => ?_
  exact aKo (aWs _ _ h4 h4' T4) (SimR.some T4 _)
 ·exact SimR.none _
theorem tX {C : Cfg} {rec : FuncId → List DV → Hp → aH} {g : FuncId} (h : C.I g = none) (args : List DV) : cA C rec g args = rec g args:=by
 funext k
 unfold cA
 rw [h]
theorem cLa {gg : Bool} (args : List DV) : SimP gg (aEj args) (aEj args):=fun h h' S v k e=>by
 unfold aEj at e ⊢
 split at e <;> (try (cases e; done))
 rename_i s c new
 cases hc : Nat.blt c 256 with
 | false=>rw [hc] at e; cases e
 | true =>
 rw [hc] at e
 cases hc2 : Nat.ble s.length 4000000000 with
 | false=>rw [hc2] at e; cases e
 | true =>
 rw [hc2] at e
 cases hc3 : Nat.ble new.length 1000 with
 | false=>rw [hc3] at e; cases e
 | true =>
  rw [hc3] at e
  simp only [cond_true,bB,bN] at e
  obtain ⟨rfl,rfl⟩:=e
  exact ⟨h',by simp only [hc3,cond_true],S⟩
theorem cSp {gg : Bool} (args : List DV) : SimP gg (aDa args) (aDa args):=fun h h' S v k e=>by
 unfold aDa at e ⊢
 split at e <;> (try (cases e; done))
 rename_i n
 cases hc : (decide (-9223372036854775808 ≤ n) && decide (n ≤ 9223372036854775807)) with
 | false=>rw [hc] at e; cases e
 | true =>
  rw [hc] at e
  simp only [cond_true,bB,bN] at e
  obtain ⟨rfl,rfl⟩:=e
  exact ⟨h',by simp only [hc,cond_true],S⟩
theorem aPh {gg : Bool} (c q : Pos) : SimP gg (lU c q) (lU c q):=by
 intro h h' S
 unfold lU
 refine fBc (iY _ h h' S) fun l1 _ _ _ => ?_
 refine fBc (fAz (kQ l1) h h' S) fun n _ _ _ => ?_
 refine fBc (jB _ _ h h' S) fun x _ _ _ => ?_
 split
 ·refine fBv id ?_
  have S2 : Sim gg ⟨h.next.succ,h.bl⟩ ⟨h'.next.succ,h'.bl⟩:=⟨by show h'.next.succ = _; rw [S.next],S.get⟩
  refine fBc (aCm _ _ _ _ _ S2) fun l2 h3 h3' T3 => ?_
  exact fBc (eW _ _ _ h3 h3' T3) fun u h4 h4' T4=>SimR.some T4 _
 ·exact SimR.none _
theorem aZw {gg : Bool} : SimK gg uH uH:=fun env=>by
 intro h h' S
 unfold uH
 split
 ·exact aPh _ _ h h' S
 ·exact SimR.none _
theorem bRe {gg : Bool} (args : List DV) : SimP gg (oF args) (oF args):=by
 intro h h' S
 unfold oF
 split
 ·rename_i c lit
  have HC : ∀ g args,SimP gg (cA ⟨Go.Proofs.Tryz.prog,fun _=>none⟩ (fnD CF0 60) g args) (cA ⟨Go.Proofs.Tryz.prog,fun _=>none⟩ (fnD CF0 60) g args):=fun g args=>by
   rw [tX rfl]
   exact bQi 60 g args
  have hX : ∀ j,SimK gg (x0 j) (x0 j):=fun j env h h' S v k e=>by cases e
  exact fP (P:=Go.Proofs.Tryz.prog) (I2:=fun _=>none) (I1:=fun _=>none) HC 47 300 0 _ _ _ _ _ _ _ hX (lZ _)
   (fP (P:=Go.Proofs.Tryz.prog) (I2:=fun _=>none) (I1:=fun _=>none) HC 47 300 0 _ _ _ _ _ _ _ hX (lZ _) aZw) _ h h' S
 ·exact SimR.none _
theorem aHp {gg : Bool} {g : FuncId} {F : List DV → Hp → aH} (hg : qD g = some F) (args : List DV) : SimP gg (F args) (F args):=by
 unfold qD at hg
 cases h1 : Nat.beq g 271 with
 | true=>rw [h1] at hg; cases hg; exact dGz args
 | false =>
 cases h2 : Nat.beq g 285 with
 | true=>rw [h1,h2] at hg; cases hg; exact dBv args
 | false =>
 cases h3 : Nat.beq g 165 with
 | true=>rw [h1,h2,h3] at hg; cases hg; exact cSp args
 | false =>
 cases h4 : Nat.beq g 167 with
 | true=>rw [h1,h2,h3,h4] at hg; cases hg; exact cLa args
 | false =>
 cases h5 : Nat.beq g 124 with
 | true=>rw [h1,h2,h3,h4,h5] at hg; cases hg; exact bRe args
 | false =>
 rw [h1,h2,h3,h4,h5] at hg
 cases hg
theorem aUf {g : FuncId} (hg : CF.I g = none) : qD g = none ∧ aPj g = none:=by
 change orI (qD g) (aPj g) = none at hg
 cases h : qD g with
 | none=>rw [h] at hg; exact ⟨rfl,hg⟩
 | some F=>rw [h] at hg; cases hg
theorem aAr {g : FuncId} {F : List DV → Hp → aH} (hg : CF.I g = some F) : qD g = some F ∨ (qD g = none ∧ aPj g = some F):=by
 change orI (qD g) (aPj g) = some F at hg
 cases h : qD g with
 | none=>rw [h] at hg; exact .inr ⟨rfl,hg⟩
 | some F'=>rw [h] at hg; cases hg; exact .inl rfl
theorem aUj (g : FuncId) (F : List DV → Hp → aH) (hg : aPj g = some F) (n : Nat) (args : List DV) : SimP false (F args) (fU CF1 (n + 12) g args):=by
 rw [bPc] at hg
 unfold bOw at hg
 have hb : ∀ k,Nat.beq g k = true → g = k:=fun k h=>Nat.eq_of_beq_eq_true h
 cases h1 : Nat.beq g 58 with
 | true=>rw [h1] at hg; cases hg; rw [hb _ h1]; exact dLn n args
 | false =>
 cases h2 : Nat.beq g 98 with
 | true=>rw [h1,h2] at hg; cases hg; rw [hb _ h2]; exact dZe n args
 | false =>
 cases h3 : Nat.beq g 107 with
 | true=>rw [h1,h2,h3] at hg; cases hg; rw [hb _ h3]; exact cPw n args
 | false =>
 cases h4 : Nat.beq g 42 with
 | true=>rw [h1,h2,h3,h4] at hg; cases hg; rw [hb _ h4]; exact bYm n args
 | false =>
 cases h5 : Nat.beq g 24 with
 | true=>rw [h1,h2,h3,h4,h5] at hg; cases hg; rw [hb _ h5]; exact cOf n args
 | false =>
 cases h6 : Nat.beq g 23 with
 | true=>rw [h1,h2,h3,h4,h5,h6] at hg; cases hg; rw [hb _ h6]; exact bCh n args
 | false =>
 cases h7 : Nat.beq g 27 with
 | true=>rw [h1,h2,h3,h4,h5,h6,h7] at hg; cases hg; rw [hb _ h7]; exact aIn n args
 | false =>
 cases h8 : Nat.beq g 31 with
 | true=>rw [h1,h2,h3,h4,h5,h6,h7,h8] at hg; cases hg; rw [hb _ h8]; exact cZr n args
 | false =>
 cases h9 : Nat.beq g 141 with
 | true=>rw [h1,h2,h3,h4,h5,h6,h7,h8,h9] at hg; cases hg; rw [hb _ h9]; exact bTm n args
 | false =>
 cases h10 : Nat.beq g 62 with
 | true=>rw [h1,h2,h3,h4,h5,h6,h7,h8,h9,h10] at hg; cases hg; rw [hb _ h10]; exact bCs n args
 | false =>
 cases h11 : Nat.beq g 103 with
 | true=>rw [h1,h2,h3,h4,h5,h6,h7,h8,h9,h10,h11] at hg; cases hg; rw [hb _ h11]; exact aYt n args
 | false =>
 cases h12 : Nat.beq g 102 with
 | true=>rw [h1,h2,h3,h4,h5,h6,h7,h8,h9,h10,h11,h12] at hg; cases hg; rw [hb _ h12]; exact aTq n args
 | false =>
 cases h13 : Nat.beq g 60 with
 | true=>rw [h1,h2,h3,h4,h5,h6,h7,h8,h9,h10,h11,h12,h13] at hg; cases hg; rw [hb _ h13]; exact bWt n args
 | false =>
 cases h14 : Nat.beq g 143 with
 | true=>rw [h1,h2,h3,h4,h5,h6,h7,h8,h9,h10,h11,h12,h13,h14] at hg; cases hg; rw [hb _ h14]; exact bUz n args
 | false =>
 cases h15 : Nat.beq g 180 with
 | true=>rw [h1,h2,h3,h4,h5,h6,h7,h8,h9,h10,h11,h12,h13,h14,h15] at hg; cases hg; rw [hb _ h15]; exact dPe n args
 | false=>rw [h1,h2,h3,h4,h5,h6,h7,h8,h9,h10,h11,h12,h13,h14,h15] at hg; cases hg
theorem aYi (n : Nat) (f : FuncId) (args : List DV) : SimP false (fU CF n f args) (fU CF1 (n + 12) f args):=by
 have key:=aMd (I:=itm) (q:=rgB) (gg:=false) (P:=Go.Proofs.Tryz.prog) (I2:=CF.I) (I1:=CF1.I) 12 (fun g hg=>(aUf hg).1) (fun g F hg n args=>by
  have hcall : cA ⟨Go.Proofs.Tryz.prog,CF1.I⟩ (fU ⟨Go.Proofs.Tryz.prog,CF1.I⟩ (n + 12)) g args = fun h=>match qD g with
   | some F=>F args h
   | none=>fU ⟨Go.Proofs.Tryz.prog,CF1.I⟩ (n + 12) g args h:=rfl
  rw [hcall]
  rcases aAr hg with h1 | ⟨h1,h2⟩
  ·rw [h1]; exact aHp h1 args
  ·rw [h1]; exact aUj g F h2 n args) n f args
 exact key
end Go.Dd

namespace Go.Dd
open Go.Proofs
theorem aFj {m : Pos} {M : MemV} {h h' : Hp} (S : Sim true h h') (hm : kE m h = some M) : kE m h' = some M:=by
 have hget : ∀ b o,h.bl.get b = some o → h'.bl.get b = some o:=fun b o hb=>by
  obtain ⟨o',h1,h2⟩:=S.get b o hb
  rw [h1,lE h2]
 unfold kE at hm ⊢
 split at hm <;> (try (cases hm; done))
 rename_i wb n c fin made pb hr
 split at hm <;> (try (cases hm; done))
 rename_i n' t pl h1 h2
 simp only [hget _ _ hr,hget _ _ h1,hget _ _ h2]
 exact hm
theorem fT {args : List DV} {k : Hp → MemV → List DV → aH} (hk : ∀ M r,SimP true (fun h=>k h M r) (fun h=>k h M r)) : SimP true (fun h=>lA args h (k h)) (fun h=>lA args h (k h)):=fun h h' S v g e=>by
 obtain ⟨m,rest,M,rfl,hM,e⟩:=eS e
 obtain ⟨g',e1,e2⟩:=hk M rest h h' S v g e
 refine ⟨g', ?_,e2⟩
 show (match kE m h' with
  | some M=>k h' M rest
  | none=>none) = some (v,g')
 rw [aFj S hM]
 exact e1
theorem mU {M : MemV} {o : Int} {k k' : Nat → aH} (h : ∀ n,SimR true (k n) (k' n)) : SimR true (kU M o k) (kU M o k'):=by
 unfold kU
 cases Nat.blt (Nat.add (gV o M.pl) 1) M.n with
 | false=>exact SimR.none _
 | true =>
  simp only [cond_true]
  cases M.t.get (gV o M.pl) with
  | negSucc a=>exact SimR.none _
  | ofNat hd =>
   dsimp only
   cases Nat.blt hd 1000000000000 with
   | false=>exact SimR.none _
   | true=>exact h hd
theorem uV {M : MemV} {o i : Int} {b b' : Nat → aH} {k k' : Nat → Nat → aH} (hb : ∀ n,SimR true (b n) (b' n)) (h : ∀ n m,SimR true (k n m) (k' n m)) : SimR true (jW M o i b k) (jW M o i b' k'):=by
 unfold jW
 cases Nat.beq (gV o M.pl) 0 with
 | true=>exact hb 1
 | false =>
  simp only [cond_false]
  cases i with
  | negSucc i=>exact hb 5
  | ofNat i =>
   dsimp only
   refine mU fun hd => ?_
   cases Nat.ble (Nat.div hd 4) i with
   | true=>exact hb 5
   | false =>
    simp only [cond_false]
    cases Nat.blt (Nat.add (Nat.add (gV o M.pl) 3) i) M.n with
    | false=>exact SimR.none _
    | true=>exact h _ _
theorem kR {h h' : Hp} (S : Sim true h h') (o : Ob) (b n : Pos) : Sim true ⟨n,Tr.set o b h.bl⟩ ⟨n,Tr.set o b h'.bl⟩:=S.set (kV o) b n
theorem oY {M : MemV} {a : Nat} {w : Int} : SimP true (nY M a w) (nY M a w):=fun h h' S v g e=>by
 simp only [nY,bB,bN] at e ⊢
 obtain ⟨rfl,rfl⟩:=e
 exact ⟨_,⟨rfl,rfl⟩,by rw [S.next]; exact kR S _ _ _⟩
theorem cDx (g : FuncId) (F : List DV → Hp → aH) (hg : aPj g = some F) (args : List DV) : SimP true (F args) (F args):=by
 have hmay : SimP true (bWq args) (bWq args):=fT (k:=fun h M r=>match r with
  | [.i .i64 w]=>some (.b (aBw w M.pl),h)
  | _=>none) fun M r h h' S=>by dsimp only; split <;> first | exact SimR.some S _ | exact SimR.none _
 have his : SimP true (isF args) (isF args):=fT (k:=fun h M r=>match r with
  | [.i .i64 w]=>some (.b (!(Nat.beq (gV w M.pl) 0)),h)
  | _=>none) fun M r h h' S=>by dsimp only; split <;> first | exact SimR.some S _ | exact SimR.none _
 have hsize : SimP true (aFn args) (aFn args):=fT (k:=fun h M r=>match r with
  | []=>some (.i .i64 (.ofNat M.n),h)
  | _=>none) fun M r h h' S=>by dsimp only; split <;> first | exact SimR.some S _ | exact SimR.none _
 have hroom : SimP true (vB args) (vB args):=fT (k:=fun h M r=>match r with
  | []=>some (.i .i64 (.ofNat (Nat.sub M.n M.fin)),h)
  | _=>none) fun M r h h' S=>by dsimp only; split <;> first | exact SimR.some S _ | exact SimR.none _
 have hclass : SimP true (uP args) (uP args):=fT (k:=fun h M r=>match r with
  | [.i .i64 o]=>kU M o fun _=>some (.i .i64 (M.t.get (Nat.add (gV o M.pl) 1)),h)
  | _=>none) fun M r h h' S=>by dsimp only; split <;> first | exact mU (fun _=>SimR.some S _) | exact SimR.none _
 have hformat : SimP true (oX args) (oX args):=fT (k:=fun h M r=>match r with
  | [.i .i64 o]=>kU M o fun hd=>some (.i .i64 (.ofNat (Nat.mod hd 4)),h)
  | _=>none) fun M r h h' S=>by dsimp only; split <;> first | exact mU (fun _=>SimR.some S _) | exact SimR.none _
 have hfields : SimP true (oZ args) (oZ args):=fT (k:=fun h M r=>match r with
  | [.i .i64 o]=>kU M o fun hd=>some (.i .i64 (.ofNat (Nat.div hd 4)),h)
  | _=>none) fun M r h h' S=>by dsimp only; split <;> first | exact mU (fun _=>SimR.some S _) | exact SimR.none _
 have hget : SimP true (bWk args) (bWk args):=fT (k:=fun h M r=>match r with
  | [.i .i64 o,.i .i64 i]=>jW M o i (fun e=>err e h) fun _ a=>some (.t [.i .i64 (M.t.get a),.i .i64 (.ofNat 0)],h)
  | _=>none) fun M r h h' S=>by dsimp only; split <;> first | exact uV (fun _=>SimR.some S _) (fun _ _=>SimR.some S _) | exact SimR.none _
 have hput : SimP true (bRn args) (bRn args):=fT (k:=fun h M r=>match r with
  | [.i .i64 o,.i .i64 i,.i .i64 w]=>jW M o i (fun e=>some (.i .i64 (.ofNat e),h)) fun hd a =>
   match Nat.mod hd 4 with
   | 0=>bif aBw w M.pl then nY M a w h else some (.i .i64 (.ofNat 6),h)
   | 2=>(match w with
    | .ofNat c=>bif Nat.ble c 255 then nY M a w h else some (.i .i64 (.ofNat 6),h)
    | .negSucc _=>some (.i .i64 (.ofNat 6),h))
   | _=>nY M a w h
  | _=>none) fun M r h h' S=>by
   dsimp only
   split
   ·rename_i o i w
    refine uV (fun _=>SimR.some S _) fun hd a => ?_
    split
    ·cases aBw w M.pl with
     | true=>exact oY h h' S
     | false=>exact SimR.some S _
    ·cases w with
     | negSucc c=>exact SimR.some S _
     | ofNat c =>
      dsimp only
      cases Nat.ble c 255 with
      | true=>exact oY h h' S
      | false=>exact SimR.some S _
    ·exact oY h h' S
   ·exact SimR.none _
 have hsetc : SimP true (kJ args) (kJ args):=fT (k:=fun h M r=>match r with
  | [.i .i64 o,.i .i64 c]=>bif Nat.beq (gV o M.pl) 0 || !(aEu c M.pl) then some (.i .i64 (.ofNat 1),h) else
   (bif Nat.blt (Nat.add (gV o M.pl) 1) M.n then nY M (Nat.add (gV o M.pl) 1) c h else none)
  | _=>none) fun M r h h' S=>by
   dsimp only
   split
   ·rename_i o c
    cases Nat.beq (gV o M.pl) 0 || !(aEu c M.pl) with
    | true=>exact SimR.some S _
    | false =>
     simp only [cond_false]
     cases Nat.blt (Nat.add (gV o M.pl) 1) M.n with
     | true=>exact oY h h' S
     | false=>exact SimR.none _
   ·exact SimR.none _
 have hmake : SimP true (nF args) (nF args):=fun h h' S=>by
  unfold nF
  split
  ·rename_i m cls fmt cnt
   intro v g e
   split at e
   ·cases e
   ·rename_i M hM
    rw [aFj S hM]
    dsimp only
    revert e
    have herr : ∀ n,SimR true (err n h) (err n h'):=fun n=>SimR.some S _
    suffices hs : SimR true _ _ from fun e=>hs v g e
    cases !(aEu cls M.pl) with
    | true=>exact herr 1
    | false =>
     simp only [cond_false]
     cases fmt with
     | negSucc f=>exact herr 1
     | ofNat f =>
      cases cnt with
      | negSucc c=>exact herr 1
      | ofNat c =>
       dsimp only
       cases Nat.ble f 2 && Nat.ble c 256 with
       | false=>exact herr 1
       | true =>
        simp only [cond_true]
        cases Nat.blt (Nat.sub M.n M.fin) (Nat.add c 3) with
        | true=>exact herr 4
        | false =>
         simp only [cond_false]
         cases Nat.ble 3 M.fin && Nat.ble M.fin 131072 with
         | false=>exact SimR.none _
         | true =>
          simp only [cond_true]
          intro v g e
          simp only [bB,bN] at e ⊢
          obtain ⟨rfl,rfl⟩:=e
          refine ⟨_,⟨rfl,rfl⟩, ?_⟩
          rw [S.next]
          exact kR (kR (kR S _ _ h.next) _ _ h.next) _ _ h.next
  ·exact SimR.none _
 have hnew : SimP true (aRx args) (aRx args):=fun h h' S=>by
  unfold aRx
  split
  ·rename_i n
   cases Nat.blt n 16 || Nat.blt 131072 n with
   | true=>exact SimR.some S _
   | false =>
    simp only [cond_false]
    intro v g e
    simp only [bB,bN] at e ⊢
    obtain ⟨rfl,rfl⟩:=e
    rw [S.next]
    exact ⟨_,⟨rfl,rfl⟩,kR (kR (kR S _ _ h.next) _ _ h.next) _ _ _⟩
  ·exact SimR.some S _
  ·exact SimR.none _
 have hpure : ∀ F : Hp → aH,(∀ h h',Sim true h h' → SimR true (F h) (F h')) → SimP true F F:=fun F hF=>hF
 have hsm : SimP true (jT args) (jT args):=fun h h' S=>by unfold jT; split <;> first | exact SimR.some S _ | exact SimR.none _
 have hva : SimP true (nQ args) (nQ args):=fun h h' S=>by
  unfold nQ
  split
  ·rename_i w
   cases hU w <;> exact SimR.some S _
  ·exact SimR.none _
 have hsl : SimP true (lQ args) (lQ args):=fun h h' S=>by
  unfold lQ
  split
  ·rename_i n; cases Nat.blt n 1073741824 <;> exact SimR.some S _
  ·rename_i n; cases Nat.blt n 1073741824 <;> exact SimR.some S _
  ·exact SimR.none _
 rw [bPc] at hg
 unfold bOw at hg
 cases h1 : Nat.beq g 58 with
 | true=>rw [h1] at hg; cases hg; exact hmay
 | false =>
 cases h2 : Nat.beq g 98 with
 | true=>rw [h1,h2] at hg; cases hg; exact his
 | false =>
 cases h3 : Nat.beq g 107 with
 | true=>rw [h1,h2,h3] at hg; cases hg; exact hsize
 | false =>
 cases h4 : Nat.beq g 42 with
 | true=>rw [h1,h2,h3,h4] at hg; cases hg; exact hroom
 | false =>
 cases h5 : Nat.beq g 24 with
 | true=>rw [h1,h2,h3,h4,h5] at hg; cases hg; exact hmake
 | false =>
 cases h6 : Nat.beq g 23 with
 | true=>rw [h1,h2,h3,h4,h5,h6] at hg; cases hg; exact hnew
 | false =>
 cases h7 : Nat.beq g 27 with
 | true=>rw [h1,h2,h3,h4,h5,h6,h7] at hg; cases hg; exact hsetc
 | false =>
 cases h8 : Nat.beq g 31 with
 | true=>rw [h1,h2,h3,h4,h5,h6,h7,h8] at hg; cases hg; exact hput
 | false =>
 cases h9 : Nat.beq g 141 with
 | true=>rw [h1,h2,h3,h4,h5,h6,h7,h8,h9] at hg; cases hg; exact hclass
 | false =>
 cases h10 : Nat.beq g 62 with
 | true=>rw [h1,h2,h3,h4,h5,h6,h7,h8,h9,h10] at hg; cases hg; exact hformat
 | false =>
 cases h11 : Nat.beq g 103 with
 | true=>rw [h1,h2,h3,h4,h5,h6,h7,h8,h9,h10,h11] at hg; cases hg; exact hfields
 | false =>
 cases h12 : Nat.beq g 102 with
 | true=>rw [h1,h2,h3,h4,h5,h6,h7,h8,h9,h10,h11,h12] at hg; cases hg; exact hsm
 | false =>
 cases h13 : Nat.beq g 60 with
 | true=>rw [h1,h2,h3,h4,h5,h6,h7,h8,h9,h10,h11,h12,h13] at hg; cases hg; exact hsl
 | false =>
 cases h14 : Nat.beq g 143 with
 | true=>rw [h1,h2,h3,h4,h5,h6,h7,h8,h9,h10,h11,h12,h13,h14] at hg; cases hg; exact hva
 | false =>
 cases h15 : Nat.beq g 180 with
 | true=>rw [h1,h2,h3,h4,h5,h6,h7,h8,h9,h10,h11,h12,h13,h14,h15] at hg; cases hg; exact hget
 | false=>rw [h1,h2,h3,h4,h5,h6,h7,h8,h9,h10,h11,h12,h13,h14,h15] at hg; cases hg
theorem aVc (g : FuncId) (F : List DV → Hp → aH) (hg : CF.I g = some F) (args : List DV) : SimP true (F args) (F args):=by
 rcases aAr hg with h1 | ⟨_,h2⟩
 ·exact aHp h1 args
 ·exact cDx g F h2 args
theorem aGf (n : Nat) (f : FuncId) (args : List DV) : SimP true (jX n f args) (jX n f args):=by
 rw [zG]
 exact aMd (I:=itm) (q:=rgB) (gg:=true) (P:=Tryz.prog) (I2:=CF.I) (I1:=CF.I) 0 (fun g h=>h) (fun g F hg n args=>by
  have : cA ⟨Tryz.prog,CF.I⟩ (fU ⟨Tryz.prog,CF.I⟩ (n + 0)) g args = F args:=by
   funext h
   unfold cA
   rw [show (⟨Tryz.prog,CF.I⟩ : Cfg).I g = some F from hg]
  rw [this]
  exact aVc g F hg args) n f args
theorem bTc (n : Nat) (g : FuncId) (args : List DV) : SimP true (cA CF (jX n) g args) (cA CF (jX n) g args):=by
 unfold cA
 cases hg : CF.I g with
 | none=>exact aGf n g args
 | some F=>exact aVc g F hg args
end Go.Dd

namespace Go.Dd
open Go.Proofs
abbrev K4T:=DV → DV → DV → DV → Hp → aH
abbrev R9 : RT:=jX 899
def XL : Nat → K:=xs x0 7 (fun env h=>fO R9 899 (env 5) h)
def krN : K:=bE CF Tryz.f11
def cCz : Code:=cL (cL (cR (cL (cR (cR (cR (cR (cR (cR (cf Tryz.f11))))))))))
def kb (kk : K4T) : K:=fun env h=>kk (env 5) (env 155) (env 156) (env 157) h
def aUo (a b c d : DV) : aZ:=fun t=>bif Nat.beq t 5 then a else bif Nat.beq t 155 then b else bif Nat.beq t 156 then c else bif Nat.beq t 157 then d else .u
theorem aIr (kk : K4T) (a b c d : DV) (h : Hp) : lO R9 899 kk a b c d h = aW CF R9 179 899 cCz XL krN (kb kk) (aUo a b c d) h :=
 (congrFun (congrFun (bJp R9 899 kk) (aUo a b c d)) h).symm
theorem aXa (e : aZ) (h : Hp) : krN e h = some (.t [e 2,e 3],h):=by kernel_rfl
def eZe (r : aH) : Prop:=∃ a b c d h,r = some (.t [a,b,c,d],h)
theorem cJd (a b c d : DV) (h : Hp) : (∃ a' b' c' d' h',∀ kk : K4T,lO R9 899 kk a b c d h = kk a' b' c' d' h') ∨ (∃ r,¬ eZe r ∧ ∀ kk : K4T,lO R9 899 kk a b c d h = r):=by
 obtain ⟨O,hO⟩:=aVm (C:=CF) (rec:=R9) (nt:=179) 899 cCz
 have key : ∀ kk : K4T,lO R9 899 kk a b c d h = fCa (O (aUo a b c d) h) XL krN (kb kk):=fun kk=>(aIr kk a b c d h).trans (hO _ _ _ _ _)
 cases ho : O (aUo a b c d) h with
 | none=>exact .inr ⟨none,(by rintro ⟨_,_,_,_,_,e⟩; cases e),fun kk=>by rw [key kk,ho]; rfl⟩
 | some o =>
  cases o with
  | n e h'=>exact .inl ⟨e 5,e 155,e 156,e 157,h',fun kk=>by rw [key kk,ho]; rfl⟩
  | r e h'=>exact .inr ⟨some (.t [e 2,e 3],h'),(by rintro ⟨_,_,_,_,_,q⟩; cases q),fun kk=>by rw [key kk,ho]; exact aXa e h'⟩
  | x i e h' =>
   refine .inr ⟨XL i e h', ?_,fun kk=>by rw [key kk,ho]; rfl⟩
   rintro ⟨_,_,_,_,_,q⟩
   unfold XL xs at q
   cases hi : Nat.beq i 7 with
   | true=>rw [hi] at q; cases q
   | false=>rw [hi] at q; cases q
theorem aDd (n : Nat) (kk : K4T) : itN (n + 1) kk = lO R9 899 (itN n kk):=rfl
theorem cDb : ∀ (n : Nat) (a b c d : DV) (h : Hp) (a' b' c' d' : DV) (h' : Hp),itN n cBb a b c d h = some (.t [a',b',c',d'],h') → ∀ kk : K4T,itN n kk a b c d h = kk a' b' c' d' h'
 | 0,a,b,c,d,h,a',b',c',d',h',e,kk=>by
  have e' : (some (.t [a,b,c,d],h) : aH) = some (.t [a',b',c',d'],h'):=e
  simp only [bB,bN,DV.t.injEq,List.cons.injEq,and_true] at e'
  obtain ⟨⟨rfl,rfl,rfl,rfl⟩,rfl⟩:=e'
  rfl
 | n + 1,a,b,c,d,h,a',b',c',d',h',e,kk=>by
  rw [aDd] at e ⊢
  rcases cJd a b c d h with ⟨a1,b1,c1,d1,h1,hs⟩ | ⟨r,hr,hs⟩
  ·rw [hs] at e ⊢
   exact cDb n a1 b1 c1 d1 h1 a' b' c' d' h' e kk
  ·rw [hs] at e
   exact absurd ⟨_,_,_,_,_,e⟩ hr
theorem cKp (kk : K4T) (hk : ∀ a b c d,SimP true (kk a b c d) (kk a b c d)) : ∀ (n : Nat) (a b c d : DV),SimP true (itN n kk a b c d) (itN n kk a b c d)
 | 0,a,b,c,d=>hk a b c d
 | n + 1,a,b,c,d=>by
  have ih:=cKp kk hk n
  rw [aDd]
  have hX : ∀ j,SimK true (XL j) (XL j):=by
   intro j env h h' S
   unfold XL xs
   cases Nat.beq j 7 with
   | true=>exact SimR.some S _
   | false=>exact SimR.none _
  have hR : SimK true krN krN:=fun env h h' S=>by rw [aXa,aXa]; exact SimR.some S _
  have hK : SimK true (kb (itN n kk)) (kb (itN n kk)):=fun env=>ih _ _ _ _
  have hc:=fP (gg:=true) (P:=Tryz.prog) (I2:=CF.I) (I1:=CF.I) (rec2:=R9) (rec1:=R9) (fun g args=>bTc 899 g args) 179 899 0 cCz XL XL krN krN (kb (itN n kk)) (kb (itN n kk)) hX hR hK (aUo a b c d)
  intro h h' S
  rw [aIr,aIr]
  exact hc h h' S
theorem aDz (m : Nat) : ∀ n,lH R9 899 (m + n) = itN n (lH R9 899 m)
 | 0=>rfl
 | n + 1=>by
  rw [aDd,← aDz m n]
  rfl
theorem kS {k n nx nx' : Nat} {L L' : List (Pos × Ob)} (hc : mT (pB k n (iM nx L)) (lW (k + n)) nx' L' = true) (m : Nat) {h : Hp} (S : Sim true (iM nx L) h) :
  ∃ h',Sim true (iM nx' L') h' ∧ lH R9 899 (m + n) (.p (aL 7) 0) (.l (aL 431) 0 75 75) (.i .i64 (.ofNat 75)) (.i .i64 (.ofNat k)) h =
   lH R9 899 m (.p (aL 7) 0) (.l (aL 431) 0 75 75) (.i .i64 (.ofNat 75)) (.i .i64 (.ofNat (k + n))) h':=by
 obtain ⟨g,e1,e2⟩:=bGx hc
 obtain ⟨g',f1,f2⟩:=cKp cBb (fun a b c d h h' S=>SimR.some S _) n _ _ _ _ (iM nx L) h S _ _ e1
 refine ⟨g',e2.trans f2, ?_⟩
 rw [aDz]
 exact cDb n _ _ _ _ _ _ _ _ _ _ f1 _
theorem bVg (k : K) : aW CF R9 179 899 (cf Tryz.f11) x0 krN k = aW CF R9 179 899 dOb x0 krN (aW CF R9 179 899 cOo x0 krN (aW CF R9 179 899 eSs x0 krN k)):=by kernel_rfl
theorem eHw : aW CF R9 179 899 eSs x0 krN krN = fun env h=>fO R9 899 (env 5) h:=cTl R9 899
theorem dMr : aW CF R9 179 899 cOo x0 krN (fun env h=>fO R9 899 (env 5) h) = fun env h=>bOp R9 899 (env 5) (env 155) (env 156) (env 157) h :=
 (by kernel_rfl : aW CF R9 179 899 cOo x0 krN (fun env h=>fO R9 899 (env 5) h) = D11 R9 899 (cL (cR (cL (cR (cR (cR (cR (cR (cR (cf Tryz.f11)))))))))) (xs x0 7 (fun (env : aZ) (h : Hp)=>fO R9 899 (env 5) h)) (fun (env : aZ) (h : Hp)=>fO R9 899 (env 5) h)).trans (cOl R9 899)
theorem eFo (x : DV) (h : Hp) : aI CF R9 899 11 [x] h = aW CF R9 179 899 (cf Tryz.f11) x0 krN krN (aQ [x]) h:=by kernel_rfl
theorem dBg : ∃ e h',Sim true (iM 432 (oW 30000 553 84 18 [1076,1096,6,24,42,60,78,96,114,132,150,168,186,204,222,240,258,276] [(10,0),(19,0),(46,0),(55,0),(64,0),(91,0),(100,0),(109,0),(118,0),(127,0),(145,0)] 0)) h' ∧ e 5 = .p (aL 7) 0 ∧ e 155 = .l (aL 431) 0 75 75 ∧ e 156 = .i .i64 (.ofNat 75) ∧ e 157 = .i .i64 (.ofNat 0) ∧
  ∀ X kr k,aW CF R9 179 899 dOb X kr k (aQ [.i .i64 (.ofNat 30000)]) hS = k e h':=by
 obtain ⟨O,hO⟩:=aVm (C:=CF) (rec:=R9) (nt:=179) 899 dOb
 obtain ⟨g,e1,e2⟩:=bGx he0
 have e1' : fCa (O (aQ [.i .i64 (.ofNat 30000)]) hS) (fun _ _ _=>none) (fun _ _=>none) eNf = some (.t (lW 0),g):=(hO _ _ _ _ _).symm.trans e1
 cases ho : O (aQ [.i .i64 (.ofNat 30000)]) hS with
 | none=>rw [ho] at e1'; cases e1'
 | some o =>
  rw [ho] at e1'
  cases o with
  | x i e h'=>cases e1'
  | r e h'=>cases e1'
  | n e h' =>
   have q : (some (.t [e 5,e 155,e 156,e 157],h') : aH) = some (.t (lW 0),g):=e1'
   simp only [lW,bB,bN,DV.t.injEq,List.cons.injEq,and_true] at q
   obtain ⟨⟨q1,q2,q3,q4⟩,q5⟩:=q
   exact ⟨e,h',by rw [q5]; exact e2,q1,q2,q3,q4,fun X kr k=>by rw [hO,ho]; rfl⟩
theorem dXh : ∃ g,jX 900 11 [.i .i64 (.ofNat 30000)] hS = some (.t [.p (aL 7) 0,.i .i64 (.ofNat 0)],g) ∧ Sim true (iM 26855 (oW 30000 4321 583 80 [8370,1096,6,24,42,60,78,96,114,132,150,168,186,204,222,240,258,276] [] 75)) g:=by
 obtain ⟨e,h0,S0,p1,p2,p3,p4,hpre⟩:=dBg
 obtain ⟨h1,S1,c1⟩:=kS hc0 894 S0
 obtain ⟨h2,S2,c2⟩:=kS hc5 889 S1
 obtain ⟨h3,S3,c3⟩:=kS eZv 884 S2
 obtain ⟨h4,S4,c4⟩:=kS eWw 879 S3
 obtain ⟨h5,S5,c5⟩:=kS eYm 874 S4
 obtain ⟨h6,S6,c6⟩:=kS eXm 869 S5
 obtain ⟨h7,S7,c7⟩:=kS eVs 864 S6
 obtain ⟨h8,S8,c8⟩:=kS eXh 859 S7
 obtain ⟨h9,S9,c9⟩:=kS eZc 854 S8
 obtain ⟨h10,S10,c10⟩:=kS eYd 849 S9
 obtain ⟨h11,S11,c11⟩:=kS eVe 844 S10
 obtain ⟨h12,S12,c12⟩:=kS eXg 839 S11
 obtain ⟨h13,S13,c13⟩:=kS eVw 834 S12
 obtain ⟨h14,S14,c14⟩:=kS eVf 829 S13
 obtain ⟨h15,S15,c15⟩:=kS eWo 824 S14
 refine ⟨h15, ?_,S15⟩
 have e0 : jX 900 11 [.i .i64 (.ofNat 30000)] hS = aI CF R9 899 11 [.i .i64 (.ofNat 30000)] hS:=aDi 11 rfl 899 _ _
 rw [e0,eFo,bVg,eHw,dMr,hpre]
 show bOp R9 899 (e 5) (e 155) (e 156) (e 157) h0 = _
 rw [p1,p2,p3,p4]
 show lH R9 899 899 _ _ _ _ h0 = _
 refine c1.trans ?_
 refine c2.trans ?_
 refine c3.trans ?_
 refine c4.trans ?_
 refine c5.trans ?_
 refine c6.trans ?_
 refine c7.trans ?_
 refine c8.trans ?_
 refine c9.trans ?_
 refine c10.trans ?_
 refine c11.trans ?_
 refine c12.trans ?_
 refine c13.trans ?_
 refine c14.trans ?_
 refine c15.trans ?_
 rw [show (824 : Nat) = 823 + 1 from rfl]
 show lO R9 899 (lH R9 899 823) _ _ _ _ h15 = _
 unfold lO
 have hl : decide (Int.ofNat 75 < Int.ofNat 75) = false:=rfl
 simp only [jC,bP,hl,eF]
 rfl
end Go.Dd

namespace Go.Dd
open Go.Proofs
def HLN : List (Pos × Ob):=oW 30000 4321 583 80 [8370,1096,6,24,42,60,78,96,114,132,150,168,186,204,222,240,258,276] [] 75
def hN : Hp:=iM 26855 HLN
def iB (l : List (Pos × Ob)) (t : Tr Ob) : Tr Ob:=List.rec (motive:=fun _=>Tr Ob) t (fun x _ ih=>Tr.set x.2 x.1 ih) l
def bDd (p : List DV → Bool) (v0 : DV) (nx0 : Nat) (HL : List (Pos × Ob)) (args : List DV) (h : Hp) : aH :=
 bif p args && kC h.next (aL 1) then some (v0,⟨aL nx0,iB HL h.bl⟩) else none
def bIj (args : List DV) : Bool:=match args with
 | [.i .i64 (.ofNat m)]=>Nat.beq m 30000
 | _=>false
def dMc : List DV → Hp → aH:=bDd bIj (.t [.p (aL 7) 0,.i .i64 (.ofNat 0)]) 26855 HLN
def bUb (n : Nat) : RT:=fun g args h=>bif Nat.beq g 11 then dMc args h else jX n g args h
end Go.Dd

namespace Go.Dd
open Go.Proofs
theorem shS (f : FuncId) (hf : rgB f = false) (n : Nat) (args : List DV) (h : Hp) : jX (n + 1) f args h = aI CF (jX n) n f args h:=aDi f hf n args h
theorem fld (b : Pos) (o k : Nat) (h : Hp) : aB k (.p b o) h = some (.p b (o + k),h):=Eq.trans rfl rfl
section
end
end Go.Dd

namespace Go.Dd
open Go.Proofs
section
end
end Go.Dd

namespace Go.Dd
open Go.Proofs
section
end
end Go.Dd

namespace Go.Dd
open Go.Proofs
section
end
end Go.Dd

namespace Go.Dd
open Go.Proofs
end Go.Dd

namespace Go.Dd
open Go.Proofs
theorem rg0 (rec : FuncId → List DV → Hp → aH) (k : K) (env : aZ) (h : Hp) : fY CF0 rec 49 (dE (cL (cf Tryz.f285))) (dE (cL (cf Tryz.f285))).toList k env h = (
 bnd (bZ (env 1) h) fun v1 h1 =>
 k (bJ (bJ env (some 3) v1) (some 4) (.i .i64 (Int.ofNat 0))) h1):=by kernel_rfl
theorem rg1 (rec : FuncId → List DV → Hp → aH) (k : K) (env : aZ) (h : Hp) : fY CF0 rec 49 (dE (cL (cR (cf Tryz.f285)))) (dE (cL (cR (cf Tryz.f285)))).toList k env h = (
 bnd (aV (env 0) h) fun v1 h1 =>
 bnd (aB 0 v1 h1) fun v2 h2 =>
 bnd (aB 4 v2 h2) fun v3 h3 =>
 bnd (aA v3 h3) fun v4 h4 =>
 bnd (rec 251 [v4,(.f 337 [] [(env 3)])] h4) fun v5 h5 =>
 k (bJ (bJ (bJ (bJ (bJ (bJ (bJ (bJ env (some 6) (env 0)) (some 7) v1) (some 8) v2) (some 9) v3) (some 10) v4) (some 11) (.f 337 [] [(env 3)])) (some 12) v5) (some 5) v5) h5):=by kernel_rfl
theorem rg2 (rec : FuncId → List DV → Hp → aH) (k : K) (env : aZ) (h : Hp) : fY CF0 rec 49 (dE (cL (cL (cR (cR (cf Tryz.f285)))))) (dE (cL (cL (cR (cR (cf Tryz.f285)))))).toList k env h = (
 bnd (aC .lss (env 5) (.i .i64 (Int.ofNat 0)) h) fun v1 h1 =>
 k (bJ (bJ env (some 13) (env 5)) (some 14) v1) h1):=by kernel_rfl
theorem rg3 (rec : FuncId → List DV → Hp → aH) (k : K) (env : aZ) (h : Hp) : fY CF0 rec 49 (dE (cL (cL (cR (cL (cR (cR (cf Tryz.f285)))))))) (dE (cL (cL (cR (cL (cR (cR (cf Tryz.f285)))))))).toList k env h = (
 bnd (aV (env 0) h) fun v1 h1 =>
 bnd (aB 0 v1 h1) fun v2 h2 =>
 bnd (aB 4 v2 h2) fun v3 h3 =>
 bnd (aA v3 h3) fun v4 h4 =>
 bnd (bM v4 h4) fun v5 h5 =>
 k (bJ (bJ (bJ (bJ (bJ (bJ (bJ env (some 15) (env 0)) (some 16) v1) (some 17) v2) (some 18) v3) (some 19) v4) (some 20) v5) (some 5) v5) h5):=by kernel_rfl
theorem rg5 (rec : FuncId → List DV → Hp → aH) (k : K) (env : aZ) (h : Hp) : fY CF0 rec 49 (dE (cL (cL (cR (cR (cL (cR (cL (cR (cR (cf Tryz.f285))))))))))) (dE (cL (cL (cR (cR (cL (cR (cL (cR (cR (cf Tryz.f285))))))))))).toList k env h = (
 bnd (aV (env 0) h) fun v1 h1 =>
 bnd (aB 0 v1 h1) fun v2 h2 =>
 bnd (aB 4 v2 h2) fun v3 h3 =>
 bnd (aA v3 h3) fun v4 h4 =>
 bnd (bM v4 h4) fun v5 h5 =>
 bnd (aS [(.i .i64 (Int.ofNat 0)),(.s []),(.i .i64 (Int.ofNat 0)),.l0] 1 [(0,4,(.a [(.i .i64 (Int.ofNat 0)),(.s []),(.i .i64 (Int.ofNat 0)),.l0]))] h5) fun v6 h6 =>
 bnd (bH 4 56 v4 v6 h6) fun v7 h7 =>
 bnd (aV (env 0) h7) fun v8 h8 =>
 bnd (aB 0 v8 h8) fun v9 h9 =>
 bnd (aB 4 v9 h9) fun v10 h10 =>
 bnd (aJ 1 v10 v7 h10) fun _ h11 =>
 k (bJ (bJ (bJ (bJ (bJ (bJ (bJ (bJ (bJ (bJ (bJ env (some 23) (env 0)) (some 24) v1) (some 25) v2) (some 26) v3) (some 27) v4) (some 28) v5) (some 29) v6) (some 30) v7) (some 31) v8) (some 32) v9) (some 33) v10) h11):=by kernel_rfl
theorem rg6 (rec : FuncId → List DV → Hp → aH) (k : K) (env : aZ) (h : Hp) : fY CF0 rec 49 (dE (cR (cL (cR (cR (cL (cR (cL (cR (cR (cf Tryz.f285))))))))))) (dE (cR (cL (cR (cR (cL (cR (cL (cR (cR (cf Tryz.f285))))))))))).toList k env h = (
 bnd (aK 4 (env 3) h) fun v1 h1 =>
 bnd (aG 4 (env 30) (env 28) h1) fun v2 h2 =>
 bnd (aJ 4 v2 v1 h2) fun _ h3 =>
 k (bJ (bJ env (some 34) v1) (some 35) v2) h3):=by kernel_rfl
theorem rg7 (rec : FuncId → List DV → Hp → aH) (k : K) (env : aZ) (h : Hp) : iR CF0 rec 49 (dE (cR (cR (cR (cL (cR (cL (cR (cR (cf Tryz.f285)))))))))) k env h = (
 bnd (aV (env 0) (resv 1 h)) fun v1 h1 =>
 bnd (aB 0 v1 h1) fun v2 h2 =>
 bnd (aB 4 v2 h2) fun v3 h3 =>
 bnd (aA v3 h3) fun v4 h4 =>
 bnd (aK 4 (env 3) h4) fun v5 h5 =>
 bnd (bL (bX 0 h.next) [(.i .i64 (Int.ofNat 0)),(.s []),(.i .i64 (Int.ofNat 0)),.l0] 1 [(0,4,v5)] h5) fun v6 h6 =>
 bnd (bH 4 56 v4 v6 h6) fun v7 h7 =>
 bnd (aV (env 0) h7) fun v8 h8 =>
 bnd (aB 0 v8 h8) fun v9 h9 =>
 bnd (aB 4 v9 h9) fun v10 h10 =>
 bnd (aJ 1 v10 v7 h10) fun v11 h11 =>
 k (bJ (bJ (bJ (bJ (bJ (bJ (bJ (bJ (bJ (bJ (bJ (bJ env (some 36) (env 0)) (some 37) (env 0)) (some 38) v1) (some 39) v2) (some 40) v3) (some 41) v4) (some 42) v5) (some 43) v6) (some 44) v7) (some 45) v8) (some 46) v9) (some 47) v10) h11):=by kernel_rfl
theorem rg8 (rec : FuncId → List DV → Hp → aH) (k : K) (env : aZ) (h : Hp) : fY CF0 rec 49 (dE (cL (cR (cR (cR (cf Tryz.f285)))))) (dE (cL (cR (cR (cR (cf Tryz.f285)))))).toList k env h = (
 k (bJ (bJ env (some 48) (env 5)) (some 4) (env 5)) h):=by kernel_rfl
end Go.Dd

namespace Go.Dd
open Go.Proofs
theorem HR.sub {G : Gd} {ρ : Ren} {h h' : Hp} {w : World} (S : Sim true h h') (H : HR G ρ h' w) : HR G ρ h w:=by
 have hg : ∀ b o,h.bl.get b = some o → h'.bl.get b = some o:=fun b o hb=>by
  obtain ⟨o',h1,h2⟩:=S.get b o hb
  rw [h1,lE h2]
 have hc : ∀ b a,Claims ρ h b a → Claims ρ h' b a:=fun b a ⟨k,l,L,h1,h2,h3⟩=>⟨k,l,L,hg _ _ h1,h2,h3⟩
 have hro : ∀ b a,Claims ρ h b a → ¬ isRo h b → ¬ isRo h' b:=fun b a ⟨k,l,L,h1,h2,h3⟩ hn ⟨l',hl⟩=>by
  rw [hg _ _ h1] at hl
  simp only [bB,Ob.row.injEq] at hl
  exact hn ⟨l,by rw [h1,hl.1]⟩
 exact ⟨H.gl,H.sz,by rw [← S.next]; exact H.nx,fun b a h1 ⟨l,h2⟩=>H.ro b a (hc b a h1) ⟨l,hg _ _ h2⟩,fun b o hb=>H.dom b o (hg b o hb),fun b L hb=>by rw [← S.next]; exact H.lt b L hb,
  fun b k l L i v h1=>H.cell b k l L i v (hg _ _ h1),fun b l L es j h1=>H.spare b l L es j (hg _ _ h1),fun b a h1 h2=>H.free b a (hc b a h1) (hro b a h1 h2),
  fun b b' a h1 h2 h3=>H.inj b b' a (hc b a h1) (hc b' a h2) (hro b a h1 h3),
  fun b l L h1=>H.ex b l L (h1.elim (fun q=>.inl (hg _ _ q)) (fun q=>.inr (hg _ _ q))),fun b es l i v h1=>H.grone b es l i v (hg _ _ h1),
  fun b o L h1 h2=>H.itr b o L h1 (hg _ _ h2),fun b o b' o' L L' h1 h2 h3 h4=>H.itj b o b' o' L L' h1 h2 (hg _ _ h3) (hg _ _ h4)⟩
theorem uK : ∀ p : Pos,kC p p = true
 | .h=>rfl
 | .o p=>uK p
 | .i p=>uK p
theorem aNo {p q : Pos} (h : kC p q = false) : p ≠ q:=fun e=>by subst e; rw [uK] at h; cases h
open Classical in
def kk (N : aZ → Hp → Prop) : K:=fun env h=>if N env h then some (aT,h) else none
theorem nR {N : aZ → Hp → Prop} {env : aZ} {h : Hp} (hn : N env h) : ∃ r,kk N env h = some r:=⟨_,if_pos hn⟩
theorem dSm {N : aZ → Hp → Prop} {env : aZ} {h : Hp} {r} (hn : kk N env h = some r) : N env h:=by
 unfold kk at hn
 split at hn
 ·assumption
 ·cases hn
section
variable {C : Cfg} {rec : FuncId → List DV → Hp → aH} {nt : Nat} {X : Nat → aZ → Hp → Prop} {R N : aZ → Hp → Prop} {env : aZ} {h : Hp}
theorem wpS {a b : Code} (H : qR C rec nt a X R (qR C rec nt b X R N) env h) : qR C rec nt (.seq a b) X R N env h:=H
theorem aEm {id : Nat} {ops : Array Oper} (H : ∃ r,fY C rec nt ops ops.toList (kk fun e h=>lC h → N e h) env h = some r) : qR C rec nt (.region id ops false) X R N env h:=by
 obtain ⟨r,hr⟩:=H
 obtain ⟨env',h',h1,h2⟩:=nL _ _ _ _ _ hr
 simp only [qR,Bool.false_eq_true,if_false]
 exact ⟨env',h',h1,dSm h2⟩
theorem eVj {id : Nat} {ops : Array Oper} (hd : eV C.P ops = true) (H : ∃ r,iR C rec nt ops (kk fun e h=>lC h → N e h) env h = some r) : qR C rec nt (.region id ops true) X R N env h:=by
 obtain ⟨r,hr⟩:=H
 simp only [qR,if_true]
 exact .inr ⟨hd,_,r,hr,fun env' h' h1 h2=>dSm h1 h2⟩
theorem eKi {id : Nat} {ops : Array Oper} (H : dC C rec nt ops (fun e h=>lC h → N e h) ops.size (Array.replicate ops.size false) env h) : qR C rec nt (.region id ops true) X R N env h:=by
 simp only [qR,if_true]
 exact .inl H
theorem wpC {c : Operand} {a b : Code} {t : Bool} (hc : opr env c = .b t) (H : (t = true → qR C rec nt a X R N env h) ∧ (t = false → qR C rec nt b X R N env h)) : qR C rec nt (.cond c a b) X R N env h:=by
 cases t with
 | true=>exact .inl ⟨hc,H.1 rfl⟩
 | false=>exact .inr ⟨hc,H.2 rfl⟩
end
def eWh : Code:=cL (cR (cL (cR (cL (cR (cR (cf Tryz.f285)))))))
def R4 : Array Oper:=dE eWh
theorem eLp : cf Tryz.f285 = .seq (.region 0 (dE (cL (cf Tryz.f285))) false) (.seq (.region 1 (dE (cL (cR (cf Tryz.f285)))) false) (.seq (.seq (.region 2 (dE (cL (cL (cR (cR (cf Tryz.f285)))))) false)
 (.cond (.tmp 14) (.seq (.region 3 (dE (cL (cL (cR (cL (cR (cR (cf Tryz.f285)))))))) false) (.seq (.region 4 R4 true) (.cond (.tmp 22)
  (.seq (.region 5 (dE (cL (cL (cR (cR (cL (cR (cL (cR (cR (cf Tryz.f285))))))))))) false) (.region 6 (dE (cR (cL (cR (cR (cL (cR (cL (cR (cR (cf Tryz.f285))))))))))) false))
  (.region 7 (dE (cR (cR (cR (cL (cR (cL (cR (cR (cf Tryz.f285)))))))))) true)))) .skip)) (.seq (.region 8 (dE (cL (cR (cR (cR (cf Tryz.f285)))))) false) .ret))):=by kernel_rfl
def o4 (i : Nat) : Oper:=(R4.toList[i]?).getD (Oper.mk none (.move (.tmp 0)) 0 "" #[] none)
theorem eZj : R4[0]? = some (o4 0):=by kernel_rfl
theorem eOv : R4[1]? = some (o4 1):=by kernel_rfl
theorem eRl : R4[2]? = some (o4 2):=by kernel_rfl
theorem fAi : R4[3]? = some (o4 3):=by kernel_rfl
theorem eZk (rec : FuncId → List DV → Hp → aH) (env : aZ) (h : Hp) : bA CF0 rec R4 (o4 0) env h = bQ [.b false] h:=by kernel_rfl
theorem eKf (rec : FuncId → List DV → Hp → aH) (env : aZ) (h : Hp) : bA CF0 rec R4 (o4 1) env h = aJ 1 (env 21) (.b true) h:=by kernel_rfl
theorem ePp (rec : FuncId → List DV → Hp → aH) (env : aZ) (h : Hp) : bA CF0 rec R4 (o4 2) env h = aJ 1 (env 21) (.b false) h:=by kernel_rfl
theorem eWd (rec : FuncId → List DV → Hp → aH) (env : aZ) (h : Hp) : bA CF0 rec R4 (o4 3) env h = aA (env 21) h:=by kernel_rfl
theorem eOf : (o4 0).dst = some 21:=by kernel_rfl
theorem cYh : (o4 1).dst = none:=by kernel_rfl
theorem cZx : (o4 2).dst = none:=by kernel_rfl
theorem eRq : (o4 3).dst = some 22:=by kernel_rfl
theorem z4 : Array.replicate R4.size false = #[false,false,false,false]:=by kernel_rfl
theorem y4 : R4.size = 4:=by kernel_rfl
theorem eXc : Region.ready .any R4 #[false,false,false,false] = [0]:=by kernel_rfl
theorem eNy : Region.ready .any R4 #[true,false,false,false] = [1,2]:=by kernel_rfl
theorem eVh : Region.ready .any R4 #[true,true,false,false] = [2]:=by kernel_rfl
theorem eXq : Region.ready .any R4 #[true,false,true,false] = [1]:=by kernel_rfl
theorem eXt : Region.ready .any R4 #[true,true,true,false] = [3]:=by kernel_rfl
theorem eVm : Region.ready .any R4 #[true,true,true,true] = []:=by kernel_rfl
theorem fAe : (#[false,false,false,false] : Array Bool).setIfInBounds 0 true = #[true,false,false,false]:=by kernel_rfl
theorem eVn : (#[true,false,false,false] : Array Bool).setIfInBounds 1 true = #[true,true,false,false]:=by kernel_rfl
theorem eYa : (#[true,false,false,false] : Array Bool).setIfInBounds 2 true = #[true,false,true,false]:=by kernel_rfl
theorem eZo : (#[true,true,false,false] : Array Bool).setIfInBounds 2 true = #[true,true,true,false]:=by kernel_rfl
theorem fAr : (#[true,false,true,false] : Array Bool).setIfInBounds 1 true = #[true,true,true,false]:=by kernel_rfl
theorem eZf : (#[true,true,true,false] : Array Bool).setIfInBounds 3 true = #[true,true,true,true]:=by kernel_rfl
theorem dDy {C : Cfg} {rec : FuncId → List DV → Hp → aH} {nt f i : Nat} {ops : Array Oper} {bS : aZ → Hp → Prop} {listed l' : Array Bool} {env : aZ} {h h' : Hp} {o : Oper} {v : DV} (hr : Region.ready .any ops listed = [i])
  (ho : ops[i]? = some o) (hf : cX nt o.dst = true) (hs : bA C rec ops o env h = some (v,h')) (hl : listed.setIfInBounds i true = l') (hn : dC C rec nt ops bS f l' (bJ env o.dst v) h') : dC C rec nt ops bS (f + 1) listed env h:=by
 refine ⟨fun e => ?_,fun j hj => ?_⟩
 ·rw [hr] at e; cases e
 ·rw [hr] at hj
  simp only [List.mem_singleton] at hj
  subst hj
  exact ⟨o,v,h',ho,hf,hs,by rw [hl]; exact hn⟩
structure After (h h' : Hp) : Prop where
 next : h'.next = h.next.succ
 get : ∀ b,b ≠ h.next → h'.bl.get b = h.bl.get b
theorem eZs {rec : FuncId → List DV → Hp → aH} {bS : aZ → Hp → Prop} {env : aZ} {h : Hp} (H : ∀ x h',After h h' → bS (bJ (bJ env (some 21) (.p h.next 0)) (some 22) (.b x)) h') :
  dC CF0 rec 49 R4 bS R4.size (Array.replicate R4.size false) env h:=by
 rw [z4,y4]
 have st : ∀ (n : Pos) (bl : Tr Ob) (x y : Bool),bl.get h.next = some (.row .ex [.b y]) → aJ 1 (.p h.next 0) (.b x) ⟨n,bl⟩ = some (aT,⟨n,Tr.set (.row .ex [.b x]) h.next bl⟩):=fun n bl x y e=>by
  simp only [eM,dJ,cW,putQ_eq,e,Kind.writable,List.length_singleton,if_true,fR,oK,DV.one,Bool.and_self,Option.map_some]
 have ld : ∀ (n : Pos) (bl : Tr Ob) (x : Bool),bl.get h.next = some (.row .ex [.b x]) → aA (.p h.next 0) ⟨n,bl⟩ = some (.b x,⟨n,bl⟩):=fun n bl x e=>by
  simp only [cO,dD,nthD_eq,cQ,e,List.getElem?_cons_zero,DV.one,if_true]
 have g0 : ∀ (t : Tr Ob) (x : Bool),(Tr.set (.row .ex [.b x]) h.next t).get h.next = some (.row .ex [.b x]):=fun t x=>fAx _ _ _
 have go : ∀ (t : Tr Ob) (x : Bool) (b : Pos),b ≠ h.next → (Tr.set (.row .ex [.b x]) h.next t).get b = t.get b:=fun t x b e=>fAw _ _ _ _ e
 have fin : ∀ (t : Tr Ob) (x : Bool),(∀ b,b ≠ h.next → t.get b = h.bl.get b) → t.get h.next = some (.row .ex [.b x]) →
   dC CF0 rec 49 R4 bS 1 #[true,true,true,false] (bJ env (some 21) (.p h.next 0)) ⟨h.next.succ,t⟩:=fun t x e1 e2=>by
  refine dDy eXt fAi (by rw [eRq]; rfl) ((eWd _ _ _).trans (ld _ _ x e2)) eZf ?_
  rw [eRq]
  exact ⟨eVm,H x _ ⟨rfl,e1⟩⟩
 refine dDy eXc eZj (by rw [eOf]; rfl) (eZk _ _ _) fAe ?_
 rw [eOf]
 refine ⟨fun e=>(by rw [eNy] at e; cases e),fun j hj => ?_⟩
 rw [eNy] at hj
 simp only [List.mem_cons,List.not_mem_nil,or_false] at hj
 rcases hj with rfl | rfl
 ·refine ⟨_,_,_,eOv,by rw [cYh]; rfl,(eKf _ _ _).trans (st _ _ true false (g0 _ _)), ?_⟩
  rw [eVn,cYh]
  refine dDy eVh eRl (by rw [cZx]; rfl) ((ePp _ _ _).trans (st _ _ false true (g0 _ _))) eZo ?_
  rw [cZx]
  exact fin _ false (fun b e=>by rw [go _ _ _ e,go _ _ _ e,go _ _ _ e]) (g0 _ _)
 ·refine ⟨_,_,_,eRl,by rw [cZx]; rfl,(ePp _ _ _).trans (st _ _ false false (g0 _ _)), ?_⟩
  rw [eYa,cZx]
  refine dDy eXq eOv (by rw [cYh]; rfl) ((eKf _ _ _).trans (st _ _ true false (g0 _ _))) fAr ?_
  rw [cYh]
  exact fin _ true (fun b e=>by rw [go _ _ _ e,go _ _ _ e,go _ _ _ e]) (g0 _ _)
end Go.Dd

namespace Go.Dd
open Go.Proofs
theorem aTs {h h' g : Hp} {x v : DV} (hg : ∀ b o,h.bl.get b = some o → h'.bl.get b = some o) (e : aA x h = some (v,g)) : aA x h' = some (v,h'):=by
 have S : Sim true ⟨h'.next,h.bl⟩ h':=⟨rfl,fun b o hb=>⟨o,hg b o hb,kV o⟩⟩
 have e' : aA x ⟨h'.next,h.bl⟩ = some (v,⟨h'.next,h.bl⟩):=by
  rw [cO] at e ⊢
  split at e <;> (try (cases e; done))
  rename_i b o
  change (match cellD b o ⟨h'.next,h.bl⟩ with
   | some v=>some (v,(⟨h'.next,h.bl⟩ : Hp))
   | none=>none) = _
  change (match cellD b o ⟨h'.next,h.bl⟩ with
   | some v=>some (v,h)
   | none=>none) = _ at e
  split at e <;> (try (cases e; done))
  rename_i u hu
  simp only [bB,bN] at e
  rw [e.1]
 obtain ⟨k,e1,e2⟩:=iY x _ _ S v _ e'
 obtain ⟨rfl,_⟩:=(show k = h' ∧ True by
  rw [cO] at e1
  split at e1 <;> (try (cases e1; done))
  split at e1 <;> (try (cases e1; done))
  simp only [bB,bN] at e1
  exact ⟨e1.2.symm,trivial⟩)
 exact e1
theorem aTm {h h' g : Hp} {n : Nat} {x v : DV} (hg : ∀ b o,h.bl.get b = some o → h'.bl.get b = some o) (e : aK n x h = some (v,g)) : aK n x h' = some (v,h'):=by
 have S : Sim true ⟨h'.next,h.bl⟩ h':=⟨rfl,fun b o hb=>⟨o,hg b o hb,kV o⟩⟩
 have e' : aK n x ⟨h'.next,h.bl⟩ = some (v,⟨h'.next,h.bl⟩):=by
  rw [eH] at e ⊢
  split at e <;> (try (cases e; done))
  rename_i b o
  change (match cellsAt b o n ⟨h'.next,h.bl⟩ with
   | some v=>some (DV.a v,(⟨h'.next,h.bl⟩ : Hp))
   | none=>none) = _
  change (match cellsAt b o n ⟨h'.next,h.bl⟩ with
   | some v=>some (DV.a v,h)
   | none=>none) = _ at e
  split at e <;> (try (cases e; done))
  rename_i u hu
  simp only [bB,bN] at e
  rw [← e.1]
 obtain ⟨k,e1,e2⟩:=jB n x _ _ S v _ e'
 obtain ⟨rfl,_⟩:=(show k = h' ∧ True by
  rw [eH] at e1
  split at e1 <;> (try (cases e1; done))
  split at e1 <;> (try (cases e1; done))
  simp only [bB,bN] at e1
  exact ⟨e1.2.symm,trivial⟩)
 exact e1
theorem aTu {q : Pos} {l1 v : DV} {cs : List DV} {h k : Hp} (e : iI q l1 cs h = some (v,k)) : ∃ (n : Nat) (old : List DV) (t : Tr Ob),v = .l h.next 0 (n + 1) (n + 1) ∧ (∀ g,bM l1 g = some (.i .i64 (n : Int),g)) ∧
  old.length = n * 4 ∧ (∀ v ∈ old,v.one = true) ∧ k = ⟨h.next.succ,Tr.set (.row (.gr 4) (old ++ cs)) h.next t⟩ ∧ t.get q = h.bl.get q ∧ (∀ b,t.get b ≠ none → h.bl.get b ≠ none) ∧
  ∀ zs,iI q l1 zs h = some (v,⟨h.next.succ,Tr.set (.row (.gr 4) (old ++ zs)) h.next t⟩):=by
 unfold iI at e
 split at e <;> (try (cases e; done))
 ·simp only [bB,bN] at e
  obtain ⟨rfl,rfl⟩:=e
  exact ⟨0,[],h.bl,rfl,fun g=>rfl,rfl,by simp,rfl,rfl,fun b hb=>hb,fun zs=>rfl⟩
 ·rename_i b o len cap
  cases hc : (Nat.ble cap len && !(kC b q)) with
  | false=>rw [hc] at e; cases e
  | true =>
   rw [hc] at e
   simp only [cnd] at e
   split at e <;> (try (cases e; done))
   rename_i es l old hb hold
   split at e <;> (try (cases e; done))
   rename_i hr
   simp only [bB,bN] at e
   obtain ⟨rfl,rfl⟩:=e
   have hq : q ≠ b:=by
    simp only [Bool.and_eq_true,Bool.not_eq_true'] at hc
    exact Ne.symm (aNo hc.2)
   have hl : old.length = len * 4 ∧ ∀ v ∈ old,v.one = true:=by
    unfold cellsAt at hold
    simp only [dropD_eq] at hold
    split at hold <;> (try (cases hold; done))
    obtain ⟨h1,_,_,h4⟩:=mN _ _ _ hold
    exact ⟨h1,h4⟩
   refine ⟨len,old,Tr.set (.row .sp (bR o l)) b h.bl,rfl,fun g=>rfl,hl.1,hl.2,rfl,fAw _ _ _ _ hq,fun x hx => ?_,fun zs => ?_⟩
   ·by_cases e : x = b
    ·rw [e,hb]; simp
    ·rwa [fAw _ _ _ _ e] at hx
   ·unfold iI
    dsimp only
    rw [hc]
    simp only [cnd,hb,hold,if_pos hr]
theorem aKa {q : Pos} {l1 x v : DV} {cs : List DV} {h h' k : Hp} (S : Sim true h h') (hx : aCd 4 x h' = some (1,cs)) (e : iI q l1 cs h = some (v,k)) : ∃ k',bH 4 56 l1 x h' = some (v,k') ∧ Sim true k k':=by
 unfold iI at e
 split at e <;> (try (cases e; done))
 ·simp only [bB,bN] at e
  obtain ⟨rfl,rfl⟩:=e
  refine ⟨⟨h'.next.succ,Tr.set (.row (.gr 4) cs) h'.next h'.bl⟩, ?_, ?_⟩
  ·unfold bH
   rw [hx]
   dsimp only
   rw [if_neg (by simp),if_pos (by decide),S.next]
  ·rw [S.next]; exact S.setR _ _ _ _
 ·rename_i b o len cap
  cases hc : (Nat.ble cap len && !(kC b q)) with
  | false=>rw [hc] at e; cases e
  | true =>
   rw [hc] at e
   simp only [cnd] at e
   split at e <;> (try (cases e; done))
   rename_i es l old hb hold
   split at e <;> (try (cases e; done))
   rename_i hr
   simp only [bB,bN] at e
   obtain ⟨rfl,rfl⟩:=e
   have hle : cap ≤ len:=by
    simp only [Bool.and_eq_true] at hc
    exact Nat.le_of_ble_eq_true hc.1
   refine ⟨⟨h'.next.succ,Tr.set (.row (.gr 4) (old ++ cs)) h'.next (Tr.set (.row .sp (bR o l)) b h'.bl)⟩, ?_, ?_⟩
   ·unfold bH
    rw [hx]
    dsimp only
    rw [if_neg (by omega),S.row hb,S.cellsAt hold]
    dsimp only
    rw [if_pos hr.2.2,if_pos ⟨hr.1,hr.2.1⟩,S.next]
   ·rw [S.next]
    exact (S.setR .sp (bR o l) b h.next).setR _ _ _ _
theorem aGx : ∀ (old zs cs : List DV),zs.length = cs.length → (∀ v ∈ zs,v.one = true) → (∀ v ∈ cs,v.one = true) → fR old.length (old ++ zs) cs = some (old ++ cs)
 | [],zs,cs,hl,hz,hc=>by
  show oK zs cs = some cs
  induction cs generalizing zs with
  | nil=>cases zs with
   | nil=>rfl
   | cons z zs=>simp at hl
  | cons c cs ih=>cases zs with
   | nil=>simp at hl
   | cons z zs =>
    simp only [oK,hz z (by simp),hc c (by simp),Bool.and_self,if_true]
    rw [ih zs (by simpa using hl) (fun v hv=>hz v (by simp [hv])) (fun v hv=>hc v (by simp [hv]))]
    rfl
 | x :: old,zs,cs,hl,hz,hc=>by
  show (fR old.length (old ++ zs) cs).map (x :: ·) = _
  rw [aGx old zs cs hl hz hc]
  rfl
end Go.Dd

namespace Go.Dd
open Go.Proofs
theorem bTi : (Tryz.prog.funcs.toList.all fun fn => !(fn.name == "runtime.NumGoroutine")) = true:=by kernel_rfl
theorem Try_ok : POk Tryz.prog where
 mixed:=by kernel_rfl
 names:=by
  intro f fn hf
  have h:=List.all_eq_true.1 bTi fn (by
   obtain ⟨hlt,rfl⟩:=Array.getElem?_eq_some_iff.1 hf
   simp)
  simpa using h
theorem KC0 : OkC CF0 (fnD CF0 60):=⟨fun G g F h=>(by cases h),fun G g=>cFe (C:=CF0) Try_ok (fun G g F h=>(by cases h)) 60 G g⟩
theorem dVr (e : aZ) (h : Hp) : bE CF0 Tryz.f285 e h = some (e 4,h):=by kernel_rfl
theorem eMd : Tryz.f285.ntmps = 49:=by kernel_rfl
theorem eJd : Tryz.prog.funcs[285]? = some Tryz.f285:=by kernel_rfl
theorem dJh : Tryz.f285.body = some (cf Tryz.f285):=by kernel_rfl
theorem eNs : eV CF0.P (dE (cR (cR (cR (cL (cR (cL (cR (cR (cf Tryz.f285)))))))))) = true:=by kernel_rfl
theorem bPz {X : Nat → aZ → Hp → Prop} {N : aZ → Hp → Prop} {env : aZ} {v : DV} {h h1 : Hp} (he : env 5 = v) (S : Sim true h1 h) :
  qR CF0 (fnD CF0 60) 49 (.seq (.region 8 (dE (cL (cR (cR (cR (cf Tryz.f285)))))) false) .ret) X (fun env h'=>∃ h2,bE CF0 Tryz.f285 env h' = some (v,h2) ∧ Le h2 h1) N env h:=by
 refine wpS (aEm ?_)
 rw [rg8]
 refine nR fun _ => ?_
 exact ⟨h,(dVr _ _).trans (by rw [show (bJ (bJ env (some 48) (env 5)) (some 4) (env 5)) 4 = env 5 from rfl,he]),fun G ρ w H=>H.sub S⟩
theorem rX {F : Hp → aH} (hF : PureP F) {h g : Hp} {v : DV} (e : F h = some (v,g)) : g = h ∧ ∀ h',F h' = some (v,h'):=hF h v g e
theorem oO {h g : Hp} {c : Pos} {o : Nat} {v : DV} (e : aA (.p c o) h = some (v,g)) : g = h ∧ ∃ u,h.bl.get c = some u:=by
 rw [cO] at e
 change (match cellD c o h with
  | some v=>some (v,h)
  | none=>none) = _ at e
 split at e <;> (try (cases e; done))
 rename_i u hu
 simp only [bB,bN] at e
 refine ⟨e.2.symm, ?_⟩
 rw [dD] at hu
 rw [cQ] at hu
 simp only [nthD_eq] at hu
 cases hc : h.bl.get c with
 | none=>rw [hc] at hu; cases hu
 | some u=>exact ⟨u,rfl⟩
theorem oR {h g : Hp} {c : Pos} {o n : Nat} {v : DV} (e : aK n (.p c o) h = some (v,g)) : g = h ∧ (∃ u,h.bl.get c = some u) ∧ ∃ cs,v = .a cs ∧ cs.length = n ∧ ∀ x ∈ cs,x.one = true:=by
 rw [eH] at e
 change (match cellsAt c o n h with
  | some cs=>some (DV.a cs,h)
  | none=>none) = _ at e
 split at e <;> (try (cases e; done))
 rename_i u hu
 simp only [bB,bN] at e
 refine ⟨e.2.symm, ?_⟩
 unfold cellsAt at hu
 rw [cQ] at hu
 simp only [dropD_eq] at hu
 cases hc : h.bl.get c with
 | none=>rw [hc] at hu; cases hu
 | some ob =>
  refine ⟨⟨ob,rfl⟩,u,e.1.symm, ?_⟩
  rw [hc] at hu
  split at hu <;> (try (cases hu; done))
  obtain ⟨h1,_,_,h4⟩:=mN _ _ _ hu
  exact ⟨h1,h4⟩
theorem Sim.of_get {h h' : Hp} (e : h'.next = h.next) (g : ∀ b o,h.bl.get b = some o → h'.bl.get b = some o) : Sim true h h':=⟨e,fun b o hb=>⟨o,g b o hb,kV o⟩⟩
theorem bJr (c : Pos) (h : Hp) : aV (.p c 0) h = some (.p c 0,h):=rfl
theorem cRa (c : Pos) (h : Hp) : aB 0 (.p c 0) h = some (.p c 0,h):=rfl
theorem cTc (c : Pos) (h : Hp) : aB 4 (.p c 0) h = some (.p c 4,h):=rfl
theorem uW (env : aZ) (i : Nat) (v : DV) (j : Nat) (h : Nat.beq j i = false) : bJ env (some i) v j = env j:=by
 show (bif Nat.beq j i then v else env j) = _
 rw [h]; rfl
theorem aUk (env : aZ) (i : Nat) (v : DV) : bJ env (some i) v i = v:=by
 show (bif Nat.beq i i then v else env i) = _
 rw [Nat.beq_refl]; rfl
theorem aSq : ∀ cs : List DV,(∀ v ∈ cs,v.one = true) → rV cs.length cs = some cs
 | [],_=>rfl
 | c :: cs,h=>by
  show (if c.one then (rV cs.length cs).map (c :: ·) else none) = _
  rw [if_pos (h c (by simp)),aSq cs fun v hv=>h v (by simp [hv])]
  rfl
theorem aLn {cs : List DV} (h4 : cs.length = 4) (ho : ∀ v ∈ cs,v.one = true) (p n : Pos) (t : Tr Ob) : aCd 4 (.l p 0 1 1) ⟨n,Tr.set (.row .ex cs) p t⟩ = some (1,cs):=by
 have e : cellsAt p 0 (1 * 4) ⟨n,Tr.set (.row .ex cs) p t⟩ = some cs:=by
  unfold cellsAt
  rw [cQ]
  simp only [dropD_eq]
  simp only [fAx,List.drop_zero]
  rw [show 1 * 4 = cs.length by rw [h4]]
  exact aSq cs ho
 simp only [aCd,e]
theorem bZb {h h' : Hp} {n o : Nat} {q : Pos} {v : DV} (hg : h'.bl.get q = h.bl.get q) (e : aK n (.p q o) h = some (v,h)) : aK n (.p q o) h' = some (v,h'):=by
 have e1 : cellsAt q o n h' = cellsAt q o n h:=by
  unfold cellsAt
  simp only [cQ]
  simp only [dropD_eq]
  rw [hg]
 rw [eH] at e
 change (match cellsAt q o n h with
  | some cs=>some (DV.a cs,h)
  | none=>none) = _ at e
 rw [eH]
 show (match cellsAt q o n h' with
  | some cs=>some (DV.a cs,h')
  | none=>none) = _
 rw [e1]
 split at e <;> (try (cases e; done))
 simp only [bB,bN] at e
 rw [e.1]
structure Way (g3 h5 : Hp) (c q : Pos) (l1 l2 n u : DV) (cs : List DV) (k3 k4 : Hp) (env : aZ) : Prop where
 fr : lC g3
 af : After g3 h5
 hl : aA (.p c 4) g3 = some (l1,g3)
 hx : aK 4 (.p q 0) g3 = some (.a cs,g3)
 ne : c ≠ q
 hn : bM l1 g3 = some (n,g3)
 ap : iI q l1 cs ⟨g3.next.succ.succ,g3.bl⟩ = some (l2,k3)
 st : aJ 1 (.p c 4) l2 k3 = some (u,k4)
 e0 : env 0 = .p c 0
 e3 : env 3 = .p q 0
 e5 : env 5 = n
section
theorem Way.up {g3 h5 : Hp} {c q : Pos} {l1 l2 n u : DV} {cs : List DV} {k3 k4 : Hp} {env : aZ} (W : Way g3 h5 c q l1 l2 n u cs k3 k4 env) : ∀ b o,g3.bl.get b = some o → h5.bl.get b = some o:=fun b o hb=>by
 rw [W.af.get b (fun e => ?_)]
 ·exact hb
 ·subst e; exact Nat.lt_irrefl _ (W.fr _ _ hb)
theorem Way.c5 {g3 h5 : Hp} {c q : Pos} {l1 l2 n u : DV} {cs : List DV} {k3 k4 : Hp} {env : aZ} (W : Way g3 h5 c q l1 l2 n u cs k3 k4 env) (n' : Pos) : aA (.p c 4) ⟨n',h5.bl⟩ = some (l1,⟨n',h5.bl⟩):=aTs W.up W.hl
theorem Way.q5 {g3 h5 : Hp} {c q : Pos} {l1 l2 n u : DV} {cs : List DV} {k3 k4 : Hp} {env : aZ} (W : Way g3 h5 c q l1 l2 n u cs k3 k4 env) (n' : Pos) : aK 4 (.p q 0) ⟨n',h5.bl⟩ = some (.a cs,⟨n',h5.bl⟩):=aTm W.up W.hx
theorem Way.len {g3 h5 : Hp} {c q : Pos} {l1 l2 n u : DV} {cs : List DV} {k3 k4 : Hp} {env : aZ} (W : Way g3 h5 c q l1 l2 n u cs k3 k4 env) (h : Hp) : bM l1 h = some (n,h):=(rX (kQ l1) W.hn).2 h
theorem Way.base {g3 h5 : Hp} {c q : Pos} {l1 l2 n u : DV} {cs : List DV} {k3 k4 : Hp} {env : aZ} (W : Way g3 h5 c q l1 l2 n u cs k3 k4 env) (o : Ob) : Sim true ⟨g3.next.succ.succ,g3.bl⟩ ⟨h5.next.succ,Tr.set o h5.next h5.bl⟩:=Sim.of_get (by rw [W.af.next]) fun b ob hb=>by
 show (Tr.set o h5.next h5.bl).get b = _
 rw [fAw,W.up b ob hb]
 intro e
 have h1:=W.fr b ob hb
 have s1:=fBa g3.next
 rw [e,W.af.next] at h1
 omega
theorem Way.app {g3 h5 : Hp} {c q : Pos} {l1 l2 n u : DV} {cs : List DV} {k3 k4 : Hp} {env : aZ} (W : Way g3 h5 c q l1 l2 n u cs k3 k4 env) {hh : Hp} (S : Sim true ⟨g3.next.succ.succ,g3.bl⟩ hh) {y : DV} (hy : aCd 4 y hh = some (1,cs)) : ∃ k',bH 4 56 l1 y hh = some (l2,k') ∧ ∃ k'',aJ 1 (.p c 4) l2 k' = some (u,k'') ∧ Sim true k4 k'':=by
 obtain ⟨k',h1,h2⟩:=aKa S hy W.ap
 obtain ⟨k'',h3,h4⟩:=eW 1 _ _ _ _ h2 _ _ W.st
 exact ⟨k',h1,k'',h3,h4⟩
theorem Way.one {g3 h5 : Hp} {c q : Pos} {l1 l2 n u : DV} {cs : List DV} {k3 k4 : Hp} {env : aZ} (W : Way g3 h5 c q l1 l2 n u cs k3 k4 env) : cs.length = 4 ∧ ∀ v ∈ cs,v.one = true:=by
 obtain ⟨_,_,cs',e,h1,h2⟩:=oR W.hx
 cases e
 exact ⟨h1,h2⟩
theorem Way.B {g3 h5 : Hp} {c q : Pos} {l1 l2 n u : DV} {cs : List DV} {k3 k4 : Hp} {env : aZ} (W : Way g3 h5 c q l1 l2 n u cs k3 k4 env) {X : Nat → aZ → Hp → Prop} {R N : aZ → Hp → Prop} (hN : ∀ env' h',env' 5 = n → Sim true k4 h' → N env' h') : qR CF0 (fnD CF0 60) 49 (.region 7 (dE (cR (cR (cR (cL (cR (cL (cR (cR (cf Tryz.f285)))))))))) true) X R N env h5:=by
 obtain ⟨k',h1,k'',h2,h3⟩:=W.app (W.base (.row .ex cs)) (aLn W.one.1 W.one.2 h5.next h5.next.succ h5.bl)
 have fl : bL (bX 0 h5.next) [(.i .i64 (Int.ofNat 0)),(.s []),(.i .i64 (Int.ofNat 0)),.l0] 1 [(0,4,.a cs)] ⟨h5.next.succ,h5.bl⟩ = some (.l h5.next 0 1 1,⟨h5.next.succ,Tr.set (.row .ex cs) h5.next h5.bl⟩):=by
  simp only [bL,nD,dJ,W.one.1]
  simp [bX]
 refine eVj eNs ?_
 rw [rg7]
 simp only [W.e0,W.e3,bJr,bP,cRa,cTc,show resv 1 h5 = ⟨h5.next.succ,h5.bl⟩ from rfl,W.c5,W.q5,fl,h1,h2]
 refine nR fun _=>hN _ _ ?_ h3
 simp only [uW,Nat.beq]
 exact W.e5
theorem Way.A {g3 h5 : Hp} {c q : Pos} {l1 l2 n u : DV} {cs : List DV} {k3 k4 : Hp} {env : aZ} (W : Way g3 h5 c q l1 l2 n u cs k3 k4 env) {X : Nat → aZ → Hp → Prop} {R N : aZ → Hp → Prop} (hN : ∀ env' h',env' 5 = n → Sim true k4 h' → N env' h') : qR CF0 (fnD CF0 60) 49 (.seq (.region 5 (dE (cL (cL (cR (cR (cL (cR (cL (cR (cR (cf Tryz.f285))))))))))) false)
  (.region 6 (dE (cR (cL (cR (cR (cL (cR (cL (cR (cR (cf Tryz.f285))))))))))) false)) X R N env h5:=by
 obtain ⟨m,old,t,hl2,hm,hol,hoo,hk3,htq,htd,hz⟩:=aTu W.ap
 have hzz:=hz [.i .i64 (Int.ofNat 0),.s [],.i .i64 (Int.ofNat 0),.l0]
 have hn : n = .i .i64 (m : Int):=by
  have e1:=W.len g3
  rw [hm] at e1
  simp only [bB,bN,and_true] at e1
  exact e1.symm
 dsimp only at hl2 hk3 htq htd hzz
 obtain ⟨_,uc,huc⟩:=oO W.hl
 have hcs : c ≠ g3.next.succ.succ:=fun e=>by
  have h1:=W.fr _ _ huc
  have s1:=fBa g3.next
  have s2:=fBa g3.next.succ
  rw [e] at h1
  omega
 obtain ⟨_,⟨uq,huq⟩,_⟩:=oR W.hx
 have hqs : q ≠ g3.next.succ.succ:=fun e=>by
  have h1:=W.fr _ _ huq
  have s1:=fBa g3.next
  have s2:=fBa g3.next.succ
  rw [e] at h1
  omega
 have hst:=W.st
 rw [hk3] at hst
 have hst2 : ∃ kd l l',t.get c = some (.row kd l) ∧ k4 = ⟨g3.next.succ.succ.succ,Tr.set (.row kd l') c (Tr.set (.row (.gr 4) (old ++ cs)) g3.next.succ.succ t)⟩ ∧
   ∀ zs,aJ 1 (.p c 4) l2 ⟨g3.next.succ.succ.succ,Tr.set (.row (.gr 4) zs) g3.next.succ.succ t⟩ = some (u,⟨g3.next.succ.succ.succ,Tr.set (.row kd l') c (Tr.set (.row (.gr 4) zs) g3.next.succ.succ t)⟩):=by
  rw [hl2] at hst ⊢
  simp only [eM,dJ,List.length_singleton,if_true,cW,putQ_eq,fAw _ _ _ _ hcs] at hst ⊢
  cases htc : t.get c with
  | none=>rw [htc] at hst; cases hst
  | some o =>
   rw [htc] at hst
   cases o with
   | row kd l =>
    dsimp only at hst ⊢
    cases hw : kd.writable with
    | false=>rw [hw] at hst; cases hst
    | true =>
     rw [hw,if_pos rfl] at hst
     cases hp : fR 4 l [.l g3.next.succ.succ 0 (m + 1) (m + 1)] with
     | none=>rw [hp] at hst; cases hst
     | some l' =>
      rw [hp] at hst
      simp only [bB,bN] at hst
      exact ⟨kd,l,l',rfl,hst.2.symm,fun zs=>by simp only [hw,if_true,hp,hst.1]⟩
   | it s p=>cases hst
   | mp es=>cases hst
   | big n t=>cases hst
   | mi t=>cases hst
 obtain ⟨kd,l,l',htc,hk4,hstz⟩:=hst2
 obtain ⟨k6,h6,S6⟩:=aKa (W.base (.row .ex [.i .i64 (Int.ofNat 0),.s [],.i .i64 (Int.ofNat 0),.l0])) (aLn rfl (by simp [DV.one]) h5.next h5.next.succ h5.bl) hzz
 obtain ⟨k7,h7,S7⟩:=eW 1 _ _ _ _ S6 _ _ (hstz _)
 have hqz:=bZb (h':=⟨g3.next.succ.succ.succ,Tr.set (.row kd l') c (Tr.set (.row (.gr 4) (old ++ [.i .i64 (Int.ofNat 0),.s [],.i .i64 (Int.ofNat 0),.l0])) g3.next.succ.succ t)⟩) (by
  show (Tr.set _ c (Tr.set _ _ t)).get q = _
  rw [fAw _ _ _ _ (Ne.symm W.ne),fAw _ _ _ _ hqs,htq]) W.hx
 obtain ⟨k8,h8,S8⟩:=jB 4 _ _ _ S7 _ _ hqz
 have hfin : aJ 4 (.p g3.next.succ.succ (0 + m * 4)) (.a cs) ⟨g3.next.succ.succ.succ,Tr.set (.row kd l') c (Tr.set (.row (.gr 4) (old ++ [.i .i64 (Int.ofNat 0),.s [],.i .i64 (Int.ofNat 0),.l0])) g3.next.succ.succ t)⟩ =
   some (aT,⟨g3.next.succ.succ.succ,Tr.set (.row (.gr 4) (old ++ cs)) g3.next.succ.succ (Tr.set (.row kd l') c (Tr.set (.row (.gr 4) (old ++ [.i .i64 (Int.ofNat 0),.s [],.i .i64 (Int.ofNat 0),.l0])) g3.next.succ.succ t))⟩):=by
  have hp:=aGx old [.i .i64 (Int.ofNat 0),.s [],.i .i64 (Int.ofNat 0),.l0] cs (by rw [W.one.1]; rfl) (by simp [DV.one]) W.one.2
  simp only [eM,dJ,W.one.1,if_true,cW,putQ_eq,fAw _ _ _ _ (Ne.symm hcs),fAx,Kind.writable,Nat.zero_add,← hol,hp]
 obtain ⟨k9,h9,S9⟩:=eW 4 _ _ _ _ S8 _ _ hfin
 have S10 : Sim true k4 k9:=by
  refine Sim.trans ?_ S9
  rw [hk4]
  refine Sim.of_get rfl fun b o hb => ?_
  change (Tr.set (.row kd l') c (Tr.set _ g3.next.succ.succ t)).get b = some o at hb
  show (Tr.set _ g3.next.succ.succ (Tr.set (.row kd l') c (Tr.set _ g3.next.succ.succ t))).get b = some o
  by_cases e1 : b = g3.next.succ.succ
  ·rw [e1] at hb ⊢
   rw [fAw _ _ _ _ (Ne.symm hcs),fAx] at hb
   rw [fAx,hb]
  ·rw [fAw _ _ _ _ e1]
   by_cases e2 : b = c
   ·rw [e2] at hb ⊢
    rw [fAx] at hb ⊢
    exact hb
   ·rw [fAw _ _ _ _ e2,fAw _ _ _ _ e1] at hb ⊢
    exact hb
 have fl : aS [(.i .i64 (Int.ofNat 0)),(.s []),(.i .i64 (Int.ofNat 0)),.l0] 1 [(0,4,(.a [(.i .i64 (Int.ofNat 0)),(.s []),(.i .i64 (Int.ofNat 0)),.l0]))] h5 = some (.l h5.next 0 1 1,⟨h5.next.succ,Tr.set (.row .ex [.i .i64 (Int.ofNat 0),.s [],.i .i64 (Int.ofNat 0),.l0]) h5.next h5.bl⟩):=by
  simp [aS,nD,dJ]
 refine wpS (aEm ?_)
 rw [rg5]
 have c5 : aA (.p c 4) h5 = some (l1,h5):=W.c5 h5.next
 have ix : aG 4 l2 n k8 = some (.p g3.next.succ.succ (0 + m * 4),k8):=by
  rw [hl2,hn]
  rw [eT]
  show (if (0 : Int) ≤ (m : Int) ∧ (m : Int) < ((m + 1 : Nat) : Int) then some (DV.p g3.next.succ.succ (0 + (m : Int).toNat * 4),k8) else none) = _
  rw [if_pos (by omega)]
  simp
 simp only [W.e0,W.e3,bJr,bP,cRa,cTc,c5,W.len,fl,h6,h7]
 refine nR fun _=>aEm ?_
 rw [rg6]
 simp only [uW,aUk,Nat.beq,W.e3,h8,bP,ix,h9]
 refine nR fun _=>hN _ _ ?_ S10
 simp only [uW,Nat.beq]
 exact W.e5
end
theorem dIn {h h1 : Hp} {c q : Pos} {v : DV} (hr : tM c q h = some (v,h1)) (hf : lC h) {env : aZ} (e0 : env 0 = .p c 0) (e3 : env 3 = .p q 0)
  {X : Nat → aZ → Hp → Prop} {R N : aZ → Hp → Prop} (hN : ∀ env' h',env' 5 = v → Sim true h1 h' → N env' h') :
  qR CF0 (fnD CF0 60) 49 (.seq (.region 3 (dE (cL (cL (cR (cL (cR (cR (cf Tryz.f285)))))))) false) (.seq (.region 4 R4 true) (.cond (.tmp 22)
   (.seq (.region 5 (dE (cL (cL (cR (cR (cL (cR (cL (cR (cR (cf Tryz.f285))))))))))) false) (.region 6 (dE (cR (cL (cR (cR (cL (cR (cL (cR (cR (cf Tryz.f285))))))))))) false))
   (.region 7 (dE (cR (cR (cR (cL (cR (cL (cR (cR (cf Tryz.f285)))))))))) true)))) X R N env h:=by
 unfold tM at hr
 obtain ⟨l1,g1,hl1,hr⟩:=cS hr
 obtain ⟨n,g2,hn,hr⟩:=cS hr
 obtain ⟨x,g3,hx,hr⟩:=cS hr
 obtain ⟨rfl,uc,huc⟩:=oO hl1
 have hn0:=hn
 obtain ⟨rfl,hn⟩:=rX (kQ l1) hn
 obtain ⟨rfl,⟨uq,huq⟩,cs,rfl,hcl,hco⟩:=oR hx
 dsimp only at hr
 cases hcq : kC c q with
 | true=>rw [hcq] at hr; cases hr
 | false =>
 rw [hcq] at hr
 have hcq' : c ≠ q:=aNo hcq
 simp only [cnd,Bool.not_false] at hr
 obtain ⟨l2,k3,ha,hr⟩:=cS hr
 obtain ⟨u,k4,hs,hr⟩:=cS hr
 simp only [bB,bN] at hr
 obtain ⟨rfl,rfl⟩:=hr
 refine wpS (aEm ?_)
 rw [rg3]
 rw [show aV (env 0) g3 = some (.p c 0,g3) from by rw [e0]; rfl]
 simp only [bP,cRa,cTc,hl1,hn0]
 refine nR fun _ => ?_
 refine wpS (eKi (eZs fun x h5 A F5 => ?_))
 have W : Way g3 h5 c q l1 l2 n u cs k3 k4 (bJ (bJ (bJ (bJ (bJ (bJ (bJ (bJ (bJ env (some 15) (env 0)) (some 16) (DV.p c 0)) (some 17) (DV.p c (0 + 0))) (some 18) (DV.p c (0 + 0 + 4))) (some 19) l1) (some 20) n) (some 5) n) (some 21) (DV.p g3.next 0)) (some 22) (DV.b x)) :=
  ⟨hf,A,hl1,hx,hcq',hn0,ha,hs,e0,e3,rfl⟩
 refine wpC (t:=x) rfl ⟨fun _ => ?_,fun _ => ?_⟩
 ·exact W.A hN
 ·exact W.B hN
theorem tZ (c : Pos) (lit : List DV) (h : Hp) : bZ (aQ [.p c 0,.a lit] 1) h = some (.p h.next 0,⟨h.next.succ,Tr.set (.row .ex lit) h.next h.bl⟩):=rfl
theorem eCy (G : Gd) : jV Tryz.prog G 285 bSv:=by
 refine bXi (C:=CF0) (rec:=fnD CF0 60) KC0 Try_ok eJd dJh fun args h v h1 hr hf => ?_
 unfold bSv at hr
 split at hr <;> (try (cases hr; done))
 rename_i c lit
 obtain ⟨vb,hb,h0,hr⟩:=cS hr
 simp only [bQ,bB,bN] at h0
 obtain ⟨rfl,rfl⟩:=h0
 obtain ⟨ls,h2,hl,hr⟩:=cS hr
 obtain ⟨rfl,_⟩:=oO hl
 obtain ⟨i,h3,hi,hr⟩:=cS hr
 obtain ⟨tt,h4,ht,hif⟩:=cS hr
 clear hr
 obtain ⟨rfl,hlt⟩:=rX (aDp _ _ _) ht
 rw [eLp,eMd]
 refine wpS (aEm ?_)
 rw [rg0,tZ,bP]
 refine nR fun _ => ?_
 refine wpS (aEm ?_)
 rw [rg1]
 simp only [uW,aUk,Nat.beq,show aQ [.p c 0,.a lit] 0 = .p c 0 from rfl,bJr,bP,cRa,cTc,hl,hi]
 refine nR fun F4 => ?_
 refine wpS (wpS (aEm ?_))
 rw [rg2]
 simp only [uW,aUk,Nat.beq,ht,bP]
 refine nR fun _ => ?_
 rw [oL] at hif
 split at hif <;> (try (cases hif; done))
 ·refine wpC (t:=true) rfl ⟨fun _ => ?_,fun e=>(by cases e)⟩
  refine dIn hif F4 ?_ ?_ ?_
  ·rfl
  ·rfl
  ·intro env' h' e5 S
   exact bPz e5 S
 ·simp only [bB,bN] at hif
  obtain ⟨rfl,rfl⟩:=hif
  refine wpC (t:=false) rfl ⟨fun e=>(by cases e),fun _ => ?_⟩
  exact bPz rfl (Sim.refl _)
end Go.Dd

namespace Go.Dd
open Go.Proofs
theorem dOn : (itm.ops.toList.all gK) = true:=by kernel_rfl
theorem cOy : Tryz.f305.body = some itm.code:=by kernel_rfl
theorem dUh : ItOk Tryz.prog itm where
 pre:=by kernel_rfl
 test:=by kernel_rfl
 after:=by kernel_rfl
 post:=by kernel_rfl
 step:=by kernel_rfl
 ops:=List.all_eq_true.1 dOn
 dst:=by kernel_rfl
 guard:=by kernel_rfl
 op:=⟨#[3],by kernel_rfl⟩
 fn:=⟨Tryz.f305,Tryz.func305,cOy,by kernel_rfl,by kernel_rfl,by kernel_rfl⟩
theorem eYc : gZ (cf Tryz.f308) = true:=by kernel_rfl
theorem ePn : gZ (cf Tryz.f205) = true:=by kernel_rfl
theorem bPe {fn : Func} {c : Code} (h : fn.body = some c) : cf fn = c:=by unfold cf; rw [h]
theorem dYt (f : FuncId) (hf : rgB f = true) (fn : Func) (c : Code) (h1 : Tryz.prog.funcs[f]? = some fn) (h2 : fn.body = some c) : gZ c = true:=by
 unfold rgB at hf
 simp only [Bool.or_eq_true] at hf
 rcases hf with hf | hf <;> (have e:=Nat.eq_of_beq_eq_true hf; subst e)
 ·rw [Tryz.func308] at h1
  cases h1
  rw [← bPe h2]
  exact eYc
 ·rw [Tryz.func205] at h1
  cases h1
  rw [← bPe h2]
  exact ePn
end Go.Dd

namespace Go.Dd
open Go.RowKit (Below)
theorem HR.later {G : Gd} {ρ : Ren} {h : Hp} {w w' : World} (H : HR G ρ h w) (e : Below w.heap.size w w') : HR G ρ h w' where
 gl:=fun k hk=>(e.block k (Nat.lt_of_lt_of_le hk H.sz.1)).trans (H.gl k hk)
 sz:=⟨Nat.le_trans H.sz.1 e.size,fun k hk=>Nat.lt_of_lt_of_le (H.sz.2 k hk) e.size⟩
 nx:=H.nx
 ro:=H.ro
 dom:=H.dom
 lt:=H.lt
 cell:=fun b k l L i v h1 h2 h3 h4=>by
  obtain ⟨v',h5,h6⟩:=H.cell b k l L i v h1 h2 h3 h4
  exact ⟨v',by rw [e.cell (eA h5)]; exact h5,h6⟩
 spare:=fun b l L es j h1 h2 h3=>by
  obtain ⟨v',h5⟩:=H.spare b l L es j h1 h2 h3
  exact ⟨v',by rw [e.cell (eA h5)]; exact h5⟩
 free:=fun b a h1 h2=>by
  obtain ⟨v,hv⟩:=H.lt_cell h1
  rw [e.frozen (eA hv)]
  exact H.free b a h1 h2
 inj:=H.inj
 ex:=H.ex
 grone:=H.grone
 itr:=fun b o L h1 h2 h3=>by
  obtain ⟨a,b,x,c,d⟩:=H.itr b o L h1 h2 h3
  refine ⟨a,b,x, ?_,d⟩
  rw [e.block _ (Array.getElem?_eq_some_iff.1 c).1]
  exact c
 itj:=H.itj
theorem Kp.later {G : Gd} {ρ : Ren} {h : Hp} {w w' : World} (H : HR G ρ h w) (e : Below w.heap.size w w') : Kp G w w' :=
 ⟨e.mono H.sz.1,fun k hk=>e.block k (H.sz.2 k hk)⟩
def mF (ρ ρ2 : Ren) : Ren:=fun b=>match ρ b with
 | some L=>some L
 | none => ρ2 b
section
variable {G G2 : Gd} {ρ ρ2 : Ren} {h g : Hp} {w w' : World} {J : Tr Ob}
theorem HR.join (H : HR G ρ h w) (hb : Below w.heap.size w w') (H2 : HR G2 ρ2 g w') (hG2 : G2.B = w.heap.size) (low : ∀ b L, ρ2 b = some L → h.next.toNat ≤ b.toNat)
  (hk : ∀ b o,g.bl.get b = some o → o.sg = true ∨ ∃ l,o = .row .ex l) (hn : h.next.toNat ≤ g.next.toNat)
  (hJ : ∀ b,J.get b = match h.bl.get b with
   | some o=>some o
   | none=>g.bl.get b) : HR G (mF ρ ρ2) ⟨g.next,J⟩ w' ∧ Ex G ρ (mF ρ ρ2) ∧ Ext ρ2 (mF ρ ρ2):=by
 have H':=H.later hb
 have e1 : Ext ρ (mF ρ ρ2):=fun b L hL=>by unfold mF; rw [hL]
 have no : ∀ b,h.next.toNat ≤ b.toNat → ρ b = none:=fun b hb=>by
  cases e : ρ b with
  | none=>rfl
  | some L=>have:=H.lt b L e; omega
 have e2 : Ext ρ2 (mF ρ ρ2):=fun b L hL=>by unfold mF; rw [no b (low b L hL)]; exact hL
 have two : ∀ b o,J.get b = some o → (h.bl.get b = some o ∧ ∃ L, ρ b = some L ∧ mF ρ ρ2 b = some L) ∨ (g.bl.get b = some o ∧ ∃ L, ρ2 b = some L ∧ mF ρ ρ2 b = some L):=fun b o ho=>by
  rw [hJ] at ho
  cases hh : h.bl.get b with
  | some o' =>
   rw [hh] at ho
   cases ho
   obtain ⟨L,hL⟩:=H.dom b _ hh
   exact .inl ⟨rfl,L,hL,e1 _ _ hL⟩
  | none =>
   rw [hh] at ho
   obtain ⟨L,hL⟩:=H2.dom b o ho
   exact .inr ⟨ho,L,hL,e2 _ _ hL⟩
 have cl : ∀ {b a},Claims (mF ρ ρ2) ⟨g.next,J⟩ b a → (Claims ρ h b a ∧ ∀ l,J.get b = some (.row .ro l) → h.bl.get b = some (.row .ro l)) ∨ (Claims ρ2 g b a ∧ ¬ isRo g b ∧ ∀ l,J.get b ≠ some (.row .ro l)):=by
  rintro b a ⟨k,l,L,q1,q2,q3⟩
  change J.get b = some (.row k l) at q1
  rcases two b _ q1 with ⟨c1,L',c2,c3⟩ | ⟨c1,L',c2,c3⟩
  ·have c3':=c3.symm.trans q2
   cases c3'
   exact .inl ⟨⟨k,l,L,c1,c2,q3⟩,fun l' hl'=>by rw [q1] at hl'; rw [c1]; exact hl'⟩
  ·have c3':=c3.symm.trans q2
   cases c3'
   refine .inr ⟨⟨k,l,L,c1,c2,q3⟩, ?_, ?_⟩
   ·rintro ⟨l',hl'⟩
    rw [c1] at hl'
    cases hl'
    rcases hk b _ c1 with hs | ⟨_,hs⟩ <;> cases hs
   ·intro l' hl'
    rw [q1] at hl'
    cases hl'
    rcases hk b _ c1 with hs | ⟨_,hs⟩ <;> cases hs
 have old : ∀ {b a},Claims ρ h b a → a.block < w.heap.size:=fun hc=>by
  obtain ⟨v,hv⟩:=H.lt_cell hc
  exact eA hv
 have aCl : ∀ {k},Own G2 k → Own G k ∧ w.heap.size ≤ k:=fun {k} ho=>by
  have h1:=ho.1
  rw [hG2] at h1
  exact ⟨⟨Nat.le_trans H.sz.1 h1,fun hX=>by have:=H.sz.2 k hX; omega⟩,h1⟩
 refine ⟨⟨H'.gl,H'.sz,Nat.le_trans H.nx hn, ?_, ?_, ?_, ?_, ?_, ?_, ?_, ?_, ?_, ?_, ?_⟩,⟨e1,fun b L hL => ?_⟩,e2⟩
 ·rintro b a hc ⟨l,hl⟩
  rcases cl hc with ⟨c,hr⟩ | ⟨_,_,hr⟩
  ·exact H'.ro b a c ⟨l,hr l hl⟩
  ·exact absurd hl (hr l)
 ·intro b o ho
  rcases two b o ho with ⟨_,L,_,c⟩ | ⟨_,L,_,c⟩
  ·exact ⟨L,c⟩
  ·exact ⟨L,c⟩
 ·intro b L hL
  unfold mF at hL
  cases e : ρ b with
  | some L'=>have:=H.lt b L' e; show b.toNat < g.next.toNat; omega
  | none=>rw [e] at hL; exact H2.lt b L hL
 ·intro b k l L i v ho hL hi hv
  rcases two b _ ho with ⟨c1,L',c2,c3⟩ | ⟨c1,L',c2,c3⟩
  ·have c3':=c3.symm.trans hL
   cases c3'
   obtain ⟨v',q1,q2⟩:=H'.cell b k l L i v c1 c2 hi hv
   exact ⟨v',q1,q2.mono e1⟩
  ·have c3':=c3.symm.trans hL
   cases c3'
   obtain ⟨v',q1,q2⟩:=H2.cell b k l L i v c1 c2 hi hv
   exact ⟨v',q1,q2.mono e2⟩
 ·intro b l L es j ho hL hj
  rcases two b _ ho with ⟨c1,L',c2,c3⟩ | ⟨c1,L',c2,c3⟩
  ·have c3':=c3.symm.trans hL
   cases c3'
   exact H'.spare b l L es j c1 c2 hj
  ·have c3':=c3.symm.trans hL
   cases c3'
   exact H2.spare b l L es j c1 c2 hj
 ·intro b a hc hr
  rcases cl hc with ⟨c,hro⟩ | ⟨c,hnr,_⟩
  ·refine H'.free b a c fun ⟨l,hl⟩=>hr ⟨l, ?_⟩
   show J.get b = _
   rw [hJ,hl]
  ·obtain ⟨q1,q2⟩:=H2.free b a c hnr
   exact ⟨q1,(aCl q2).1⟩
 ·intro b b' a hc hc' hr
  rcases cl hc with ⟨c,_⟩ | ⟨c,hnr,_⟩
  ·rcases cl hc' with ⟨c',_⟩ | ⟨c',hnr',_⟩
   ·refine H'.inj b b' a c c' fun ⟨l,hl⟩=>hr ⟨l, ?_⟩
    show J.get b = _
    rw [hJ,hl]
   ·have h1:=old c
    have h2:=(aCl (H2.free b' a c' hnr').2).2
    omega
  ·rcases cl hc' with ⟨c',_⟩ | ⟨c',hnr',_⟩
   ·have h1:=old c'
    have h2:=(aCl (H2.free b a c hnr).2).2
    omega
   ·exact H2.inj b b' a c c' hnr
 ·intro b l L ho hL
  have key : ∀ o,J.get b = some o → (o = .row .ro l ∨ o = .row .ex l) → L.sp = 0:=fun o ho' hor=>by
   rcases two b o ho' with ⟨c1,L',c2,c3⟩ | ⟨c1,L',c2,c3⟩
   ·have c3':=c3.symm.trans hL
    cases c3'
    rcases hor with rfl | rfl
    ·exact H'.ex b l L (.inl c1) c2
    ·exact H'.ex b l L (.inr c1) c2
   ·have c3':=c3.symm.trans hL
    cases c3'
    rcases hor with rfl | rfl
    ·exact H2.ex b l L (.inl c1) c2
    ·exact H2.ex b l L (.inr c1) c2
  rcases ho with ho | ho
  ·exact key _ ho (.inl rfl)
  ·exact key _ ho (.inr rfl)
 ·intro b es l i v ho hi
  rcases two b _ ho with ⟨c1,_⟩ | ⟨c1,_⟩
  ·exact H'.grone b es l i v c1 hi
  ·exact H2.grone b es l i v c1 hi
 ·intro b o L h0 ho hL
  rcases two b o ho with ⟨c1,L',c2,c3⟩ | ⟨c1,L',c2,c3⟩
  ·have c3':=c3.symm.trans hL
   cases c3'
   obtain ⟨q1,q2,x,q3,q4⟩:=H'.itr b o L h0 c1 c2
   exact ⟨q1,q2,x,q3,q4.mono e1⟩
  ·have c3':=c3.symm.trans hL
   cases c3'
   obtain ⟨q1,q2,x,q3,q4⟩:=H2.itr b o L h0 c1 c2
   exact ⟨(aCl q1).1,q2,x,q3,q4.mono e2⟩
 ·intro b o b' o' L L' h0 h0' ho ho' hL hL' he
  have lo : ∀ {b o L},o.sg = true → h.bl.get b = some o → ρ b = some L → L.bl < w.heap.size:=fun {b o L} s1 s2 s3=>by
   obtain ⟨_,_,x,q,_⟩:=H.itr b o L s1 s2 s3
   exact (Array.getElem?_eq_some_iff.1 q).1
  rcases two b o ho with ⟨c1,K,c2,c3⟩ | ⟨c1,K,c2,c3⟩ <;> (have c3':=c3.symm.trans hL; cases c3') <;>
   rcases two b' o' ho' with ⟨d1,K',d2,d3⟩ | ⟨d1,K',d2,d3⟩ <;> (have d3':=d3.symm.trans hL'; cases d3')
  ·exact H'.itj b o b' o' L L' h0 h0' c1 d1 c2 d2 he
  ·have q1:=lo h0 c1 c2
   have q2:=(aCl (H2.itr b' o' L' h0' d1 d2).1).2
   omega
  ·have q1:=lo h0' d1 d2
   have q2:=(aCl (H2.itr b o L h0 c1 c2).1).2
   omega
  ·exact H2.itj b o b' o' L L' h0 h0' c1 d1 c2 d2 he
 ·unfold mF at hL
  cases e : ρ b with
  | some L'=>rw [e] at hL; exact .inl hL
  | none =>
   rw [e] at hL
   exact .inr (Nat.le_trans H.nx (low b L hL))
end
end Go.Dd

namespace Go.Proofs
open Go.Shelf
def Tryz.laysM171_ren : Go.Shelf.Ren:=⟨fun | 171=>165 | 243=>228 | 246=>264 | 283=>317 | 284=>318 | 285=>319 | 286=>320 | 129=>304 | 317=>371 | 318=>372 | 319=>373 | 320=>374 | 337=>411 | 338=>412 | n=>n,fun | 3=>3 | 9=>9 | 2=>2 | 4=>4 | 171=>309 | 0=>0 | 53=>303 | 37=>53 | 5=>5 | 173=>311 | 212=>329 | 51=>301 | 20=>20 | 213=>330 | 46=>108 | 232=>364 | 233=>365 | n=>n,fun | 17=>1 | 18=>4 | 19=>5 | n=>n⟩
theorem Tryz.laysM171 : Go.Proofs.LaysM.n171 Tryz.prog Tryz.laysM171_ren:={
 mixed:=by kernel_rfl
 f129:=Tryz.func304.trans (congrArg some (by kernel_rfl))
 f171:=Tryz.func165.trans (congrArg some (by kernel_rfl))
 f243:=Tryz.func228.trans (congrArg some (by kernel_rfl))
 f246:=Tryz.func264.trans (congrArg some (by kernel_rfl))
 f283:=Tryz.func317.trans (congrArg some (by kernel_rfl))
 f284:=Tryz.func318.trans (congrArg some (by kernel_rfl))
 f285:=Tryz.func319.trans (congrArg some (by kernel_rfl))
 f286:=Tryz.func320.trans (congrArg some (by kernel_rfl))
 f317:=Tryz.func371.trans (congrArg some (by kernel_rfl))
 f318:=Tryz.func372.trans (congrArg some (by kernel_rfl))
 f319:=Tryz.func373.trans (congrArg some (by kernel_rfl))
 f320:=Tryz.func374.trans (congrArg some (by kernel_rfl))
 f337:=Tryz.func411.trans (congrArg some (by kernel_rfl))
 f338:=Tryz.func412.trans (congrArg some (by kernel_rfl))
 t0:=Tryz.underlying0
 a0:=Tryz.isAgg0
 z0:=Tryz.sizeOf0
 v0:=Tryz.zeroValue0
 t2:=Tryz.underlying2
 a2:=Tryz.isAgg2
 z2:=Tryz.sizeOf2
 v2:=Tryz.zeroValue2
 t3:=Tryz.underlying3
 a3:=Tryz.isAgg3
 z3:=Tryz.sizeOf3
 v3:=Tryz.zeroValue3
 t4:=Tryz.underlying4
 a4:=Tryz.isAgg4
 z4:=Tryz.sizeOf4
 v4:=Tryz.zeroValue4
 t5:=Tryz.underlying5
 a5:=Tryz.isAgg5
 z5:=Tryz.sizeOf5
 v5:=Tryz.zeroValue5
 t9:=Tryz.underlying9
 a9:=Tryz.isAgg9
 z9:=Tryz.sizeOf9
 v9:=Tryz.zeroValue9
 t20:=Tryz.underlying20
 a20:=Tryz.isAgg20
 z20:=Tryz.sizeOf20
 v20:=Tryz.zeroValue20
 t37:=Tryz.underlying53
 a37:=Tryz.isAgg53
 z37:=Tryz.sizeOf53
 v37:=Tryz.zeroValue53
 t46:=Tryz.underlying108
 a46:=Tryz.isAgg108
 z46:=Tryz.sizeOf108
 v46:=Tryz.zeroValue108
 t51:=Tryz.underlying301
 a51:=Tryz.isAgg301
 z51:=Tryz.sizeOf301
 v51:=Tryz.zeroValue301
 t53:=Tryz.underlying303
 a53:=Tryz.isAgg303
 z53:=Tryz.sizeOf303
 v53:=Tryz.zeroValue303
 t171:=Tryz.underlying309
 a171:=Tryz.isAgg309
 z171:=Tryz.sizeOf309
 v171:=Tryz.zeroValue309
 t173:=Tryz.underlying311
 a173:=Tryz.isAgg311
 z173:=Tryz.sizeOf311
 v173:=Tryz.zeroValue311
 t212:=Tryz.underlying329
 a212:=Tryz.isAgg329
 z212:=Tryz.sizeOf329
 v212:=Tryz.zeroValue329
 t213:=Tryz.underlying330
 a213:=Tryz.isAgg330
 z213:=Tryz.sizeOf330
 t232:=Tryz.underlying364
 a232:=Tryz.isAgg364
 z232:=Tryz.sizeOf364
 v232:=Tryz.zeroValue364
 t233:=Tryz.underlying365
 a233:=Tryz.isAgg365
 z233:=Tryz.sizeOf365
 v233:=Tryz.zeroValue365
 g17:=by kernel_rfl
 g18:=by kernel_rfl
 g19:=by kernel_rfl
 i0:=by kernel_rfl
 i2:=by kernel_rfl
 i3:=by kernel_rfl
 i4:=by kernel_rfl
 i5:=by kernel_rfl
 i9:=by kernel_rfl
 i20:=by kernel_rfl
 i37:=by kernel_rfl
 i46:=by kernel_rfl
 i51:=by kernel_rfl
 i53:=by kernel_rfl
 i171:=by kernel_rfl
 i173:=by kernel_rfl
 i212:=by kernel_rfl
 i232:=by kernel_rfl
 i233:=by kernel_rfl
 m17:=by kernel_rfl
 m18:=by kernel_rfl
 m19:=by kernel_rfl }
open Go.RowKit Go.Sort Go.Lib in
theorem Tryz.strconv_Itoa (n : Int) (h0 : -9223372036854775808 ≤ n) (h1 : n ≤ 9223372036854775807) (w : World) (htab : Lib.TabIs Tryz.prog w "internal/strconv.uint64pow10" .u64 Lib.pow10Tab) :
  Calls Tryz.prog 165 #[.int .i64 n] w fun e w'=>e = .returned (.string ⟨(Lib.itoa n).toArray⟩) ∧ ∃ k os,w' = grow (w.drewN k) os:=Any.strconv_Itoa Tryz.laysM171 n h0 h1 w htab
def Tryz.lays155_ren : Go.Shelf.Ren:=⟨fun | 155=>167 | 154=>229 | 138=>265 | 165=>266 | 143=>267 | 166=>268 | 197=>269 | 169=>270 | 195=>321 | 218=>322 | 240=>323 | 241=>324 | 219=>325 | 260=>326 | 276=>375 | 277=>376 | 217=>230 | 225=>377 | 224=>378 | 267=>379 | 266=>271 | 314=>413 | n=>n,fun | 9=>9 | 3=>3 | 4=>4 | 72=>278 | 0=>0 | 76=>281 | 105=>283 | 21=>21 | 5=>5 | 70=>276 | 20=>20 | 37=>53 | 75=>280 | 127=>313 | 164=>331 | 46=>108 | 119=>334 | 139=>337 | 138=>336 | 146=>351 | 51=>301 | 80=>104 | n=>n,fun | 1=>0 | 3=>2 | 4=>3 | n=>n⟩
theorem Tryz.lays155 : Go.Proofs.Lays.n155 Tryz.prog Tryz.lays155_ren:={
 mixed:=by kernel_rfl
 f138:=Tryz.func265.trans (congrArg some (by kernel_rfl))
 f143:=Tryz.func267.trans (congrArg some (by kernel_rfl))
 f154:=Tryz.func229.trans (congrArg some (by kernel_rfl))
 f155:=Tryz.func167.trans (congrArg some (by kernel_rfl))
 f165:=Tryz.func266.trans (congrArg some (by kernel_rfl))
 f166:=Tryz.func268.trans (congrArg some (by kernel_rfl))
 f169:=Tryz.func270.trans (congrArg some (by kernel_rfl))
 f195:=Tryz.func321.trans (congrArg some (by kernel_rfl))
 f197:=Tryz.func269.trans (congrArg some (by kernel_rfl))
 f217:=Tryz.func230.trans (congrArg some (by kernel_rfl))
 f218:=Tryz.func322.trans (congrArg some (by kernel_rfl))
 f219:=Tryz.func325.trans (congrArg some (by kernel_rfl))
 f224:=Tryz.func378.trans (congrArg some (by kernel_rfl))
 f225:=Tryz.func377.trans (congrArg some (by kernel_rfl))
 f240:=Tryz.func323.trans (congrArg some (by kernel_rfl))
 f241:=Tryz.func324.trans (congrArg some (by kernel_rfl))
 f260:=Tryz.func326.trans (congrArg some (by kernel_rfl))
 f266:=Tryz.func271.trans (congrArg some (by kernel_rfl))
 f267:=Tryz.func379.trans (congrArg some (by kernel_rfl))
 f276:=Tryz.func375.trans (congrArg some (by kernel_rfl))
 f277:=Tryz.func376.trans (congrArg some (by kernel_rfl))
 f314:=Tryz.func413.trans (congrArg some (by kernel_rfl))
 t0:=Tryz.underlying0
 a0:=Tryz.isAgg0
 z0:=Tryz.sizeOf0
 v0:=Tryz.zeroValue0
 t3:=Tryz.underlying3
 a3:=Tryz.isAgg3
 z3:=Tryz.sizeOf3
 v3:=Tryz.zeroValue3
 t4:=Tryz.underlying4
 a4:=Tryz.isAgg4
 z4:=Tryz.sizeOf4
 v4:=Tryz.zeroValue4
 t5:=Tryz.underlying5
 a5:=Tryz.isAgg5
 z5:=Tryz.sizeOf5
 v5:=Tryz.zeroValue5
 t9:=Tryz.underlying9
 a9:=Tryz.isAgg9
 z9:=Tryz.sizeOf9
 v9:=Tryz.zeroValue9
 t20:=Tryz.underlying20
 a20:=Tryz.isAgg20
 z20:=Tryz.sizeOf20
 v20:=Tryz.zeroValue20
 t21:=Tryz.underlying21
 a21:=Tryz.isAgg21
 z21:=Tryz.sizeOf21
 v21:=Tryz.zeroValue21
 t37:=Tryz.underlying53
 a37:=Tryz.isAgg53
 z37:=Tryz.sizeOf53
 v37:=Tryz.zeroValue53
 t46:=Tryz.underlying108
 a46:=Tryz.isAgg108
 z46:=Tryz.sizeOf108
 v46:=Tryz.zeroValue108
 t51:=Tryz.underlying301
 a51:=Tryz.isAgg301
 z51:=Tryz.sizeOf301
 v51:=Tryz.zeroValue301
 t70:=Tryz.underlying276
 a70:=Tryz.isAgg276
 z70:=Tryz.sizeOf276
 v70:=Tryz.zeroValue276
 t72:=Tryz.underlying278
 a72:=Tryz.isAgg278
 z72:=Tryz.sizeOf278
 v72:=Tryz.zeroValue278
 t75:=Tryz.underlying280
 a75:=Tryz.isAgg280
 z75:=Tryz.sizeOf280
 v75:=Tryz.zeroValue280
 t76:=Tryz.underlying281
 a76:=Tryz.isAgg281
 z76:=Tryz.sizeOf281
 v76:=Tryz.zeroValue281
 t105:=Tryz.underlying283
 a105:=Tryz.isAgg283
 z105:=Tryz.sizeOf283
 v105:=Tryz.zeroValue283
 t119:=Tryz.underlying334
 a119:=Tryz.isAgg334
 z119:=Tryz.sizeOf334
 t127:=Tryz.underlying313
 a127:=Tryz.isAgg313
 z127:=Tryz.sizeOf313
 v127:=Tryz.zeroValue313
 t138:=Tryz.underlying336
 a138:=Tryz.isAgg336
 z138:=Tryz.sizeOf336
 v138:=Tryz.zeroValue336
 t139:=Tryz.underlying337
 a139:=Tryz.isAgg337
 z139:=Tryz.sizeOf337
 v139:=Tryz.zeroValue337
 t146:=Tryz.underlying351
 a146:=Tryz.isAgg351
 z146:=Tryz.sizeOf351
 v146:=Tryz.zeroValue351
 t164:=Tryz.underlying331
 a164:=Tryz.isAgg331
 z164:=Tryz.sizeOf331
 v164:=Tryz.zeroValue331
 g1:=by kernel_rfl
 g3:=by kernel_rfl
 g4:=by kernel_rfl }
theorem Tryz.Builder_Extra_155 : Builder.Extra Tryz.prog Tryz.lays155_ren:={
 sizeBuilder:=by kernel_rfl
 liesBuilder:=by kernel_rfl
 t5:=Tryz.underlying5
 a5:=Tryz.isAgg5
 z5:=Tryz.sizeOf5
 v5:=Tryz.zeroValue5
 infoByte:=by kernel_rfl
 cellsByte:=by kernel_rfl
 sizeByte:=by kernel_rfl
 neB5:=by decide }
open Go.RowKit Go.Lib in
theorem Tryz.strings_ReplaceAll (s old new : ByteArray) (m : Int) (w : World) (hs : s.size < 4294967281) (hm : w.cell? ⟨0,0,none⟩ = some (.int .i64 m)) (h1 : 1 ≤ old.size) (hlen : s.size + Lib.countB s old * new.size ≤ 140737488355328) :
  Calls Tryz.prog 167 #[.string s,.string old,.string new] w fun e w' =>
   e = .returned (.string ⟨(Lib.replaceAll s.data.toList old.data.toList new.data.toList).toArray⟩) ∧ Below w.heap.size w w':=Any.strings_ReplaceAll Tryz.lays155 Tryz.Builder_Extra_155 s old new m w hs hm h1 hlen
end Go.Proofs

namespace Go.Dd
open Go.Proofs Go.RowKit
def gdS (w : World) (W : Facts w) (N : Nat) : Gd:=⟨w.heap.size,fun _=>False,N,w.heap,fun w' h=>W.keep fun k hk=>h k (Nat.lt_of_lt_of_le hk W.eight)⟩
theorem HR.empty (w : World) (W : Facts w) (N : Nat) (p : Pos) (hN : N ≤ p.toNat) : HR (gdS w W N) (fun _=>none) ⟨p,.e⟩ w:=by
 constructor
 ·exact fun _ _=>rfl
 ·exact ⟨Nat.le_refl _,fun _ h=>h.elim⟩
 ·exact hN
 ·rintro b a ⟨k,l,L,_,h2,_⟩; cases h2
 ·intro b o h; cases b <;> cases h
 ·intro b L h; cases h
 ·intro b k l L i v h h2; cases h2
 ·intro b l L es j h h2; cases h2
 ·rintro b a ⟨k,l,L,_,h2,_⟩; cases h2
 ·rintro b b' a ⟨k,l,L,_,h2,_⟩; cases h2
 ·intro b l L h h2; cases h2
 ·intro b es l i v h; cases b <;> cases h
 ·intro b s pos L h h2; cases h2
 ·intro b s pos b' s' pos' L L' h h' h2; cases h2
theorem bWa {f : FuncId} {args : List DV} {F : List DV → Hp → aH} {v : DV} {g1 : Hp} (hF : ∀ G,jV Tryz.prog G f F) {p : Pos} (hr : F args ⟨p,.e⟩ = some (v,g1)) (fn : Func) (hf : Tryz.prog.funcs[f]? = some fn) (hb : fn.body.isSome = true)
  (w : World) (W : Facts w) (args' : Array Value) (hargs : VRs (fun _=>none) args args'.toList) :
  Calls Tryz.prog f args' w fun e w'=>∃ ρ' v',e = .returned v' ∧ VR ρ' v v' ∧ HR (gdS w W p.toNat) ρ' g1 w' ∧ Below w.heap.size w w' ∧ ∀ b L, ρ' b = some L → p.toNat ≤ b.toNat:=by
 have H : HR (gdS w W p.toNat) (fun _=>none) ⟨p,.e⟩ w:=HR.empty w W p.toNat p (Nat.le_refl _)
 rcases hF (gdS w W p.toNat) args ⟨p,.e⟩ v g1 hr _ w args' H hargs with ⟨_,h⟩ | ⟨ρ',w',v',h,_⟩
 ·refine h.mono ?_
  rintro e w' ⟨ρ',v',h1,h2,h3,h4,h5⟩
  exact ⟨ρ',v',h1,h3,h4,h5.low,fun b L hL=>(h2.new b L hL).resolve_left (fun e=>by cases e)⟩
 ·exfalso
  have hn : ¬ fn.name = "runtime.NumGoroutine" := by simpa using Try_ok.names f fn hf
  have hbn : fn.body ≠ none:=by intro e; rw [e] at hb; cases hb
  unfold callFunc at h
  simp [hf,hn,hbn] at h
theorem aUx {f : FuncId} {fn : Func} (hf : Tryz.prog.funcs[f]? = some fn) (hb : fn.body.isSome = true) (args : Array Value) (w : World) : (callFunc f args).run Tryz.prog w = .ok (.enter f args) w:=by
 have hn : ¬ fn.name = "runtime.NumGoroutine" := by simpa using Try_ok.names f fn hf
 have hbn : fn.body ≠ none:=by intro e; rw [e] at hb; cases hb
 unfold callFunc
 simp [hf,hn,hbn]
end Go.Dd

namespace Go.Dd
open Go.Proofs Go.Lib Go.RowKit
theorem CallFn.of {G : Gd} {ρ : Ren} {w : World} {v : DV} {h1 : Hp} {g : FuncId} {args' : Array Value} (fn : Func) (hf : Tryz.prog.funcs[g]? = some fn) (hb : fn.body.isSome = true)
  (hc : Calls Tryz.prog g args' w (bS G ρ w v h1)) : CallFn CF1.P G ρ w v h1 g args':=by
 refine .inl ⟨?_,hc⟩
 have hf' : CF1.P.funcs[g]? = some fn:=hf
 have hn : ¬ fn.name = "runtime.NumGoroutine" := by simpa using Try_ok.names g fn hf'
 have hbn : fn.body ≠ none:=by intro e; rw [e] at hb; cases hb
 unfold callFunc
 simp [hf',hn,hbn]
theorem zJ : ∀ (f n : Nat) (acc : List Nat),n < 10 ^ f → 0 < f → aGh f n acc = (Lib.decDigits n).map (·.toNat) ++ acc
 | 0,n,acc,h,h0=>by omega
 | f + 1,n,acc,h,_=>by
  have hd : ∀ d,d < 10 → (UInt8.ofNat (48 + d)).toNat = 48 + d:=fun d hd=>by simp; omega
  unfold aGh
  rw [Lib.decDigits]
  cases e : Nat.ble 10 n with
  | false =>
   have hn : n < 10:=by
    rcases Nat.lt_or_ge n 10 with h | h
    ·exact h
    ·rw [Nat.ble_eq_true_of_le h] at e; cases e
   simp only [cond_false]
   rw [dif_pos hn]
   show (48 + n) :: acc = _
   simp [hd n hn]
   omega
  | true =>
   have hn:=Nat.le_of_ble_eq_true e
   simp only [cond_true]
   rw [dif_neg (by omega)]
   have hf : 0 < f:=by
    rcases Nat.eq_zero_or_pos f with h1 | h1
    ·subst h1; simp at h; omega
    ·exact h1
   show aGh f (n / 10) ((48 + n % 10) :: acc) = _
   rw [zJ f (n / 10) _ (by rw [Nat.pow_succ] at h; omega) hf]
   simp [hd (n % 10) (by omega)]
   omega
theorem cWs (n : Int) (h0 : -9223372036854775808 ≤ n) (h1 : n ≤ 9223372036854775807) : cCj n = (Lib.itoa n).map (·.toNat):=by
 unfold Lib.itoa cCj
 cases n with
 | ofNat n =>
  rw [if_neg (by simp)]
  simp only
  rw [zJ 20 n [] (by simp at h1; omega) (by omega)]
  simp
 | negSucc n =>
  rw [if_pos (by omega)]
  simp only
  rw [zJ 20 _ [] (by show n + 1 < _; omega) (by omega)]
  simp
theorem dLc (G : Gd) : jV CF1.P G 165 aDa:=by
 intro args h v h1 hr ρ w args' H hargs
 unfold aDa at hr
 split at hr <;> (try (cases hr; done))
 rename_i n
 cases hc : (decide (-9223372036854775808 ≤ n) && decide (n ≤ 9223372036854775807)) with
 | false=>rw [hc] at hr; cases hr
 | true =>
 rw [hc] at hr
 simp only [Bool.and_eq_true,decide_eq_true_eq] at hc
 simp only [cond_true,bB,bN] at hr
 obtain ⟨rfl,rfl⟩:=hr
 obtain ⟨a⟩:=args'
 cases hargs with
 | cons _ x' l1 l1' hx hxs =>
 cases hxs
 cases hx
 refine CallFn.of Tryz.f165 (by kernel_rfl) (by kernel_rfl) ?_
 have F:=(G.ok w H.gl).1
 have htab : Lib.TabIs Tryz.prog w "internal/strconv.uint64pow10" .u64 Lib.pow10Tab:=by
  obtain ⟨_,t,z,ht⟩:=F
  have hg : Tryz.prog.globalNamed "internal/strconv.uint64pow10" = some 1:=by kernel_rfl
  unfold Lib.TabIs World.var?
  rw [hg]
  simp only [Option.bind_some,ht]
 refine (Tryz.strconv_Itoa n hc.1 hc.2 w htab).mono ?_
 rintro e w' ⟨rfl,k,os,rfl⟩
 have hbel : Below w.heap.size w (Sort.grow (w.drewN k) os):=⟨rfl,rfl,rfl,by simp [Sort.grow,World.drewN],fun i hi=>by
  show (w.heap ++ os)[i]? = _
  rw [Array.getElem?_append_left hi]⟩
 exact ⟨ρ,_,rfl,Ex.refl _ _,.s _ _ (cWs n hc.1 hc.2).symm,H.later hbel,Kp.later H hbel⟩
theorem eBy (b c : UInt8) : Nat.beq b.toNat c.toNat = (b == c):=by
 rw [Bool.eq_iff_iff]
 constructor
 ·intro h
  have:=Nat.eq_of_beq_eq_true h
  simpa using UInt8.toNat_inj.1 this
 ·intro h
  have h2 : b = c:=by simpa using h
  rw [h2]; simp
theorem eGg {bs : ByteArray} {c : Nat} (h : bs.data.toList.map (·.toNat) = [c]) : ∃ u : UInt8,bs = ⟨#[u]⟩ ∧ u.toNat = c:=by
 obtain ⟨⟨l⟩⟩:=bs
 match l,h with
 | [u],h=>exact ⟨u,rfl,by simpa using h⟩
def pI (c : UInt8) (new : List UInt8) : List UInt8 → List UInt8
 | []=>[]
 | x :: l=>if x = c then new ++ pI c new l else x :: pI c new l
theorem cKw {b c : UInt8} {l : List UInt8} (h : b ≠ c) {i : Nat} (hi : index l [c] = i) : index (b :: l) [c] = ((i + 1 : Nat) : Int):=by
 have hp : ([c] : List UInt8).isPrefixOf (b :: l) = false:=by simp [List.isPrefixOf,Ne.symm h]
 rw [index,hp,hi]
 simp
theorem cGu {c : UInt8} {l : List UInt8} : index (c :: l) [c] = ((0 : Nat) : Int):=by
 rw [index]; simp [List.isPrefixOf]
theorem aTp (c : UInt8) (new : List UInt8) : ∀ s : List UInt8,replaceK [c] new (count s [c]) s = pI c new s
 | []=>by rw [count_one]; rfl
 | b :: l=>by
  have ih:=aTp c new l
  by_cases h : b = c
  ·subst h
   rw [count_cons_eq,Nat.add_comm,replaceK_hit _ _ _ _ 0 cGu]
   simp [pI,ih]
  ·rw [count_cons_ne _ _ _ h]
   simp only [pI,if_neg h]
   cases hk : count l [c] with
   | zero =>
    rw [hk] at ih
    simp only [replaceK] at ih ⊢
    rw [← ih]
   | succ k =>
    rw [hk] at ih
    obtain ⟨i,hi⟩:=index_of_count (s:=l) (old:=[c]) (by omega)
    rw [replaceK_hit _ _ _ _ i hi] at ih
    rw [replaceK_hit _ _ _ _ (i + 1) (cKw h hi),← ih]
    simp [Nat.add_right_comm]
theorem aBd (c : UInt8) : ∀ s : List UInt8,pI c [c] s = s
 | []=>rfl
 | x :: l=>by
  simp only [pI,aBd c l]
  split
  ·rename_i h; subst h; rfl
  ·rfl
theorem cRc (s : List UInt8) (c : UInt8) (new : List UInt8) : replaceAll s [c] new = pI c new s:=by
 unfold replaceAll replace
 split
 ·rename_i h
  have : [c] = new:=by simpa using h
  subst this
  rw [aBd]
 ·unfold replaceNum
  rw [if_pos (.inl (by decide))]
  exact aTp c new s
theorem aSp (c : UInt8) (new : List UInt8) : ∀ s : List UInt8,aRp c.toNat (new.map (·.toNat)) (s.map (·.toNat)) = (pI c new s).map (·.toNat)
 | []=>rfl
 | x :: l=>by
  simp only [List.map_cons,aRp,pI,aSp c new l,eBy]
  by_cases h : x = c
  ·subst h; simp
  ·rw [if_neg h,show (x == c) = false by simpa using h]; simp
theorem dBk (G : Gd) : jV CF1.P G 167 aEj:=by
 intro args h v h1 hr ρ w args' H hargs
 unfold aEj at hr
 split at hr <;> (try (cases hr; done))
 rename_i s c new
 cases hc : Nat.blt c 256 with
 | false=>rw [hc] at hr; cases hr
 | true =>
 rw [hc] at hr
 cases hc2 : Nat.ble s.length 4000000000 with
 | false=>rw [hc2] at hr; cases hr
 | true =>
 rw [hc2] at hr
 cases hc3 : Nat.ble new.length 1000 with
 | false=>rw [hc3] at hr; cases hr
 | true =>
 rw [hc3] at hr
 have hs':=Nat.le_of_ble_eq_true hc2
 have hn':=Nat.le_of_ble_eq_true hc3
 simp only [cond_true,bB,bN] at hr
 obtain ⟨rfl,rfl⟩:=hr
 obtain ⟨a⟩:=args'
 cases hargs with
 | cons _ x' l1 l1' hx hxs =>
 cases hxs with
 | cons _ y' l2 l2' hy hys =>
 cases hys with
 | cons _ z' l3 l3' hz hzs =>
 cases hzs
 cases hx with
 | s _ bs hbs =>
 cases hy with
 | s _ bc hbc =>
 cases hz with
 | s _ bn hbn =>
 obtain ⟨u,rfl,rfl⟩:=eGg hbc
 subst hbs hbn
 have e1 : bs.size ≤ 4000000000:=by rw [List.length_map,Array.length_toList] at hs'; exact hs'
 have e2 : bn.size ≤ 1000:=by rw [List.length_map,Array.length_toList] at hn'; exact hn'
 refine CallFn.of Tryz.f167 (by kernel_rfl) (by kernel_rfl) ?_
 obtain ⟨⟨⟨m,hm⟩,_⟩,_⟩:=G.ok w H.gl
 have hcnt : countB bs ⟨#[u]⟩ ≤ bs.size:=countB_le _ (by simp [ByteArray.size]) _ _ (Nat.le_refl _)
 have hmul : countB bs ⟨#[u]⟩ * bn.size ≤ 4000000000 * 1000:=Nat.mul_le_mul (by omega) e2
 refine (Tryz.strings_ReplaceAll bs ⟨#[u]⟩ bn m w (by omega) hm (by simp [ByteArray.size]) (by omega)).mono ?_
 rintro e w' ⟨rfl,hbel⟩
 refine ⟨ρ,_,rfl,Ex.refl _ _,.s _ _ ?_,H.later hbel,Kp.later H hbel⟩
 rw [aSp,← cRc]
end Go.Dd

namespace Go.Dd
open Go.Proofs
def P6 : Array Oper:=dE (cL (cR (cR (cf Tryz.f124))))
def dRw : Code:=cL (cR (cL (cR (cf Tryz.f124))))
theorem eTg : cf Tryz.f124 = .seq (.region 0 (dE (cL (cf Tryz.f124))) false) (.seq (.seq (.region 1 (dE (cL (cL (cR (cf Tryz.f124))))) false) (.block 0 (.loop (cL dRw)))) (.seq (.region 6 P6 true) (.seq (.region 7 (dE (cL (cR (cR (cR (cf Tryz.f124)))))) false) .ret))):=by kernel_rfl
theorem eMp : Tryz.f124.ntmps = 47:=by kernel_rfl
theorem eRn : Tryz.prog.funcs[124]? = some Tryz.f124:=by kernel_rfl
theorem dQi : Tryz.f124.body = some (cf Tryz.f124):=by kernel_rfl
theorem dWl (e : aZ) (h : Hp) : bE CF0 Tryz.f124 e h = some (e 4,h):=by kernel_rfl
theorem pd0 (rec : FuncId → List DV → Hp → aH) (k : K) (env : aZ) (h : Hp) : fY CF0 rec 47 (dE (cL (cf Tryz.f124))) (dE (cL (cf Tryz.f124))).toList k env h = (
 bnd (bZ (env 1) h) fun v1 h1 =>
 k (bJ (bJ env (some 3) v1) (some 4) (.i .i64 (Int.ofNat 0))) h1):=by kernel_rfl
theorem pd1 (rec : FuncId → List DV → Hp → aH) (k : K) (env : aZ) (h : Hp) : fY CF0 rec 47 (dE (cL (cL (cR (cf Tryz.f124))))) (dE (cL (cL (cR (cf Tryz.f124))))).toList k env h =
 k (bJ env (some 5) (.i .i64 (Int.ofNat 0))) h:=by kernel_rfl
theorem pd7 (rec : FuncId → List DV → Hp → aH) (k : K) (env : aZ) (h : Hp) : fY CF0 rec 47 (dE (cL (cR (cR (cR (cf Tryz.f124)))))) (dE (cL (cR (cR (cR (cf Tryz.f124)))))).toList k env h = (
 bnd (aV (env 0) h) fun v1 h1 =>
 bnd (aB 0 v1 h1) fun v2 h2 =>
 bnd (aB 4 v2 h2) fun v3 h3 =>
 bnd (aA v3 h3) fun v4 h4 =>
 bnd (bM v4 h4) fun v5 h5 =>
 bnd (aC .sub v5 (.i .i64 (Int.ofNat 1)) h5) fun v6 h6 =>
 k (bJ (bJ (bJ (bJ (bJ (bJ (bJ (bJ env (some 40) (env 0)) (some 41) v1) (some 42) v2) (some 43) v3) (some 44) v4) (some 45) v5) (some 46) v6) (some 4) v6) h6):=by kernel_rfl
theorem eYl (rec : FuncId → List DV → Hp → aH) (X : Nat → K) (kr k : K) : aW CF0 rec 47 300 (cL (cf Tryz.f124)) X kr k = fY CF0 rec 47 (dE (cL (cf Tryz.f124))) (dE (cL (cf Tryz.f124))).toList k:=by kernel_rfl
theorem eWu (rec : FuncId → List DV → Hp → aH) (X : Nat → K) (kr k : K) : aW CF0 rec 47 300 (cL (cR (cf Tryz.f124))) X kr k = fY CF0 rec 47 (dE (cL (cL (cR (cf Tryz.f124))))) (dE (cL (cL (cR (cf Tryz.f124))))).toList (aW CF0 rec 47 300 (.loop (cL dRw)) (fun j=>bif Nat.beq j 0 then k else X j) kr bY):=by kernel_rfl
def o6 (i : Nat) : Oper:=(P6.toList[i]?).getD (Oper.mk none (.move (.tmp 0)) 0 "" #[] none)
theorem y6 : P6.size = 15:=by kernel_rfl
theorem cZf : P6[0]? = some (o6 0):=by kernel_rfl
theorem eVu (rec : FuncId → List DV → Hp → aH) (env : aZ) (h : Hp) : bA CF0 rec P6 (o6 0) env h = some (env 0,h):=by kernel_rfl
theorem cRy : (o6 0).dst = some 27:=by kernel_rfl
theorem cZy : P6[1]? = some (o6 1):=by kernel_rfl
theorem eXf (rec : FuncId → List DV → Hp → aH) (env : aZ) (h : Hp) : bA CF0 rec P6 (o6 1) env h = aV (env 27) h:=by kernel_rfl
theorem cAn : (o6 1).dst = some 28:=by kernel_rfl
theorem dFl : P6[2]? = some (o6 2):=by kernel_rfl
theorem eZq (rec : FuncId → List DV → Hp → aH) (env : aZ) (h : Hp) : bA CF0 rec P6 (o6 2) env h = aB 0 (env 28) h:=by kernel_rfl
theorem cBo : (o6 2).dst = some 29:=by kernel_rfl
theorem cYq : P6[3]? = some (o6 3):=by kernel_rfl
theorem eWy (rec : FuncId → List DV → Hp → aH) (env : aZ) (h : Hp) : bA CF0 rec P6 (o6 3) env h = aB 4 (env 29) h:=by kernel_rfl
theorem cGc : (o6 3).dst = some 30:=by kernel_rfl
theorem cZq : P6[4]? = some (o6 4):=by kernel_rfl
theorem fAq (rec : FuncId → List DV → Hp → aH) (env : aZ) (h : Hp) : bA CF0 rec P6 (o6 4) env h = aA (env 30) h:=by kernel_rfl
theorem cEk : (o6 4).dst = some 31:=by kernel_rfl
theorem sS : P6[5]? = some (o6 5):=by kernel_rfl
theorem eYt (rec : FuncId → List DV → Hp → aH) (env : aZ) (h : Hp) : bA CF0 rec P6 (o6 5) env h = aK 4 (env 3) h:=by kernel_rfl
theorem pZ : (o6 5).dst = some 32:=by kernel_rfl
theorem dEn : P6[6]? = some (o6 6):=by kernel_rfl
theorem eWe (rec : FuncId → List DV → Hp → aH) (env : aZ) (h : Hp) : bA CF0 rec P6 (o6 6) env h = bM (env 31) h:=by kernel_rfl
theorem bZo : (o6 6).dst = some 33:=by kernel_rfl
theorem sJ : P6[7]? = some (o6 7):=by kernel_rfl
theorem fAu (rec : FuncId → List DV → Hp → aH) (env : aZ) (h : Hp) : bA CF0 rec P6 (o6 7) env h = aS [(.i .i64 (Int.ofNat 0)),(.s []),(.i .i64 (Int.ofNat 0)),.l0] 1 [(0,4,(.a [(.i .i64 (Int.ofNat 0)),(.s []),(.i .i64 (Int.ofNat 0)),.l0]))] h:=by kernel_rfl
theorem pL : (o6 7).dst = some 34:=by kernel_rfl
theorem fAo : P6[8]? = some (o6 8):=by kernel_rfl
theorem eXb (rec : FuncId → List DV → Hp → aH) (env : aZ) (h : Hp) : bA CF0 rec P6 (o6 8) env h = bH 4 56 (env 31) (env 34) h:=by kernel_rfl
theorem eIy : (o6 8).dst = some 35:=by kernel_rfl
theorem bXq : P6[9]? = some (o6 9):=by kernel_rfl
theorem fAj (rec : FuncId → List DV → Hp → aH) (env : aZ) (h : Hp) : bA CF0 rec P6 (o6 9) env h = aG 4 (env 35) (env 33) h:=by kernel_rfl
theorem bSl : (o6 9).dst = some 36:=by kernel_rfl
theorem aSe : P6[10]? = some (o6 10):=by kernel_rfl
theorem eOs (rec : FuncId → List DV → Hp → aH) (env : aZ) (h : Hp) : bA CF0 rec P6 (o6 10) env h = aJ 4 (env 36) (env 32) h:=by kernel_rfl
theorem aFv : (o6 10).dst = none:=by kernel_rfl
theorem cVe : P6[11]? = some (o6 11):=by kernel_rfl
theorem eTd (rec : FuncId → List DV → Hp → aH) (env : aZ) (h : Hp) : bA CF0 rec P6 (o6 11) env h = aV (env 27) h:=by kernel_rfl
theorem bJe : (o6 11).dst = some 37:=by kernel_rfl
theorem bZt : P6[12]? = some (o6 12):=by kernel_rfl
theorem eNl (rec : FuncId → List DV → Hp → aH) (env : aZ) (h : Hp) : bA CF0 rec P6 (o6 12) env h = aB 0 (env 37) h:=by kernel_rfl
theorem bMp : (o6 12).dst = some 38:=by kernel_rfl
theorem cKa : P6[13]? = some (o6 13):=by kernel_rfl
theorem eJu (rec : FuncId → List DV → Hp → aH) (env : aZ) (h : Hp) : bA CF0 rec P6 (o6 13) env h = aB 4 (env 38) h:=by kernel_rfl
theorem bLq : (o6 13).dst = some 39:=by kernel_rfl
theorem bXd : P6[14]? = some (o6 14):=by kernel_rfl
theorem eUh (rec : FuncId → List DV → Hp → aH) (env : aZ) (h : Hp) : bA CF0 rec P6 (o6 14) env h = aJ 1 (env 39) (env 35) h:=by kernel_rfl
theorem bPy : (o6 14).dst = none:=by kernel_rfl
theorem eOd : Region.ready .any P6 #[false,false,false,false,false,false,false,false,false,false,false,false,false,false,false] = [0,5,7]:=by kernel_rfl
theorem eEq : (#[false,false,false,false,false,false,false,false,false,false,false,false,false,false,false] : Array Bool).setIfInBounds 0 true = #[true,false,false,false,false,false,false,false,false,false,false,false,false,false,false]:=by kernel_rfl
theorem dXr : (#[false,false,false,false,false,false,false,false,false,false,false,false,false,false,false] : Array Bool).setIfInBounds 5 true = #[false,false,false,false,false,true,false,false,false,false,false,false,false,false,false]:=by kernel_rfl
theorem dZu : (#[false,false,false,false,false,false,false,false,false,false,false,false,false,false,false] : Array Bool).setIfInBounds 7 true = #[false,false,false,false,false,false,false,true,false,false,false,false,false,false,false]:=by kernel_rfl
theorem eOh : Region.ready .any P6 #[true,false,false,false,false,false,false,false,false,false,false,false,false,false,false] = [1,5,7]:=by kernel_rfl
theorem dYy : (#[true,false,false,false,false,false,false,false,false,false,false,false,false,false,false] : Array Bool).setIfInBounds 1 true = #[true,true,false,false,false,false,false,false,false,false,false,false,false,false,false]:=by kernel_rfl
theorem dYp : (#[true,false,false,false,false,false,false,false,false,false,false,false,false,false,false] : Array Bool).setIfInBounds 5 true = #[true,false,false,false,false,true,false,false,false,false,false,false,false,false,false]:=by kernel_rfl
theorem dXb : (#[true,false,false,false,false,false,false,false,false,false,false,false,false,false,false] : Array Bool).setIfInBounds 7 true = #[true,false,false,false,false,false,false,true,false,false,false,false,false,false,false]:=by kernel_rfl
theorem dRq : Region.ready .any P6 #[false,false,false,false,false,true,false,false,false,false,false,false,false,false,false] = [0,7]:=by kernel_rfl
theorem cZa : (#[false,false,false,false,false,true,false,false,false,false,false,false,false,false,false] : Array Bool).setIfInBounds 0 true = #[true,false,false,false,false,true,false,false,false,false,false,false,false,false,false]:=by kernel_rfl
theorem dEh : (#[false,false,false,false,false,true,false,false,false,false,false,false,false,false,false] : Array Bool).setIfInBounds 7 true = #[false,false,false,false,false,true,false,true,false,false,false,false,false,false,false]:=by kernel_rfl
theorem cVu : Region.ready .any P6 #[false,false,false,false,false,false,false,true,false,false,false,false,false,false,false] = [0,5]:=by kernel_rfl
theorem cMn : (#[false,false,false,false,false,false,false,true,false,false,false,false,false,false,false] : Array Bool).setIfInBounds 0 true = #[true,false,false,false,false,false,false,true,false,false,false,false,false,false,false]:=by kernel_rfl
theorem cTd : (#[false,false,false,false,false,false,false,true,false,false,false,false,false,false,false] : Array Bool).setIfInBounds 5 true = #[false,false,false,false,false,true,false,true,false,false,false,false,false,false,false]:=by kernel_rfl
theorem eOq : Region.ready .any P6 #[true,true,false,false,false,false,false,false,false,false,false,false,false,false,false] = [2,5,7]:=by kernel_rfl
theorem eHy : (#[true,true,false,false,false,false,false,false,false,false,false,false,false,false,false] : Array Bool).setIfInBounds 2 true = #[true,true,true,false,false,false,false,false,false,false,false,false,false,false,false]:=by kernel_rfl
theorem dVc : (#[true,true,false,false,false,false,false,false,false,false,false,false,false,false,false] : Array Bool).setIfInBounds 5 true = #[true,true,false,false,false,true,false,false,false,false,false,false,false,false,false]:=by kernel_rfl
theorem eBa : (#[true,true,false,false,false,false,false,false,false,false,false,false,false,false,false] : Array Bool).setIfInBounds 7 true = #[true,true,false,false,false,false,false,true,false,false,false,false,false,false,false]:=by kernel_rfl
theorem dSg : Region.ready .any P6 #[true,false,false,false,false,true,false,false,false,false,false,false,false,false,false] = [1,7]:=by kernel_rfl
theorem dBh : (#[true,false,false,false,false,true,false,false,false,false,false,false,false,false,false] : Array Bool).setIfInBounds 1 true = #[true,true,false,false,false,true,false,false,false,false,false,false,false,false,false]:=by kernel_rfl
theorem cZn : (#[true,false,false,false,false,true,false,false,false,false,false,false,false,false,false] : Array Bool).setIfInBounds 7 true = #[true,false,false,false,false,true,false,true,false,false,false,false,false,false,false]:=by kernel_rfl
theorem cHf : Region.ready .any P6 #[true,false,false,false,false,false,false,true,false,false,false,false,false,false,false] = [1,5]:=by kernel_rfl
theorem cSh : (#[true,false,false,false,false,false,false,true,false,false,false,false,false,false,false] : Array Bool).setIfInBounds 1 true = #[true,true,false,false,false,false,false,true,false,false,false,false,false,false,false]:=by kernel_rfl
theorem bZp : (#[true,false,false,false,false,false,false,true,false,false,false,false,false,false,false] : Array Bool).setIfInBounds 5 true = #[true,false,false,false,false,true,false,true,false,false,false,false,false,false,false]:=by kernel_rfl
theorem bWu : Region.ready .any P6 #[false,false,false,false,false,true,false,true,false,false,false,false,false,false,false] = [0]:=by kernel_rfl
theorem cDh : (#[false,false,false,false,false,true,false,true,false,false,false,false,false,false,false] : Array Bool).setIfInBounds 0 true = #[true,false,false,false,false,true,false,true,false,false,false,false,false,false,false]:=by kernel_rfl
theorem eMw : Region.ready .any P6 #[true,true,true,false,false,false,false,false,false,false,false,false,false,false,false] = [3,5,7]:=by kernel_rfl
theorem eFw : (#[true,true,true,false,false,false,false,false,false,false,false,false,false,false,false] : Array Bool).setIfInBounds 3 true = #[true,true,true,true,false,false,false,false,false,false,false,false,false,false,false]:=by kernel_rfl
theorem eFr : (#[true,true,true,false,false,false,false,false,false,false,false,false,false,false,false] : Array Bool).setIfInBounds 5 true = #[true,true,true,false,false,true,false,false,false,false,false,false,false,false,false]:=by kernel_rfl
theorem dXi : (#[true,true,true,false,false,false,false,false,false,false,false,false,false,false,false] : Array Bool).setIfInBounds 7 true = #[true,true,true,false,false,false,false,true,false,false,false,false,false,false,false]:=by kernel_rfl
theorem dSp : Region.ready .any P6 #[true,true,false,false,false,true,false,false,false,false,false,false,false,false,false] = [2,7]:=by kernel_rfl
theorem dHe : (#[true,true,false,false,false,true,false,false,false,false,false,false,false,false,false] : Array Bool).setIfInBounds 2 true = #[true,true,true,false,false,true,false,false,false,false,false,false,false,false,false]:=by kernel_rfl
theorem dGa : (#[true,true,false,false,false,true,false,false,false,false,false,false,false,false,false] : Array Bool).setIfInBounds 7 true = #[true,true,false,false,false,true,false,true,false,false,false,false,false,false,false]:=by kernel_rfl
theorem bYu : Region.ready .any P6 #[true,true,false,false,false,false,false,true,false,false,false,false,false,false,false] = [2,5]:=by kernel_rfl
theorem bYa : (#[true,true,false,false,false,false,false,true,false,false,false,false,false,false,false] : Array Bool).setIfInBounds 2 true = #[true,true,true,false,false,false,false,true,false,false,false,false,false,false,false]:=by kernel_rfl
theorem cSv : (#[true,true,false,false,false,false,false,true,false,false,false,false,false,false,false] : Array Bool).setIfInBounds 5 true = #[true,true,false,false,false,true,false,true,false,false,false,false,false,false,false]:=by kernel_rfl
theorem cMd : Region.ready .any P6 #[true,false,false,false,false,true,false,true,false,false,false,false,false,false,false] = [1]:=by kernel_rfl
theorem cMj : (#[true,false,false,false,false,true,false,true,false,false,false,false,false,false,false] : Array Bool).setIfInBounds 1 true = #[true,true,false,false,false,true,false,true,false,false,false,false,false,false,false]:=by kernel_rfl
theorem dRb : Region.ready .any P6 #[true,true,true,true,false,false,false,false,false,false,false,false,false,false,false] = [4,5,7]:=by kernel_rfl
theorem dOm : (#[true,true,true,true,false,false,false,false,false,false,false,false,false,false,false] : Array Bool).setIfInBounds 4 true = #[true,true,true,true,true,false,false,false,false,false,false,false,false,false,false]:=by kernel_rfl
theorem cXi : (#[true,true,true,true,false,false,false,false,false,false,false,false,false,false,false] : Array Bool).setIfInBounds 5 true = #[true,true,true,true,false,true,false,false,false,false,false,false,false,false,false]:=by kernel_rfl
theorem dFh : (#[true,true,true,true,false,false,false,false,false,false,false,false,false,false,false] : Array Bool).setIfInBounds 7 true = #[true,true,true,true,false,false,false,true,false,false,false,false,false,false,false]:=by kernel_rfl
theorem dRa : Region.ready .any P6 #[true,true,true,false,false,true,false,false,false,false,false,false,false,false,false] = [3,7]:=by kernel_rfl
theorem dIj : (#[true,true,true,false,false,true,false,false,false,false,false,false,false,false,false] : Array Bool).setIfInBounds 3 true = #[true,true,true,true,false,true,false,false,false,false,false,false,false,false,false]:=by kernel_rfl
theorem dAm : (#[true,true,true,false,false,true,false,false,false,false,false,false,false,false,false] : Array Bool).setIfInBounds 7 true = #[true,true,true,false,false,true,false,true,false,false,false,false,false,false,false]:=by kernel_rfl
theorem cHq : Region.ready .any P6 #[true,true,true,false,false,false,false,true,false,false,false,false,false,false,false] = [3,5]:=by kernel_rfl
theorem bYf : (#[true,true,true,false,false,false,false,true,false,false,false,false,false,false,false] : Array Bool).setIfInBounds 3 true = #[true,true,true,true,false,false,false,true,false,false,false,false,false,false,false]:=by kernel_rfl
theorem cIn : (#[true,true,true,false,false,false,false,true,false,false,false,false,false,false,false] : Array Bool).setIfInBounds 5 true = #[true,true,true,false,false,true,false,true,false,false,false,false,false,false,false]:=by kernel_rfl
theorem cLe : Region.ready .any P6 #[true,true,false,false,false,true,false,true,false,false,false,false,false,false,false] = [2]:=by kernel_rfl
theorem cHe : (#[true,true,false,false,false,true,false,true,false,false,false,false,false,false,false] : Array Bool).setIfInBounds 2 true = #[true,true,true,false,false,true,false,true,false,false,false,false,false,false,false]:=by kernel_rfl
theorem dSx : Region.ready .any P6 #[true,true,true,true,true,false,false,false,false,false,false,false,false,false,false] = [5,6,7]:=by kernel_rfl
theorem dAu : (#[true,true,true,true,true,false,false,false,false,false,false,false,false,false,false] : Array Bool).setIfInBounds 5 true = #[true,true,true,true,true,true,false,false,false,false,false,false,false,false,false]:=by kernel_rfl
theorem dMt : (#[true,true,true,true,true,false,false,false,false,false,false,false,false,false,false] : Array Bool).setIfInBounds 6 true = #[true,true,true,true,true,false,true,false,false,false,false,false,false,false,false]:=by kernel_rfl
theorem dCg : (#[true,true,true,true,true,false,false,false,false,false,false,false,false,false,false] : Array Bool).setIfInBounds 7 true = #[true,true,true,true,true,false,false,true,false,false,false,false,false,false,false]:=by kernel_rfl
theorem dSr : Region.ready .any P6 #[true,true,true,true,false,true,false,false,false,false,false,false,false,false,false] = [4,7]:=by kernel_rfl
theorem dEz : (#[true,true,true,true,false,true,false,false,false,false,false,false,false,false,false] : Array Bool).setIfInBounds 4 true = #[true,true,true,true,true,true,false,false,false,false,false,false,false,false,false]:=by kernel_rfl
theorem cYt : (#[true,true,true,true,false,true,false,false,false,false,false,false,false,false,false] : Array Bool).setIfInBounds 7 true = #[true,true,true,true,false,true,false,true,false,false,false,false,false,false,false]:=by kernel_rfl
theorem cXa : Region.ready .any P6 #[true,true,true,true,false,false,false,true,false,false,false,false,false,false,false] = [4,5]:=by kernel_rfl
theorem cJs : (#[true,true,true,true,false,false,false,true,false,false,false,false,false,false,false] : Array Bool).setIfInBounds 4 true = #[true,true,true,true,true,false,false,true,false,false,false,false,false,false,false]:=by kernel_rfl
theorem cLy : (#[true,true,true,true,false,false,false,true,false,false,false,false,false,false,false] : Array Bool).setIfInBounds 5 true = #[true,true,true,true,false,true,false,true,false,false,false,false,false,false,false]:=by kernel_rfl
theorem cAr : Region.ready .any P6 #[true,true,true,false,false,true,false,true,false,false,false,false,false,false,false] = [3]:=by kernel_rfl
theorem cVm : (#[true,true,true,false,false,true,false,true,false,false,false,false,false,false,false] : Array Bool).setIfInBounds 3 true = #[true,true,true,true,false,true,false,true,false,false,false,false,false,false,false]:=by kernel_rfl
theorem dRl : Region.ready .any P6 #[true,true,true,true,true,true,false,false,false,false,false,false,false,false,false] = [6,7]:=by kernel_rfl
theorem dAv : (#[true,true,true,true,true,true,false,false,false,false,false,false,false,false,false] : Array Bool).setIfInBounds 6 true = #[true,true,true,true,true,true,true,false,false,false,false,false,false,false,false]:=by kernel_rfl
theorem dPc : (#[true,true,true,true,true,true,false,false,false,false,false,false,false,false,false] : Array Bool).setIfInBounds 7 true = #[true,true,true,true,true,true,false,true,false,false,false,false,false,false,false]:=by kernel_rfl
theorem dQz : Region.ready .any P6 #[true,true,true,true,true,false,true,false,false,false,false,false,false,false,false] = [5,7]:=by kernel_rfl
theorem cZm : (#[true,true,true,true,true,false,true,false,false,false,false,false,false,false,false] : Array Bool).setIfInBounds 5 true = #[true,true,true,true,true,true,true,false,false,false,false,false,false,false,false]:=by kernel_rfl
theorem dAa : (#[true,true,true,true,true,false,true,false,false,false,false,false,false,false,false] : Array Bool).setIfInBounds 7 true = #[true,true,true,true,true,false,true,true,false,false,false,false,false,false,false]:=by kernel_rfl
theorem cKk : Region.ready .any P6 #[true,true,true,true,true,false,false,true,false,false,false,false,false,false,false] = [5,6]:=by kernel_rfl
theorem cHo : (#[true,true,true,true,true,false,false,true,false,false,false,false,false,false,false] : Array Bool).setIfInBounds 5 true = #[true,true,true,true,true,true,false,true,false,false,false,false,false,false,false]:=by kernel_rfl
theorem bXg : (#[true,true,true,true,true,false,false,true,false,false,false,false,false,false,false] : Array Bool).setIfInBounds 6 true = #[true,true,true,true,true,false,true,true,false,false,false,false,false,false,false]:=by kernel_rfl
theorem cPo : Region.ready .any P6 #[true,true,true,true,false,true,false,true,false,false,false,false,false,false,false] = [4]:=by kernel_rfl
theorem cSf : (#[true,true,true,true,false,true,false,true,false,false,false,false,false,false,false] : Array Bool).setIfInBounds 4 true = #[true,true,true,true,true,true,false,true,false,false,false,false,false,false,false]:=by kernel_rfl
theorem cSq : Region.ready .any P6 #[true,true,true,true,true,true,true,false,false,false,false,false,false,false,false] = [7]:=by kernel_rfl
theorem cAv : (#[true,true,true,true,true,true,true,false,false,false,false,false,false,false,false] : Array Bool).setIfInBounds 7 true = #[true,true,true,true,true,true,true,true,false,false,false,false,false,false,false]:=by kernel_rfl
theorem cKe : Region.ready .any P6 #[true,true,true,true,true,true,false,true,false,false,false,false,false,false,false] = [6]:=by kernel_rfl
theorem bZe : (#[true,true,true,true,true,true,false,true,false,false,false,false,false,false,false] : Array Bool).setIfInBounds 6 true = #[true,true,true,true,true,true,true,true,false,false,false,false,false,false,false]:=by kernel_rfl
theorem bZz : Region.ready .any P6 #[true,true,true,true,true,false,true,true,false,false,false,false,false,false,false] = [5]:=by kernel_rfl
theorem cTg : (#[true,true,true,true,true,false,true,true,false,false,false,false,false,false,false] : Array Bool).setIfInBounds 5 true = #[true,true,true,true,true,true,true,true,false,false,false,false,false,false,false]:=by kernel_rfl
theorem bXx : Region.ready .any P6 #[true,true,true,true,true,true,true,true,false,false,false,false,false,false,false] = [8]:=by kernel_rfl
theorem cAl : (#[true,true,true,true,true,true,true,true,false,false,false,false,false,false,false] : Array Bool).setIfInBounds 8 true = #[true,true,true,true,true,true,true,true,true,false,false,false,false,false,false]:=by kernel_rfl
theorem cAt : Region.ready .any P6 #[true,true,true,true,true,true,true,true,true,false,false,false,false,false,false] = [9,11]:=by kernel_rfl
theorem cQl : (#[true,true,true,true,true,true,true,true,true,false,false,false,false,false,false] : Array Bool).setIfInBounds 9 true = #[true,true,true,true,true,true,true,true,true,true,false,false,false,false,false]:=by kernel_rfl
theorem bSz : (#[true,true,true,true,true,true,true,true,true,false,false,false,false,false,false] : Array Bool).setIfInBounds 11 true = #[true,true,true,true,true,true,true,true,true,false,false,true,false,false,false]:=by kernel_rfl
theorem bFb : Region.ready .any P6 #[true,true,true,true,true,true,true,true,true,true,false,false,false,false,false] = [10,11]:=by kernel_rfl
theorem aWo : (#[true,true,true,true,true,true,true,true,true,true,false,false,false,false,false] : Array Bool).setIfInBounds 10 true = #[true,true,true,true,true,true,true,true,true,true,true,false,false,false,false]:=by kernel_rfl
theorem bAy : (#[true,true,true,true,true,true,true,true,true,true,false,false,false,false,false] : Array Bool).setIfInBounds 11 true = #[true,true,true,true,true,true,true,true,true,true,false,true,false,false,false]:=by kernel_rfl
theorem bOx : Region.ready .any P6 #[true,true,true,true,true,true,true,true,true,false,false,true,false,false,false] = [9,12]:=by kernel_rfl
theorem bRs : (#[true,true,true,true,true,true,true,true,true,false,false,true,false,false,false] : Array Bool).setIfInBounds 9 true = #[true,true,true,true,true,true,true,true,true,true,false,true,false,false,false]:=by kernel_rfl
theorem bEi : (#[true,true,true,true,true,true,true,true,true,false,false,true,false,false,false] : Array Bool).setIfInBounds 12 true = #[true,true,true,true,true,true,true,true,true,false,false,true,true,false,false]:=by kernel_rfl
theorem bEu : Region.ready .any P6 #[true,true,true,true,true,true,true,true,true,true,true,false,false,false,false] = [11]:=by kernel_rfl
theorem bDn : (#[true,true,true,true,true,true,true,true,true,true,true,false,false,false,false] : Array Bool).setIfInBounds 11 true = #[true,true,true,true,true,true,true,true,true,true,true,true,false,false,false]:=by kernel_rfl
theorem bOl : Region.ready .any P6 #[true,true,true,true,true,true,true,true,true,true,false,true,false,false,false] = [10,12]:=by kernel_rfl
theorem aYu : (#[true,true,true,true,true,true,true,true,true,true,false,true,false,false,false] : Array Bool).setIfInBounds 10 true = #[true,true,true,true,true,true,true,true,true,true,true,true,false,false,false]:=by kernel_rfl
theorem bCq : (#[true,true,true,true,true,true,true,true,true,true,false,true,false,false,false] : Array Bool).setIfInBounds 12 true = #[true,true,true,true,true,true,true,true,true,true,false,true,true,false,false]:=by kernel_rfl
theorem bNr : Region.ready .any P6 #[true,true,true,true,true,true,true,true,true,false,false,true,true,false,false] = [9,13]:=by kernel_rfl
theorem bSa : (#[true,true,true,true,true,true,true,true,true,false,false,true,true,false,false] : Array Bool).setIfInBounds 9 true = #[true,true,true,true,true,true,true,true,true,true,false,true,true,false,false]:=by kernel_rfl
theorem bCa : (#[true,true,true,true,true,true,true,true,true,false,false,true,true,false,false] : Array Bool).setIfInBounds 13 true = #[true,true,true,true,true,true,true,true,true,false,false,true,true,true,false]:=by kernel_rfl
theorem bMw : Region.ready .any P6 #[true,true,true,true,true,true,true,true,true,true,true,true,false,false,false] = [12]:=by kernel_rfl
theorem aYc : (#[true,true,true,true,true,true,true,true,true,true,true,true,false,false,false] : Array Bool).setIfInBounds 12 true = #[true,true,true,true,true,true,true,true,true,true,true,true,true,false,false]:=by kernel_rfl
theorem bNi : Region.ready .any P6 #[true,true,true,true,true,true,true,true,true,true,false,true,true,false,false] = [10,13]:=by kernel_rfl
theorem bEc : (#[true,true,true,true,true,true,true,true,true,true,false,true,true,false,false] : Array Bool).setIfInBounds 10 true = #[true,true,true,true,true,true,true,true,true,true,true,true,true,false,false]:=by kernel_rfl
theorem aXs : (#[true,true,true,true,true,true,true,true,true,true,false,true,true,false,false] : Array Bool).setIfInBounds 13 true = #[true,true,true,true,true,true,true,true,true,true,false,true,true,true,false]:=by kernel_rfl
theorem aTw : Region.ready .any P6 #[true,true,true,true,true,true,true,true,true,false,false,true,true,true,false] = [9,14]:=by kernel_rfl
theorem aZf : (#[true,true,true,true,true,true,true,true,true,false,false,true,true,true,false] : Array Bool).setIfInBounds 9 true = #[true,true,true,true,true,true,true,true,true,true,false,true,true,true,false]:=by kernel_rfl
theorem aSc : (#[true,true,true,true,true,true,true,true,true,false,false,true,true,true,false] : Array Bool).setIfInBounds 14 true = #[true,true,true,true,true,true,true,true,true,false,false,true,true,true,true]:=by kernel_rfl
theorem bHp : Region.ready .any P6 #[true,true,true,true,true,true,true,true,true,true,true,true,true,false,false] = [13]:=by kernel_rfl
theorem aZo : (#[true,true,true,true,true,true,true,true,true,true,true,true,true,false,false] : Array Bool).setIfInBounds 13 true = #[true,true,true,true,true,true,true,true,true,true,true,true,true,true,false]:=by kernel_rfl
theorem aRs : Region.ready .any P6 #[true,true,true,true,true,true,true,true,true,true,false,true,true,true,false] = [10,14]:=by kernel_rfl
theorem aTb : (#[true,true,true,true,true,true,true,true,true,true,false,true,true,true,false] : Array Bool).setIfInBounds 10 true = #[true,true,true,true,true,true,true,true,true,true,true,true,true,true,false]:=by kernel_rfl
theorem aTj : (#[true,true,true,true,true,true,true,true,true,true,false,true,true,true,false] : Array Bool).setIfInBounds 14 true = #[true,true,true,true,true,true,true,true,true,true,false,true,true,true,true]:=by kernel_rfl
theorem aVo : Region.ready .any P6 #[true,true,true,true,true,true,true,true,true,false,false,true,true,true,true] = [9]:=by kernel_rfl
theorem aWa : (#[true,true,true,true,true,true,true,true,true,false,false,true,true,true,true] : Array Bool).setIfInBounds 9 true = #[true,true,true,true,true,true,true,true,true,true,false,true,true,true,true]:=by kernel_rfl
theorem aVa : Region.ready .any P6 #[true,true,true,true,true,true,true,true,true,true,true,true,true,true,false] = [14]:=by kernel_rfl
theorem aSy : (#[true,true,true,true,true,true,true,true,true,true,true,true,true,true,false] : Array Bool).setIfInBounds 14 true = #[true,true,true,true,true,true,true,true,true,true,true,true,true,true,true]:=by kernel_rfl
theorem aUn : Region.ready .any P6 #[true,true,true,true,true,true,true,true,true,true,false,true,true,true,true] = [10]:=by kernel_rfl
theorem aTe : (#[true,true,true,true,true,true,true,true,true,true,false,true,true,true,true] : Array Bool).setIfInBounds 10 true = #[true,true,true,true,true,true,true,true,true,true,true,true,true,true,true]:=by kernel_rfl
theorem bXw : Region.ready .any P6 #[true,true,true,true,true,true,true,true,true,true,true,true,true,true,true] = []:=by kernel_rfl
theorem pz : Array.replicate P6.size false = #[false,false,false,false,false,false,false,false,false,false,false,false,false,false,false]:=by kernel_rfl
end Go.Dd

namespace Go.Dd
open Go.Proofs
abbrev zs4 : List DV:=[(.i .i64 (Int.ofNat 0)),(.s []),(.i .i64 (Int.ofNat 0)),.l0]
structure PW (g g7 k8 k10 k14 kF : Hp) (c q : Pos) (l1 l2 n ea : DV) (cs : List DV) : Prop where
 hl : aA (.p c 4) g = some (l1,g)
 hl7 : aA (.p c 4) g7 = some (l1,g7)
 hx : aK 4 (.p q 0) g = some (.a cs,g)
 hx7 : aK 4 (.p q 0) g7 = some (.a cs,g7)
 hn : ∀ h,bM l1 h = some (n,h)
 bs : aS zs4 1 [(0,4,(.a zs4))] g = some (.l g.next 0 1 1,g7)
 ap : bH 4 56 l1 (.l g.next 0 1 1) g7 = some (l2,k8)
 ix : ∀ h,aG 4 l2 n h = some (ea,h)
 s10 : aJ 4 ea (.a cs) k8 = some (aT,k10)
 s14 : aJ 1 (.p c 4) l2 k8 = some (aT,k14)
 t10 : ∃ k,aJ 4 ea (.a cs) k14 = some (aT,k) ∧ Sim true kF k
 t14 : ∃ k,aJ 1 (.p c 4) l2 k10 = some (aT,k) ∧ Sim true kF k
def Hq (g g7 k8 k10 k14 kF : Hp) (b7 b8 b10 b14 : Bool) (h : Hp) : Prop:=match b8,b7,b10,b14 with
 | false,false,_,_=>h = g
 | false,true,_,_=>h = g7
 | true,_,false,false=>h = k8
 | true,_,true,false=>h = k10
 | true,_,false,true=>h = k14
 | true,_,true,true=>Sim true kF h
def slP (j : Nat) : Nat:=if j ≤ 9 then 27 + j else 26 + j
def vlP (nx c : Pos) (l1 l2 n ea : DV) (cs : List DV) : Nat → DV
 | 0=>.p c 0
 | 1=>.p c 0
 | 2=>.p c 0
 | 3=>.p c 4
 | 4=>l1
 | 5=>.a cs
 | 6=>n
 | 7=>.l nx 0 1 1
 | 8=>l2
 | 9=>ea
 | 11=>.p c 0
 | 12=>.p c 0
 | _=>.p c 4
structure PI (g g7 k8 k10 k14 kF : Hp) (c q : Pos) (l1 l2 n ea : DV) (cs : List DV) (m : Nat) (env : aZ) (h : Hp) : Prop where
 e0 : env 0 = .p c 0
 e3 : env 3 = .p q 0
 tt : ∀ j,m.testBit j = true → j ≠ 10 → j < 14 → env (slP j) = vlP g.next c l1 l2 n ea cs j
 hq : Hq g g7 k8 k10 k14 kF (m.testBit 7) (m.testBit 8) (m.testBit 10) (m.testBit 14) h
theorem bEb {a b : Nat} (h : a ≠ b) : Nat.beq a b = false:=by
 cases e : Nat.beq a b with
 | false=>rfl
 | true=>exact absurd (Nat.eq_of_beq_eq_true e) h
theorem eXe (j : Nat) : Nat.beq 0 (slP j) = false:=bEb (by unfold slP; split <;> omega)
theorem eYn (j : Nat) : Nat.beq 3 (slP j) = false:=bEb (by unfold slP; split <;> omega)
theorem ePa {j k : Nat} (h : j ≠ k) (hj : j < 14) (hk : k < 14) (j10 : j ≠ 10) (k10 : k ≠ 10) : Nat.beq (slP k) (slP j) = false:=bEb (by unfold slP; split <;> split <;> omega)
theorem dTh (m j k : Nat) : (m ||| 2 ^ j).testBit k = (m.testBit k || decide (j = k)):=by rw [Nat.testBit_or,Nat.testBit_two_pow]
theorem gL {m j k : Nat} (h : j ≠ k) : (m ||| 2 ^ j).testBit k = m.testBit k:=by rw [dTh,decide_eq_false h,Bool.or_false]
theorem aFl (m j : Nat) : (m ||| 2 ^ j).testBit j = true:=by rw [dTh,decide_eq_true rfl,Bool.or_true]
section
variable {g g7 k8 k10 k14 kF : Hp} {c q : Pos} {l1 l2 n ea : DV} {cs : List DV} {rec : FuncId → List DV → Hp → aH} {bS : aZ → Hp → Prop} {m : Nat} {env : aZ} {h h' : Hp}
theorem PI.put (I : PI g g7 k8 k10 k14 kF c q l1 l2 n ea cs m env h) (j : Nat) (hj : j < 14) (h10 : j ≠ 10) {v : DV} (hv : v = vlP g.next c l1 l2 n ea cs j)
  (hq : Hq g g7 k8 k10 k14 kF ((m ||| 2 ^ j).testBit 7) ((m ||| 2 ^ j).testBit 8) ((m ||| 2 ^ j).testBit 10) ((m ||| 2 ^ j).testBit 14) h') : PI g g7 k8 k10 k14 kF c q l1 l2 n ea cs (m ||| 2 ^ j) (bJ env (some (slP j)) v) h' where
 e0:=(uW _ _ _ _ (eXe j)).trans I.e0
 e3:=(uW _ _ _ _ (eYn j)).trans I.e3
 tt k hk k10 k14:=by
  by_cases e : j = k
  ·subst e
   rw [aUk,hv]
  ·rw [gL e] at hk
   rw [uW _ _ _ _ (ePa e hj (by omega) h10 k10)]
   exact I.tt k hk k10 k14
 hq:=hq
theorem PI.act (I : PI g g7 k8 k10 k14 kF c q l1 l2 n ea cs m env h) (j : Nat) (hj : j = 10 ∨ j = 14)
  (hq : Hq g g7 k8 k10 k14 kF ((m ||| 2 ^ j).testBit 7) ((m ||| 2 ^ j).testBit 8) ((m ||| 2 ^ j).testBit 10) ((m ||| 2 ^ j).testBit 14) h') : PI g g7 k8 k10 k14 kF c q l1 l2 n ea cs (m ||| 2 ^ j) env h' where
 e0:=I.e0
 e3:=I.e3
 tt k hk k10 k14:=by
  rw [gL (by omega)] at hk
  exact I.tt k hk k10 k14
 hq:=hq
theorem PI.same (I : PI g g7 k8 k10 k14 kF c q l1 l2 n ea cs m env h) (j : Nat) (a : j ≠ 7) (b : j ≠ 8) (d : j ≠ 10) (e : j ≠ 14) : Hq g g7 k8 k10 k14 kF ((m ||| 2 ^ j).testBit 7) ((m ||| 2 ^ j).testBit 8) ((m ||| 2 ^ j).testBit 10) ((m ||| 2 ^ j).testBit 14) h:=by
 rw [gL a,gL b,gL d,gL e]; exact I.hq
theorem PI.early (W : PW g g7 k8 k10 k14 kF c q l1 l2 n ea cs) (I : PI g g7 k8 k10 k14 kF c q l1 l2 n ea cs m env h) (h8 : m.testBit 8 = false) : h = g ∨ h = g7:=by
 have:=I.hq
 rw [h8] at this
 cases h7 : m.testBit 7 with
 | false=>rw [h7] at this; exact .inl this
 | true=>rw [h7] at this; exact .inr this
theorem dDo (W : PW g g7 k8 k10 k14 kF c q l1 l2 n ea cs) (I : PI g g7 k8 k10 k14 kF c q l1 l2 n ea cs m env h)  : ∃ v h',bA CF0 rec P6 (o6 0) env h = some (v,h') ∧ PI g g7 k8 k10 k14 kF c q l1 l2 n ea cs (m ||| 2 ^ 0) (bJ env (o6 0).dst v) h':=by
 rw [eVu,cRy]
 exact ⟨_,_,rfl,I.put 0 (by decide) (by decide) I.e0 (I.same 0 (by decide) (by decide) (by decide) (by decide))⟩
theorem dQk (W : PW g g7 k8 k10 k14 kF c q l1 l2 n ea cs) (I : PI g g7 k8 k10 k14 kF c q l1 l2 n ea cs m env h) (b0 : m.testBit 0 = true) : ∃ v h',bA CF0 rec P6 (o6 1) env h = some (v,h') ∧ PI g g7 k8 k10 k14 kF c q l1 l2 n ea cs (m ||| 2 ^ 1) (bJ env (o6 1).dst v) h':=by
 rw [eXf,cAn]
 rw [show env 27 = .p c 0 from I.tt 0 b0 (by decide) (by decide)]
 exact ⟨_,_,rfl,I.put 1 (by decide) (by decide) rfl (I.same 1 (by decide) (by decide) (by decide) (by decide))⟩
theorem dMe (W : PW g g7 k8 k10 k14 kF c q l1 l2 n ea cs) (I : PI g g7 k8 k10 k14 kF c q l1 l2 n ea cs m env h) (b1 : m.testBit 1 = true) : ∃ v h',bA CF0 rec P6 (o6 2) env h = some (v,h') ∧ PI g g7 k8 k10 k14 kF c q l1 l2 n ea cs (m ||| 2 ^ 2) (bJ env (o6 2).dst v) h':=by
 rw [eZq,cBo]
 rw [show env 28 = .p c 0 from I.tt 1 b1 (by decide) (by decide)]
 exact ⟨_,_,rfl,I.put 2 (by decide) (by decide) rfl (I.same 2 (by decide) (by decide) (by decide) (by decide))⟩
theorem dCx (W : PW g g7 k8 k10 k14 kF c q l1 l2 n ea cs) (I : PI g g7 k8 k10 k14 kF c q l1 l2 n ea cs m env h) (b2 : m.testBit 2 = true) : ∃ v h',bA CF0 rec P6 (o6 3) env h = some (v,h') ∧ PI g g7 k8 k10 k14 kF c q l1 l2 n ea cs (m ||| 2 ^ 3) (bJ env (o6 3).dst v) h':=by
 rw [eWy,cGc]
 rw [show env 29 = .p c 0 from I.tt 2 b2 (by decide) (by decide)]
 exact ⟨_,_,rfl,I.put 3 (by decide) (by decide) rfl (I.same 3 (by decide) (by decide) (by decide) (by decide))⟩
theorem dGd (W : PW g g7 k8 k10 k14 kF c q l1 l2 n ea cs) (I : PI g g7 k8 k10 k14 kF c q l1 l2 n ea cs m env h) (b3 : m.testBit 3 = true) (h8 : m.testBit 8 = false) : ∃ v h',bA CF0 rec P6 (o6 4) env h = some (v,h') ∧ PI g g7 k8 k10 k14 kF c q l1 l2 n ea cs (m ||| 2 ^ 4) (bJ env (o6 4).dst v) h':=by
 rw [fAq,cEk]
 rw [show env 30 = .p c 4 from I.tt 3 b3 (by decide) (by decide)]
 rcases I.early W h8 with rfl | rfl
 ·exact ⟨_,_,W.hl,I.put 4 (by decide) (by decide) rfl (I.same 4 (by decide) (by decide) (by decide) (by decide))⟩
 ·exact ⟨_,_,W.hl7,I.put 4 (by decide) (by decide) rfl (I.same 4 (by decide) (by decide) (by decide) (by decide))⟩
theorem rK (W : PW g g7 k8 k10 k14 kF c q l1 l2 n ea cs) (I : PI g g7 k8 k10 k14 kF c q l1 l2 n ea cs m env h)  (h8 : m.testBit 8 = false) : ∃ v h',bA CF0 rec P6 (o6 5) env h = some (v,h') ∧ PI g g7 k8 k10 k14 kF c q l1 l2 n ea cs (m ||| 2 ^ 5) (bJ env (o6 5).dst v) h':=by
 rw [eYt,pZ]
 rw [I.e3]
 rcases I.early W h8 with rfl | rfl
 ·exact ⟨_,_,W.hx,I.put 5 (by decide) (by decide) rfl (I.same 5 (by decide) (by decide) (by decide) (by decide))⟩
 ·exact ⟨_,_,W.hx7,I.put 5 (by decide) (by decide) rfl (I.same 5 (by decide) (by decide) (by decide) (by decide))⟩
theorem dIb (W : PW g g7 k8 k10 k14 kF c q l1 l2 n ea cs) (I : PI g g7 k8 k10 k14 kF c q l1 l2 n ea cs m env h) (b4 : m.testBit 4 = true) : ∃ v h',bA CF0 rec P6 (o6 6) env h = some (v,h') ∧ PI g g7 k8 k10 k14 kF c q l1 l2 n ea cs (m ||| 2 ^ 6) (bJ env (o6 6).dst v) h':=by
 rw [eWe,bZo]
 rw [show env 31 = l1 from I.tt 4 b4 (by decide) (by decide)]
 exact ⟨_,_,W.hn _,I.put 6 (by decide) (by decide) rfl (I.same 6 (by decide) (by decide) (by decide) (by decide))⟩
theorem sF (W : PW g g7 k8 k10 k14 kF c q l1 l2 n ea cs) (I : PI g g7 k8 k10 k14 kF c q l1 l2 n ea cs m env h)  (h7 : m.testBit 7 = false) (h8 : m.testBit 8 = false) : ∃ v h',bA CF0 rec P6 (o6 7) env h = some (v,h') ∧ PI g g7 k8 k10 k14 kF c q l1 l2 n ea cs (m ||| 2 ^ 7) (bJ env (o6 7).dst v) h':=by
 rw [fAu,pL]
 have e : h = g:=by have:=I.hq; rw [h8,h7] at this; exact this
 subst e
 exact ⟨_,_,W.bs,I.put 7 (by decide) (by decide) rfl (by rw [aFl,gL (by decide),h8]; exact rfl)⟩
theorem eYw (W : PW g g7 k8 k10 k14 kF c q l1 l2 n ea cs) (I : PI g g7 k8 k10 k14 kF c q l1 l2 n ea cs m env h) (b4 : m.testBit 4 = true) (b7 : m.testBit 7 = true) (h8 : m.testBit 8 = false) (h10 : m.testBit 10 = false) (h14 : m.testBit 14 = false) : ∃ v h',bA CF0 rec P6 (o6 8) env h = some (v,h') ∧ PI g g7 k8 k10 k14 kF c q l1 l2 n ea cs (m ||| 2 ^ 8) (bJ env (o6 8).dst v) h':=by
 rw [eXb,eIy]
 rw [show env 31 = l1 from I.tt 4 b4 (by decide) (by decide)]
 rw [show env 34 = .l g.next 0 1 1 from I.tt 7 b7 (by decide) (by decide)]
 have e : h = g7:=by have:=I.hq; rw [h8,b7] at this; exact this
 subst e
 exact ⟨_,_,W.ap,I.put 8 (by decide) (by decide) rfl (by rw [aFl,gL (by decide),gL (by decide),gL (by decide),b7,h10,h14]; exact rfl)⟩
theorem cNa (W : PW g g7 k8 k10 k14 kF c q l1 l2 n ea cs) (I : PI g g7 k8 k10 k14 kF c q l1 l2 n ea cs m env h) (b6 : m.testBit 6 = true) (b8 : m.testBit 8 = true) : ∃ v h',bA CF0 rec P6 (o6 9) env h = some (v,h') ∧ PI g g7 k8 k10 k14 kF c q l1 l2 n ea cs (m ||| 2 ^ 9) (bJ env (o6 9).dst v) h':=by
 rw [fAj,bSl]
 rw [show env 35 = l2 from I.tt 8 b8 (by decide) (by decide)]
 rw [show env 33 = n from I.tt 6 b6 (by decide) (by decide)]
 exact ⟨_,_,W.ix _,I.put 9 (by decide) (by decide) rfl (I.same 9 (by decide) (by decide) (by decide) (by decide))⟩
theorem aVh (W : PW g g7 k8 k10 k14 kF c q l1 l2 n ea cs) (I : PI g g7 k8 k10 k14 kF c q l1 l2 n ea cs m env h) (b5 : m.testBit 5 = true) (b7 : m.testBit 7 = true) (b8 : m.testBit 8 = true) (b9 : m.testBit 9 = true) (h10 : m.testBit 10 = false) : ∃ v h',bA CF0 rec P6 (o6 10) env h = some (v,h') ∧ PI g g7 k8 k10 k14 kF c q l1 l2 n ea cs (m ||| 2 ^ 10) (bJ env (o6 10).dst v) h':=by
 rw [eOs,aFv]
 rw [show env 36 = ea from I.tt 9 b9 (by decide) (by decide)]
 rw [show env 32 = .a cs from I.tt 5 b5 (by decide) (by decide)]
 have hq:=I.hq
 rw [b7,b8,h10] at hq
 cases h14 : m.testBit 14 with
 | false =>
  rw [h14] at hq
  obtain rfl : h = k8:=hq
  exact ⟨_,_,W.s10,I.act 10 (.inl rfl) (by rw [aFl,gL (by decide),gL (by decide),gL (by decide),b7,b8,h14]; exact rfl)⟩
 | true =>
  rw [h14] at hq
  obtain rfl : h = k14:=hq
  obtain ⟨k,e1,e2⟩:=W.t10
  exact ⟨_,_,e1,I.act 10 (.inl rfl) (by rw [aFl,gL (by decide),gL (by decide),gL (by decide),b7,b8,h14]; exact e2)⟩
theorem cFq (W : PW g g7 k8 k10 k14 kF c q l1 l2 n ea cs) (I : PI g g7 k8 k10 k14 kF c q l1 l2 n ea cs m env h) (b0 : m.testBit 0 = true) : ∃ v h',bA CF0 rec P6 (o6 11) env h = some (v,h') ∧ PI g g7 k8 k10 k14 kF c q l1 l2 n ea cs (m ||| 2 ^ 11) (bJ env (o6 11).dst v) h':=by
 rw [eTd,bJe]
 rw [show env 27 = .p c 0 from I.tt 0 b0 (by decide) (by decide)]
 exact ⟨_,_,rfl,I.put 11 (by decide) (by decide) rfl (I.same 11 (by decide) (by decide) (by decide) (by decide))⟩
theorem cUk (W : PW g g7 k8 k10 k14 kF c q l1 l2 n ea cs) (I : PI g g7 k8 k10 k14 kF c q l1 l2 n ea cs m env h) (b11 : m.testBit 11 = true) : ∃ v h',bA CF0 rec P6 (o6 12) env h = some (v,h') ∧ PI g g7 k8 k10 k14 kF c q l1 l2 n ea cs (m ||| 2 ^ 12) (bJ env (o6 12).dst v) h':=by
 rw [eNl,bMp]
 rw [show env 37 = .p c 0 from I.tt 11 b11 (by decide) (by decide)]
 exact ⟨_,_,rfl,I.put 12 (by decide) (by decide) rfl (I.same 12 (by decide) (by decide) (by decide) (by decide))⟩
theorem cIu (W : PW g g7 k8 k10 k14 kF c q l1 l2 n ea cs) (I : PI g g7 k8 k10 k14 kF c q l1 l2 n ea cs m env h) (b12 : m.testBit 12 = true) : ∃ v h',bA CF0 rec P6 (o6 13) env h = some (v,h') ∧ PI g g7 k8 k10 k14 kF c q l1 l2 n ea cs (m ||| 2 ^ 13) (bJ env (o6 13).dst v) h':=by
 rw [eJu,bLq]
 rw [show env 38 = .p c 0 from I.tt 12 b12 (by decide) (by decide)]
 exact ⟨_,_,rfl,I.put 13 (by decide) (by decide) rfl (I.same 13 (by decide) (by decide) (by decide) (by decide))⟩
theorem cEg (W : PW g g7 k8 k10 k14 kF c q l1 l2 n ea cs) (I : PI g g7 k8 k10 k14 kF c q l1 l2 n ea cs m env h) (b7 : m.testBit 7 = true) (b8 : m.testBit 8 = true) (b13 : m.testBit 13 = true) (h14 : m.testBit 14 = false) : ∃ v h',bA CF0 rec P6 (o6 14) env h = some (v,h') ∧ PI g g7 k8 k10 k14 kF c q l1 l2 n ea cs (m ||| 2 ^ 14) (bJ env (o6 14).dst v) h':=by
 rw [eUh,bPy]
 rw [show env 39 = .p c 4 from I.tt 13 b13 (by decide) (by decide)]
 rw [show env 35 = l2 from I.tt 8 b8 (by decide) (by decide)]
 have hq:=I.hq
 rw [b7,b8,h14] at hq
 cases h10 : m.testBit 10 with
 | false =>
  rw [h10] at hq
  obtain rfl : h = k8:=hq
  exact ⟨_,_,W.s14,I.act 14 (.inr rfl) (by rw [aFl,gL (by decide),gL (by decide),gL (by decide),b7,b8,h10]; exact rfl)⟩
 | true =>
  rw [h10] at hq
  obtain rfl : h = k10:=hq
  obtain ⟨k,e1,e2⟩:=W.t14
  exact ⟨_,_,e1,I.act 14 (.inr rfl) (by rw [aFl,gL (by decide),gL (by decide),gL (by decide),b7,b8,h10]; exact e2)⟩
theorem aUb (W : PW g g7 k8 k10 k14 kF c q l1 l2 n ea cs) (hP : ∀ env h,PI g g7 k8 k10 k14 kF c q l1 l2 n ea cs 32767 env h → bS env h) (I : PI g g7 k8 k10 k14 kF c q l1 l2 n ea cs 32767 env h) : dC CF0 rec 47 P6 bS 0 #[true,true,true,true,true,true,true,true,true,true,true,true,true,true,true] env h:=⟨bXw,hP _ _ I⟩
theorem aVj (W : PW g g7 k8 k10 k14 kF c q l1 l2 n ea cs) (hP : ∀ env h,PI g g7 k8 k10 k14 kF c q l1 l2 n ea cs 32767 env h → bS env h) (I : PI g g7 k8 k10 k14 kF c q l1 l2 n ea cs 16383 env h) : dC CF0 rec 47 P6 bS 1 #[true,true,true,true,true,true,true,true,true,true,true,true,true,true,false] env h:=by
 refine ⟨fun e=>(by rw [aVa] at e; cases e),fun j hj => ?_⟩
 rw [aVa] at hj
 simp only [List.mem_cons,List.not_mem_nil,or_false] at hj
 subst hj
 obtain ⟨v,h',e1,I'⟩:=cEg (rec:=rec) W I rfl rfl rfl rfl
 exact ⟨_,v,h',bXd,by rw [bPy]; rfl,e1,by rw [aSy]; exact aUb W hP I'⟩
theorem aTh (W : PW g g7 k8 k10 k14 kF c q l1 l2 n ea cs) (hP : ∀ env h,PI g g7 k8 k10 k14 kF c q l1 l2 n ea cs 32767 env h → bS env h) (I : PI g g7 k8 k10 k14 kF c q l1 l2 n ea cs 31743 env h) : dC CF0 rec 47 P6 bS 1 #[true,true,true,true,true,true,true,true,true,true,false,true,true,true,true] env h:=by
 refine ⟨fun e=>(by rw [aUn] at e; cases e),fun j hj => ?_⟩
 rw [aUn] at hj
 simp only [List.mem_cons,List.not_mem_nil,or_false] at hj
 subst hj
 obtain ⟨v,h',e1,I'⟩:=aVh (rec:=rec) W I rfl rfl rfl rfl rfl
 exact ⟨_,v,h',aSe,by rw [aFv]; rfl,e1,by rw [aTe]; exact aUb W hP I'⟩
theorem bGq (W : PW g g7 k8 k10 k14 kF c q l1 l2 n ea cs) (hP : ∀ env h,PI g g7 k8 k10 k14 kF c q l1 l2 n ea cs 32767 env h → bS env h) (I : PI g g7 k8 k10 k14 kF c q l1 l2 n ea cs 8191 env h) : dC CF0 rec 47 P6 bS 2 #[true,true,true,true,true,true,true,true,true,true,true,true,true,false,false] env h:=by
 refine ⟨fun e=>(by rw [bHp] at e; cases e),fun j hj => ?_⟩
 rw [bHp] at hj
 simp only [List.mem_cons,List.not_mem_nil,or_false] at hj
 subst hj
 obtain ⟨v,h',e1,I'⟩:=cIu (rec:=rec) W I rfl
 exact ⟨_,v,h',cKa,by rw [bLq]; rfl,e1,by rw [aZo]; exact aVj W hP I'⟩
theorem aUu (W : PW g g7 k8 k10 k14 kF c q l1 l2 n ea cs) (hP : ∀ env h,PI g g7 k8 k10 k14 kF c q l1 l2 n ea cs 32767 env h → bS env h) (I : PI g g7 k8 k10 k14 kF c q l1 l2 n ea cs 15359 env h) : dC CF0 rec 47 P6 bS 2 #[true,true,true,true,true,true,true,true,true,true,false,true,true,true,false] env h:=by
 refine ⟨fun e=>(by rw [aRs] at e; cases e),fun j hj => ?_⟩
 rw [aRs] at hj
 simp only [List.mem_cons,List.not_mem_nil,or_false] at hj
 rcases hj with rfl | rfl
 ·obtain ⟨v,h',e1,I'⟩:=aVh (rec:=rec) W I rfl rfl rfl rfl rfl
  exact ⟨_,v,h',aSe,by rw [aFv]; rfl,e1,by rw [aTb]; exact aVj W hP I'⟩
 ·obtain ⟨v,h',e1,I'⟩:=cEg (rec:=rec) W I rfl rfl rfl rfl
  exact ⟨_,v,h',bXd,by rw [bPy]; rfl,e1,by rw [aTj]; exact aTh W hP I'⟩
theorem cAf (W : PW g g7 k8 k10 k14 kF c q l1 l2 n ea cs) (hP : ∀ env h,PI g g7 k8 k10 k14 kF c q l1 l2 n ea cs 32767 env h → bS env h) (I : PI g g7 k8 k10 k14 kF c q l1 l2 n ea cs 31231 env h) : dC CF0 rec 47 P6 bS 2 #[true,true,true,true,true,true,true,true,true,false,false,true,true,true,true] env h:=by
 refine ⟨fun e=>(by rw [aVo] at e; cases e),fun j hj => ?_⟩
 rw [aVo] at hj
 simp only [List.mem_cons,List.not_mem_nil,or_false] at hj
 subst hj
 obtain ⟨v,h',e1,I'⟩:=cNa (rec:=rec) W I rfl rfl
 exact ⟨_,v,h',bXq,by rw [bSl]; rfl,e1,by rw [aWa]; exact aTh W hP I'⟩
theorem bHl (W : PW g g7 k8 k10 k14 kF c q l1 l2 n ea cs) (hP : ∀ env h,PI g g7 k8 k10 k14 kF c q l1 l2 n ea cs 32767 env h → bS env h) (I : PI g g7 k8 k10 k14 kF c q l1 l2 n ea cs 4095 env h) : dC CF0 rec 47 P6 bS 3 #[true,true,true,true,true,true,true,true,true,true,true,true,false,false,false] env h:=by
 refine ⟨fun e=>(by rw [bMw] at e; cases e),fun j hj => ?_⟩
 rw [bMw] at hj
 simp only [List.mem_cons,List.not_mem_nil,or_false] at hj
 subst hj
 obtain ⟨v,h',e1,I'⟩:=cUk (rec:=rec) W I rfl
 exact ⟨_,v,h',bZt,by rw [bMp]; rfl,e1,by rw [aYc]; exact bGq W hP I'⟩
theorem bEw (W : PW g g7 k8 k10 k14 kF c q l1 l2 n ea cs) (hP : ∀ env h,PI g g7 k8 k10 k14 kF c q l1 l2 n ea cs 32767 env h → bS env h) (I : PI g g7 k8 k10 k14 kF c q l1 l2 n ea cs 7167 env h) : dC CF0 rec 47 P6 bS 3 #[true,true,true,true,true,true,true,true,true,true,false,true,true,false,false] env h:=by
 refine ⟨fun e=>(by rw [bNi] at e; cases e),fun j hj => ?_⟩
 rw [bNi] at hj
 simp only [List.mem_cons,List.not_mem_nil,or_false] at hj
 rcases hj with rfl | rfl
 ·obtain ⟨v,h',e1,I'⟩:=aVh (rec:=rec) W I rfl rfl rfl rfl rfl
  exact ⟨_,v,h',aSe,by rw [aFv]; rfl,e1,by rw [bEc]; exact bGq W hP I'⟩
 ·obtain ⟨v,h',e1,I'⟩:=cIu (rec:=rec) W I rfl
  exact ⟨_,v,h',cKa,by rw [bLq]; rfl,e1,by rw [aXs]; exact aUu W hP I'⟩
theorem cJc (W : PW g g7 k8 k10 k14 kF c q l1 l2 n ea cs) (hP : ∀ env h,PI g g7 k8 k10 k14 kF c q l1 l2 n ea cs 32767 env h → bS env h) (I : PI g g7 k8 k10 k14 kF c q l1 l2 n ea cs 14847 env h) : dC CF0 rec 47 P6 bS 3 #[true,true,true,true,true,true,true,true,true,false,false,true,true,true,false] env h:=by
 refine ⟨fun e=>(by rw [aTw] at e; cases e),fun j hj => ?_⟩
 rw [aTw] at hj
 simp only [List.mem_cons,List.not_mem_nil,or_false] at hj
 rcases hj with rfl | rfl
 ·obtain ⟨v,h',e1,I'⟩:=cNa (rec:=rec) W I rfl rfl
  exact ⟨_,v,h',bXq,by rw [bSl]; rfl,e1,by rw [aZf]; exact aUu W hP I'⟩
 ·obtain ⟨v,h',e1,I'⟩:=cEg (rec:=rec) W I rfl rfl rfl rfl
  exact ⟨_,v,h',bXd,by rw [bPy]; rfl,e1,by rw [aSc]; exact cAf W hP I'⟩
theorem cYd (W : PW g g7 k8 k10 k14 kF c q l1 l2 n ea cs) (hP : ∀ env h,PI g g7 k8 k10 k14 kF c q l1 l2 n ea cs 32767 env h → bS env h) (I : PI g g7 k8 k10 k14 kF c q l1 l2 n ea cs 2047 env h) : dC CF0 rec 47 P6 bS 4 #[true,true,true,true,true,true,true,true,true,true,true,false,false,false,false] env h:=by
 refine ⟨fun e=>(by rw [bEu] at e; cases e),fun j hj => ?_⟩
 rw [bEu] at hj
 simp only [List.mem_cons,List.not_mem_nil,or_false] at hj
 subst hj
 obtain ⟨v,h',e1,I'⟩:=cFq (rec:=rec) W I rfl
 exact ⟨_,v,h',cVe,by rw [bJe]; rfl,e1,by rw [bDn]; exact bHl W hP I'⟩
theorem bJv (W : PW g g7 k8 k10 k14 kF c q l1 l2 n ea cs) (hP : ∀ env h,PI g g7 k8 k10 k14 kF c q l1 l2 n ea cs 32767 env h → bS env h) (I : PI g g7 k8 k10 k14 kF c q l1 l2 n ea cs 3071 env h) : dC CF0 rec 47 P6 bS 4 #[true,true,true,true,true,true,true,true,true,true,false,true,false,false,false] env h:=by
 refine ⟨fun e=>(by rw [bOl] at e; cases e),fun j hj => ?_⟩
 rw [bOl] at hj
 simp only [List.mem_cons,List.not_mem_nil,or_false] at hj
 rcases hj with rfl | rfl
 ·obtain ⟨v,h',e1,I'⟩:=aVh (rec:=rec) W I rfl rfl rfl rfl rfl
  exact ⟨_,v,h',aSe,by rw [aFv]; rfl,e1,by rw [aYu]; exact bHl W hP I'⟩
 ·obtain ⟨v,h',e1,I'⟩:=cUk (rec:=rec) W I rfl
  exact ⟨_,v,h',bZt,by rw [bMp]; rfl,e1,by rw [bCq]; exact bEw W hP I'⟩
theorem dCm (W : PW g g7 k8 k10 k14 kF c q l1 l2 n ea cs) (hP : ∀ env h,PI g g7 k8 k10 k14 kF c q l1 l2 n ea cs 32767 env h → bS env h) (I : PI g g7 k8 k10 k14 kF c q l1 l2 n ea cs 6655 env h) : dC CF0 rec 47 P6 bS 4 #[true,true,true,true,true,true,true,true,true,false,false,true,true,false,false] env h:=by
 refine ⟨fun e=>(by rw [bNr] at e; cases e),fun j hj => ?_⟩
 rw [bNr] at hj
 simp only [List.mem_cons,List.not_mem_nil,or_false] at hj
 rcases hj with rfl | rfl
 ·obtain ⟨v,h',e1,I'⟩:=cNa (rec:=rec) W I rfl rfl
  exact ⟨_,v,h',bXq,by rw [bSl]; rfl,e1,by rw [bSa]; exact bEw W hP I'⟩
 ·obtain ⟨v,h',e1,I'⟩:=cIu (rec:=rec) W I rfl
  exact ⟨_,v,h',cKa,by rw [bLq]; rfl,e1,by rw [bCa]; exact cJc W hP I'⟩
theorem dMw (W : PW g g7 k8 k10 k14 kF c q l1 l2 n ea cs) (hP : ∀ env h,PI g g7 k8 k10 k14 kF c q l1 l2 n ea cs 32767 env h → bS env h) (I : PI g g7 k8 k10 k14 kF c q l1 l2 n ea cs 1023 env h) : dC CF0 rec 47 P6 bS 5 #[true,true,true,true,true,true,true,true,true,true,false,false,false,false,false] env h:=by
 refine ⟨fun e=>(by rw [bFb] at e; cases e),fun j hj => ?_⟩
 rw [bFb] at hj
 simp only [List.mem_cons,List.not_mem_nil,or_false] at hj
 rcases hj with rfl | rfl
 ·obtain ⟨v,h',e1,I'⟩:=aVh (rec:=rec) W I rfl rfl rfl rfl rfl
  exact ⟨_,v,h',aSe,by rw [aFv]; rfl,e1,by rw [aWo]; exact cYd W hP I'⟩
 ·obtain ⟨v,h',e1,I'⟩:=cFq (rec:=rec) W I rfl
  exact ⟨_,v,h',cVe,by rw [bJe]; rfl,e1,by rw [bAy]; exact bJv W hP I'⟩
theorem dLz (W : PW g g7 k8 k10 k14 kF c q l1 l2 n ea cs) (hP : ∀ env h,PI g g7 k8 k10 k14 kF c q l1 l2 n ea cs 32767 env h → bS env h) (I : PI g g7 k8 k10 k14 kF c q l1 l2 n ea cs 2559 env h) : dC CF0 rec 47 P6 bS 5 #[true,true,true,true,true,true,true,true,true,false,false,true,false,false,false] env h:=by
 refine ⟨fun e=>(by rw [bOx] at e; cases e),fun j hj => ?_⟩
 rw [bOx] at hj
 simp only [List.mem_cons,List.not_mem_nil,or_false] at hj
 rcases hj with rfl | rfl
 ·obtain ⟨v,h',e1,I'⟩:=cNa (rec:=rec) W I rfl rfl
  exact ⟨_,v,h',bXq,by rw [bSl]; rfl,e1,by rw [bRs]; exact bJv W hP I'⟩
 ·obtain ⟨v,h',e1,I'⟩:=cUk (rec:=rec) W I rfl
  exact ⟨_,v,h',bZt,by rw [bMp]; rfl,e1,by rw [bEi]; exact dCm W hP I'⟩
theorem eGm (W : PW g g7 k8 k10 k14 kF c q l1 l2 n ea cs) (hP : ∀ env h,PI g g7 k8 k10 k14 kF c q l1 l2 n ea cs 32767 env h → bS env h) (I : PI g g7 k8 k10 k14 kF c q l1 l2 n ea cs 511 env h) : dC CF0 rec 47 P6 bS 6 #[true,true,true,true,true,true,true,true,true,false,false,false,false,false,false] env h:=by
 refine ⟨fun e=>(by rw [cAt] at e; cases e),fun j hj => ?_⟩
 rw [cAt] at hj
 simp only [List.mem_cons,List.not_mem_nil,or_false] at hj
 rcases hj with rfl | rfl
 ·obtain ⟨v,h',e1,I'⟩:=cNa (rec:=rec) W I rfl rfl
  exact ⟨_,v,h',bXq,by rw [bSl]; rfl,e1,by rw [cQl]; exact dMw W hP I'⟩
 ·obtain ⟨v,h',e1,I'⟩:=cFq (rec:=rec) W I rfl
  exact ⟨_,v,h',cVe,by rw [bJe]; rfl,e1,by rw [bSz]; exact dLz W hP I'⟩
theorem bCn (W : PW g g7 k8 k10 k14 kF c q l1 l2 n ea cs) (hP : ∀ env h,PI g g7 k8 k10 k14 kF c q l1 l2 n ea cs 32767 env h → bS env h) (I : PI g g7 k8 k10 k14 kF c q l1 l2 n ea cs 255 env h) : dC CF0 rec 47 P6 bS 7 #[true,true,true,true,true,true,true,true,false,false,false,false,false,false,false] env h:=by
 refine ⟨fun e=>(by rw [bXx] at e; cases e),fun j hj => ?_⟩
 rw [bXx] at hj
 simp only [List.mem_cons,List.not_mem_nil,or_false] at hj
 subst hj
 obtain ⟨v,h',e1,I'⟩:=eYw (rec:=rec) W I rfl rfl rfl rfl rfl
 exact ⟨_,v,h',fAo,by rw [eIy]; rfl,e1,by rw [cAl]; exact eGm W hP I'⟩
theorem cQf (W : PW g g7 k8 k10 k14 kF c q l1 l2 n ea cs) (hP : ∀ env h,PI g g7 k8 k10 k14 kF c q l1 l2 n ea cs 32767 env h → bS env h) (I : PI g g7 k8 k10 k14 kF c q l1 l2 n ea cs 127 env h) : dC CF0 rec 47 P6 bS 8 #[true,true,true,true,true,true,true,false,false,false,false,false,false,false,false] env h:=by
 refine ⟨fun e=>(by rw [cSq] at e; cases e),fun j hj => ?_⟩
 rw [cSq] at hj
 simp only [List.mem_cons,List.not_mem_nil,or_false] at hj
 subst hj
 obtain ⟨v,h',e1,I'⟩:=sF (rec:=rec) W I rfl rfl
 exact ⟨_,v,h',sJ,by rw [pL]; rfl,e1,by rw [cAv]; exact bCn W hP I'⟩
theorem bCd (W : PW g g7 k8 k10 k14 kF c q l1 l2 n ea cs) (hP : ∀ env h,PI g g7 k8 k10 k14 kF c q l1 l2 n ea cs 32767 env h → bS env h) (I : PI g g7 k8 k10 k14 kF c q l1 l2 n ea cs 191 env h) : dC CF0 rec 47 P6 bS 8 #[true,true,true,true,true,true,false,true,false,false,false,false,false,false,false] env h:=by
 refine ⟨fun e=>(by rw [cKe] at e; cases e),fun j hj => ?_⟩
 rw [cKe] at hj
 simp only [List.mem_cons,List.not_mem_nil,or_false] at hj
 subst hj
 obtain ⟨v,h',e1,I'⟩:=dIb (rec:=rec) W I rfl
 exact ⟨_,v,h',dEn,by rw [bZo]; rfl,e1,by rw [bZe]; exact bCn W hP I'⟩
theorem cNn (W : PW g g7 k8 k10 k14 kF c q l1 l2 n ea cs) (hP : ∀ env h,PI g g7 k8 k10 k14 kF c q l1 l2 n ea cs 32767 env h → bS env h) (I : PI g g7 k8 k10 k14 kF c q l1 l2 n ea cs 223 env h) : dC CF0 rec 47 P6 bS 8 #[true,true,true,true,true,false,true,true,false,false,false,false,false,false,false] env h:=by
 refine ⟨fun e=>(by rw [bZz] at e; cases e),fun j hj => ?_⟩
 rw [bZz] at hj
 simp only [List.mem_cons,List.not_mem_nil,or_false] at hj
 subst hj
 obtain ⟨v,h',e1,I'⟩:=rK (rec:=rec) W I rfl
 exact ⟨_,v,h',sS,by rw [pZ]; rfl,e1,by rw [cTg]; exact bCn W hP I'⟩
theorem dSs (W : PW g g7 k8 k10 k14 kF c q l1 l2 n ea cs) (hP : ∀ env h,PI g g7 k8 k10 k14 kF c q l1 l2 n ea cs 32767 env h → bS env h) (I : PI g g7 k8 k10 k14 kF c q l1 l2 n ea cs 63 env h) : dC CF0 rec 47 P6 bS 9 #[true,true,true,true,true,true,false,false,false,false,false,false,false,false,false] env h:=by
 refine ⟨fun e=>(by rw [dRl] at e; cases e),fun j hj => ?_⟩
 rw [dRl] at hj
 simp only [List.mem_cons,List.not_mem_nil,or_false] at hj
 rcases hj with rfl | rfl
 ·obtain ⟨v,h',e1,I'⟩:=dIb (rec:=rec) W I rfl
  exact ⟨_,v,h',dEn,by rw [bZo]; rfl,e1,by rw [dAv]; exact cQf W hP I'⟩
 ·obtain ⟨v,h',e1,I'⟩:=sF (rec:=rec) W I rfl rfl
  exact ⟨_,v,h',sJ,by rw [pL]; rfl,e1,by rw [dPc]; exact bCd W hP I'⟩
theorem eTt (W : PW g g7 k8 k10 k14 kF c q l1 l2 n ea cs) (hP : ∀ env h,PI g g7 k8 k10 k14 kF c q l1 l2 n ea cs 32767 env h → bS env h) (I : PI g g7 k8 k10 k14 kF c q l1 l2 n ea cs 95 env h) : dC CF0 rec 47 P6 bS 9 #[true,true,true,true,true,false,true,false,false,false,false,false,false,false,false] env h:=by
 refine ⟨fun e=>(by rw [dQz] at e; cases e),fun j hj => ?_⟩
 rw [dQz] at hj
 simp only [List.mem_cons,List.not_mem_nil,or_false] at hj
 rcases hj with rfl | rfl
 ·obtain ⟨v,h',e1,I'⟩:=rK (rec:=rec) W I rfl
  exact ⟨_,v,h',sS,by rw [pZ]; rfl,e1,by rw [cZm]; exact cQf W hP I'⟩
 ·obtain ⟨v,h',e1,I'⟩:=sF (rec:=rec) W I rfl rfl
  exact ⟨_,v,h',sJ,by rw [pL]; rfl,e1,by rw [dAa]; exact cNn W hP I'⟩
theorem cNg (W : PW g g7 k8 k10 k14 kF c q l1 l2 n ea cs) (hP : ∀ env h,PI g g7 k8 k10 k14 kF c q l1 l2 n ea cs 32767 env h → bS env h) (I : PI g g7 k8 k10 k14 kF c q l1 l2 n ea cs 159 env h) : dC CF0 rec 47 P6 bS 9 #[true,true,true,true,true,false,false,true,false,false,false,false,false,false,false] env h:=by
 refine ⟨fun e=>(by rw [cKk] at e; cases e),fun j hj => ?_⟩
 rw [cKk] at hj
 simp only [List.mem_cons,List.not_mem_nil,or_false] at hj
 rcases hj with rfl | rfl
 ·obtain ⟨v,h',e1,I'⟩:=rK (rec:=rec) W I rfl
  exact ⟨_,v,h',sS,by rw [pZ]; rfl,e1,by rw [cHo]; exact bCd W hP I'⟩
 ·obtain ⟨v,h',e1,I'⟩:=dIb (rec:=rec) W I rfl
  exact ⟨_,v,h',dEn,by rw [bZo]; rfl,e1,by rw [bXg]; exact cNn W hP I'⟩
theorem aWp (W : PW g g7 k8 k10 k14 kF c q l1 l2 n ea cs) (hP : ∀ env h,PI g g7 k8 k10 k14 kF c q l1 l2 n ea cs 32767 env h → bS env h) (I : PI g g7 k8 k10 k14 kF c q l1 l2 n ea cs 175 env h) : dC CF0 rec 47 P6 bS 9 #[true,true,true,true,false,true,false,true,false,false,false,false,false,false,false] env h:=by
 refine ⟨fun e=>(by rw [cPo] at e; cases e),fun j hj => ?_⟩
 rw [cPo] at hj
 simp only [List.mem_cons,List.not_mem_nil,or_false] at hj
 subst hj
 obtain ⟨v,h',e1,I'⟩:=dGd (rec:=rec) W I rfl rfl
 exact ⟨_,v,h',cZq,by rw [cEk]; rfl,e1,by rw [cSf]; exact bCd W hP I'⟩
theorem eLl (W : PW g g7 k8 k10 k14 kF c q l1 l2 n ea cs) (hP : ∀ env h,PI g g7 k8 k10 k14 kF c q l1 l2 n ea cs 32767 env h → bS env h) (I : PI g g7 k8 k10 k14 kF c q l1 l2 n ea cs 31 env h) : dC CF0 rec 47 P6 bS 10 #[true,true,true,true,true,false,false,false,false,false,false,false,false,false,false] env h:=by
 refine ⟨fun e=>(by rw [dSx] at e; cases e),fun j hj => ?_⟩
 rw [dSx] at hj
 simp only [List.mem_cons,List.not_mem_nil,or_false] at hj
 rcases hj with rfl | rfl | rfl
 ·obtain ⟨v,h',e1,I'⟩:=rK (rec:=rec) W I rfl
  exact ⟨_,v,h',sS,by rw [pZ]; rfl,e1,by rw [dAu]; exact dSs W hP I'⟩
 ·obtain ⟨v,h',e1,I'⟩:=dIb (rec:=rec) W I rfl
  exact ⟨_,v,h',dEn,by rw [bZo]; rfl,e1,by rw [dMt]; exact eTt W hP I'⟩
 ·obtain ⟨v,h',e1,I'⟩:=sF (rec:=rec) W I rfl rfl
  exact ⟨_,v,h',sJ,by rw [pL]; rfl,e1,by rw [dCg]; exact cNg W hP I'⟩
theorem dTo (W : PW g g7 k8 k10 k14 kF c q l1 l2 n ea cs) (hP : ∀ env h,PI g g7 k8 k10 k14 kF c q l1 l2 n ea cs 32767 env h → bS env h) (I : PI g g7 k8 k10 k14 kF c q l1 l2 n ea cs 47 env h) : dC CF0 rec 47 P6 bS 10 #[true,true,true,true,false,true,false,false,false,false,false,false,false,false,false] env h:=by
 refine ⟨fun e=>(by rw [dSr] at e; cases e),fun j hj => ?_⟩
 rw [dSr] at hj
 simp only [List.mem_cons,List.not_mem_nil,or_false] at hj
 rcases hj with rfl | rfl
 ·obtain ⟨v,h',e1,I'⟩:=dGd (rec:=rec) W I rfl rfl
  exact ⟨_,v,h',cZq,by rw [cEk]; rfl,e1,by rw [dEz]; exact dSs W hP I'⟩
 ·obtain ⟨v,h',e1,I'⟩:=sF (rec:=rec) W I rfl rfl
  exact ⟨_,v,h',sJ,by rw [pL]; rfl,e1,by rw [cYt]; exact aWp W hP I'⟩
theorem cVw (W : PW g g7 k8 k10 k14 kF c q l1 l2 n ea cs) (hP : ∀ env h,PI g g7 k8 k10 k14 kF c q l1 l2 n ea cs 32767 env h → bS env h) (I : PI g g7 k8 k10 k14 kF c q l1 l2 n ea cs 143 env h) : dC CF0 rec 47 P6 bS 10 #[true,true,true,true,false,false,false,true,false,false,false,false,false,false,false] env h:=by
 refine ⟨fun e=>(by rw [cXa] at e; cases e),fun j hj => ?_⟩
 rw [cXa] at hj
 simp only [List.mem_cons,List.not_mem_nil,or_false] at hj
 rcases hj with rfl | rfl
 ·obtain ⟨v,h',e1,I'⟩:=dGd (rec:=rec) W I rfl rfl
  exact ⟨_,v,h',cZq,by rw [cEk]; rfl,e1,by rw [cJs]; exact cNg W hP I'⟩
 ·obtain ⟨v,h',e1,I'⟩:=rK (rec:=rec) W I rfl
  exact ⟨_,v,h',sS,by rw [pZ]; rfl,e1,by rw [cLy]; exact aWp W hP I'⟩
theorem bDt (W : PW g g7 k8 k10 k14 kF c q l1 l2 n ea cs) (hP : ∀ env h,PI g g7 k8 k10 k14 kF c q l1 l2 n ea cs 32767 env h → bS env h) (I : PI g g7 k8 k10 k14 kF c q l1 l2 n ea cs 167 env h) : dC CF0 rec 47 P6 bS 10 #[true,true,true,false,false,true,false,true,false,false,false,false,false,false,false] env h:=by
 refine ⟨fun e=>(by rw [cAr] at e; cases e),fun j hj => ?_⟩
 rw [cAr] at hj
 simp only [List.mem_cons,List.not_mem_nil,or_false] at hj
 subst hj
 obtain ⟨v,h',e1,I'⟩:=dCx (rec:=rec) W I rfl
 exact ⟨_,v,h',cYq,by rw [cGc]; rfl,e1,by rw [cVm]; exact aWp W hP I'⟩
theorem eRp (W : PW g g7 k8 k10 k14 kF c q l1 l2 n ea cs) (hP : ∀ env h,PI g g7 k8 k10 k14 kF c q l1 l2 n ea cs 32767 env h → bS env h) (I : PI g g7 k8 k10 k14 kF c q l1 l2 n ea cs 15 env h) : dC CF0 rec 47 P6 bS 11 #[true,true,true,true,false,false,false,false,false,false,false,false,false,false,false] env h:=by
 refine ⟨fun e=>(by rw [dRb] at e; cases e),fun j hj => ?_⟩
 rw [dRb] at hj
 simp only [List.mem_cons,List.not_mem_nil,or_false] at hj
 rcases hj with rfl | rfl | rfl
 ·obtain ⟨v,h',e1,I'⟩:=dGd (rec:=rec) W I rfl rfl
  exact ⟨_,v,h',cZq,by rw [cEk]; rfl,e1,by rw [dOm]; exact eLl W hP I'⟩
 ·obtain ⟨v,h',e1,I'⟩:=rK (rec:=rec) W I rfl
  exact ⟨_,v,h',sS,by rw [pZ]; rfl,e1,by rw [cXi]; exact dTo W hP I'⟩
 ·obtain ⟨v,h',e1,I'⟩:=sF (rec:=rec) W I rfl rfl
  exact ⟨_,v,h',sJ,by rw [pL]; rfl,e1,by rw [dFh]; exact cVw W hP I'⟩
theorem dTl (W : PW g g7 k8 k10 k14 kF c q l1 l2 n ea cs) (hP : ∀ env h,PI g g7 k8 k10 k14 kF c q l1 l2 n ea cs 32767 env h → bS env h) (I : PI g g7 k8 k10 k14 kF c q l1 l2 n ea cs 39 env h) : dC CF0 rec 47 P6 bS 11 #[true,true,true,false,false,true,false,false,false,false,false,false,false,false,false] env h:=by
 refine ⟨fun e=>(by rw [dRa] at e; cases e),fun j hj => ?_⟩
 rw [dRa] at hj
 simp only [List.mem_cons,List.not_mem_nil,or_false] at hj
 rcases hj with rfl | rfl
 ·obtain ⟨v,h',e1,I'⟩:=dCx (rec:=rec) W I rfl
  exact ⟨_,v,h',cYq,by rw [cGc]; rfl,e1,by rw [dIj]; exact dTo W hP I'⟩
 ·obtain ⟨v,h',e1,I'⟩:=sF (rec:=rec) W I rfl rfl
  exact ⟨_,v,h',sJ,by rw [pL]; rfl,e1,by rw [dAm]; exact bDt W hP I'⟩
theorem cAo (W : PW g g7 k8 k10 k14 kF c q l1 l2 n ea cs) (hP : ∀ env h,PI g g7 k8 k10 k14 kF c q l1 l2 n ea cs 32767 env h → bS env h) (I : PI g g7 k8 k10 k14 kF c q l1 l2 n ea cs 135 env h) : dC CF0 rec 47 P6 bS 11 #[true,true,true,false,false,false,false,true,false,false,false,false,false,false,false] env h:=by
 refine ⟨fun e=>(by rw [cHq] at e; cases e),fun j hj => ?_⟩
 rw [cHq] at hj
 simp only [List.mem_cons,List.not_mem_nil,or_false] at hj
 rcases hj with rfl | rfl
 ·obtain ⟨v,h',e1,I'⟩:=dCx (rec:=rec) W I rfl
  exact ⟨_,v,h',cYq,by rw [cGc]; rfl,e1,by rw [bYf]; exact cVw W hP I'⟩
 ·obtain ⟨v,h',e1,I'⟩:=rK (rec:=rec) W I rfl
  exact ⟨_,v,h',sS,by rw [pZ]; rfl,e1,by rw [cIn]; exact bDt W hP I'⟩
theorem bBe (W : PW g g7 k8 k10 k14 kF c q l1 l2 n ea cs) (hP : ∀ env h,PI g g7 k8 k10 k14 kF c q l1 l2 n ea cs 32767 env h → bS env h) (I : PI g g7 k8 k10 k14 kF c q l1 l2 n ea cs 163 env h) : dC CF0 rec 47 P6 bS 11 #[true,true,false,false,false,true,false,true,false,false,false,false,false,false,false] env h:=by
 refine ⟨fun e=>(by rw [cLe] at e; cases e),fun j hj => ?_⟩
 rw [cLe] at hj
 simp only [List.mem_cons,List.not_mem_nil,or_false] at hj
 subst hj
 obtain ⟨v,h',e1,I'⟩:=dMe (rec:=rec) W I rfl
 exact ⟨_,v,h',dFl,by rw [cBo]; rfl,e1,by rw [cHe]; exact bDt W hP I'⟩
theorem eVg (W : PW g g7 k8 k10 k14 kF c q l1 l2 n ea cs) (hP : ∀ env h,PI g g7 k8 k10 k14 kF c q l1 l2 n ea cs 32767 env h → bS env h) (I : PI g g7 k8 k10 k14 kF c q l1 l2 n ea cs 7 env h) : dC CF0 rec 47 P6 bS 12 #[true,true,true,false,false,false,false,false,false,false,false,false,false,false,false] env h:=by
 refine ⟨fun e=>(by rw [eMw] at e; cases e),fun j hj => ?_⟩
 rw [eMw] at hj
 simp only [List.mem_cons,List.not_mem_nil,or_false] at hj
 rcases hj with rfl | rfl | rfl
 ·obtain ⟨v,h',e1,I'⟩:=dCx (rec:=rec) W I rfl
  exact ⟨_,v,h',cYq,by rw [cGc]; rfl,e1,by rw [eFw]; exact eRp W hP I'⟩
 ·obtain ⟨v,h',e1,I'⟩:=rK (rec:=rec) W I rfl
  exact ⟨_,v,h',sS,by rw [pZ]; rfl,e1,by rw [eFr]; exact dTl W hP I'⟩
 ·obtain ⟨v,h',e1,I'⟩:=sF (rec:=rec) W I rfl rfl
  exact ⟨_,v,h',sJ,by rw [pL]; rfl,e1,by rw [dXi]; exact cAo W hP I'⟩
theorem dQy (W : PW g g7 k8 k10 k14 kF c q l1 l2 n ea cs) (hP : ∀ env h,PI g g7 k8 k10 k14 kF c q l1 l2 n ea cs 32767 env h → bS env h) (I : PI g g7 k8 k10 k14 kF c q l1 l2 n ea cs 35 env h) : dC CF0 rec 47 P6 bS 12 #[true,true,false,false,false,true,false,false,false,false,false,false,false,false,false] env h:=by
 refine ⟨fun e=>(by rw [dSp] at e; cases e),fun j hj => ?_⟩
 rw [dSp] at hj
 simp only [List.mem_cons,List.not_mem_nil,or_false] at hj
 rcases hj with rfl | rfl
 ·obtain ⟨v,h',e1,I'⟩:=dMe (rec:=rec) W I rfl
  exact ⟨_,v,h',dFl,by rw [cBo]; rfl,e1,by rw [dHe]; exact dTl W hP I'⟩
 ·obtain ⟨v,h',e1,I'⟩:=sF (rec:=rec) W I rfl rfl
  exact ⟨_,v,h',sJ,by rw [pL]; rfl,e1,by rw [dGa]; exact bBe W hP I'⟩
theorem cPn (W : PW g g7 k8 k10 k14 kF c q l1 l2 n ea cs) (hP : ∀ env h,PI g g7 k8 k10 k14 kF c q l1 l2 n ea cs 32767 env h → bS env h) (I : PI g g7 k8 k10 k14 kF c q l1 l2 n ea cs 131 env h) : dC CF0 rec 47 P6 bS 12 #[true,true,false,false,false,false,false,true,false,false,false,false,false,false,false] env h:=by
 refine ⟨fun e=>(by rw [bYu] at e; cases e),fun j hj => ?_⟩
 rw [bYu] at hj
 simp only [List.mem_cons,List.not_mem_nil,or_false] at hj
 rcases hj with rfl | rfl
 ·obtain ⟨v,h',e1,I'⟩:=dMe (rec:=rec) W I rfl
  exact ⟨_,v,h',dFl,by rw [cBo]; rfl,e1,by rw [bYa]; exact cAo W hP I'⟩
 ·obtain ⟨v,h',e1,I'⟩:=rK (rec:=rec) W I rfl
  exact ⟨_,v,h',sS,by rw [pZ]; rfl,e1,by rw [cSv]; exact bBe W hP I'⟩
theorem bDq (W : PW g g7 k8 k10 k14 kF c q l1 l2 n ea cs) (hP : ∀ env h,PI g g7 k8 k10 k14 kF c q l1 l2 n ea cs 32767 env h → bS env h) (I : PI g g7 k8 k10 k14 kF c q l1 l2 n ea cs 161 env h) : dC CF0 rec 47 P6 bS 12 #[true,false,false,false,false,true,false,true,false,false,false,false,false,false,false] env h:=by
 refine ⟨fun e=>(by rw [cMd] at e; cases e),fun j hj => ?_⟩
 rw [cMd] at hj
 simp only [List.mem_cons,List.not_mem_nil,or_false] at hj
 subst hj
 obtain ⟨v,h',e1,I'⟩:=dQk (rec:=rec) W I rfl
 exact ⟨_,v,h',cZy,by rw [cAn]; rfl,e1,by rw [cMj]; exact bBe W hP I'⟩
theorem eYi (W : PW g g7 k8 k10 k14 kF c q l1 l2 n ea cs) (hP : ∀ env h,PI g g7 k8 k10 k14 kF c q l1 l2 n ea cs 32767 env h → bS env h) (I : PI g g7 k8 k10 k14 kF c q l1 l2 n ea cs 3 env h) : dC CF0 rec 47 P6 bS 13 #[true,true,false,false,false,false,false,false,false,false,false,false,false,false,false] env h:=by
 refine ⟨fun e=>(by rw [eOq] at e; cases e),fun j hj => ?_⟩
 rw [eOq] at hj
 simp only [List.mem_cons,List.not_mem_nil,or_false] at hj
 rcases hj with rfl | rfl | rfl
 ·obtain ⟨v,h',e1,I'⟩:=dMe (rec:=rec) W I rfl
  exact ⟨_,v,h',dFl,by rw [cBo]; rfl,e1,by rw [eHy]; exact eVg W hP I'⟩
 ·obtain ⟨v,h',e1,I'⟩:=rK (rec:=rec) W I rfl
  exact ⟨_,v,h',sS,by rw [pZ]; rfl,e1,by rw [dVc]; exact dQy W hP I'⟩
 ·obtain ⟨v,h',e1,I'⟩:=sF (rec:=rec) W I rfl rfl
  exact ⟨_,v,h',sJ,by rw [pL]; rfl,e1,by rw [eBa]; exact cPn W hP I'⟩
theorem dRj (W : PW g g7 k8 k10 k14 kF c q l1 l2 n ea cs) (hP : ∀ env h,PI g g7 k8 k10 k14 kF c q l1 l2 n ea cs 32767 env h → bS env h) (I : PI g g7 k8 k10 k14 kF c q l1 l2 n ea cs 33 env h) : dC CF0 rec 47 P6 bS 13 #[true,false,false,false,false,true,false,false,false,false,false,false,false,false,false] env h:=by
 refine ⟨fun e=>(by rw [dSg] at e; cases e),fun j hj => ?_⟩
 rw [dSg] at hj
 simp only [List.mem_cons,List.not_mem_nil,or_false] at hj
 rcases hj with rfl | rfl
 ·obtain ⟨v,h',e1,I'⟩:=dQk (rec:=rec) W I rfl
  exact ⟨_,v,h',cZy,by rw [cAn]; rfl,e1,by rw [dBh]; exact dQy W hP I'⟩
 ·obtain ⟨v,h',e1,I'⟩:=sF (rec:=rec) W I rfl rfl
  exact ⟨_,v,h',sJ,by rw [pL]; rfl,e1,by rw [cZn]; exact bDq W hP I'⟩
theorem cMv (W : PW g g7 k8 k10 k14 kF c q l1 l2 n ea cs) (hP : ∀ env h,PI g g7 k8 k10 k14 kF c q l1 l2 n ea cs 32767 env h → bS env h) (I : PI g g7 k8 k10 k14 kF c q l1 l2 n ea cs 129 env h) : dC CF0 rec 47 P6 bS 13 #[true,false,false,false,false,false,false,true,false,false,false,false,false,false,false] env h:=by
 refine ⟨fun e=>(by rw [cHf] at e; cases e),fun j hj => ?_⟩
 rw [cHf] at hj
 simp only [List.mem_cons,List.not_mem_nil,or_false] at hj
 rcases hj with rfl | rfl
 ·obtain ⟨v,h',e1,I'⟩:=dQk (rec:=rec) W I rfl
  exact ⟨_,v,h',cZy,by rw [cAn]; rfl,e1,by rw [cSh]; exact cPn W hP I'⟩
 ·obtain ⟨v,h',e1,I'⟩:=rK (rec:=rec) W I rfl
  exact ⟨_,v,h',sS,by rw [pZ]; rfl,e1,by rw [bZp]; exact bDq W hP I'⟩
theorem cTr (W : PW g g7 k8 k10 k14 kF c q l1 l2 n ea cs) (hP : ∀ env h,PI g g7 k8 k10 k14 kF c q l1 l2 n ea cs 32767 env h → bS env h) (I : PI g g7 k8 k10 k14 kF c q l1 l2 n ea cs 160 env h) : dC CF0 rec 47 P6 bS 13 #[false,false,false,false,false,true,false,true,false,false,false,false,false,false,false] env h:=by
 refine ⟨fun e=>(by rw [bWu] at e; cases e),fun j hj => ?_⟩
 rw [bWu] at hj
 simp only [List.mem_cons,List.not_mem_nil,or_false] at hj
 subst hj
 obtain ⟨v,h',e1,I'⟩:=dDo (rec:=rec) W I
 exact ⟨_,v,h',cZf,by rw [cRy]; rfl,e1,by rw [cDh]; exact bDq W hP I'⟩
theorem eVo (W : PW g g7 k8 k10 k14 kF c q l1 l2 n ea cs) (hP : ∀ env h,PI g g7 k8 k10 k14 kF c q l1 l2 n ea cs 32767 env h → bS env h) (I : PI g g7 k8 k10 k14 kF c q l1 l2 n ea cs 1 env h) : dC CF0 rec 47 P6 bS 14 #[true,false,false,false,false,false,false,false,false,false,false,false,false,false,false] env h:=by
 refine ⟨fun e=>(by rw [eOh] at e; cases e),fun j hj => ?_⟩
 rw [eOh] at hj
 simp only [List.mem_cons,List.not_mem_nil,or_false] at hj
 rcases hj with rfl | rfl | rfl
 ·obtain ⟨v,h',e1,I'⟩:=dQk (rec:=rec) W I rfl
  exact ⟨_,v,h',cZy,by rw [cAn]; rfl,e1,by rw [dYy]; exact eYi W hP I'⟩
 ·obtain ⟨v,h',e1,I'⟩:=rK (rec:=rec) W I rfl
  exact ⟨_,v,h',sS,by rw [pZ]; rfl,e1,by rw [dYp]; exact dRj W hP I'⟩
 ·obtain ⟨v,h',e1,I'⟩:=sF (rec:=rec) W I rfl rfl
  exact ⟨_,v,h',sJ,by rw [pL]; rfl,e1,by rw [dXb]; exact cMv W hP I'⟩
theorem ePk (W : PW g g7 k8 k10 k14 kF c q l1 l2 n ea cs) (hP : ∀ env h,PI g g7 k8 k10 k14 kF c q l1 l2 n ea cs 32767 env h → bS env h) (I : PI g g7 k8 k10 k14 kF c q l1 l2 n ea cs 32 env h) : dC CF0 rec 47 P6 bS 14 #[false,false,false,false,false,true,false,false,false,false,false,false,false,false,false] env h:=by
 refine ⟨fun e=>(by rw [dRq] at e; cases e),fun j hj => ?_⟩
 rw [dRq] at hj
 simp only [List.mem_cons,List.not_mem_nil,or_false] at hj
 rcases hj with rfl | rfl
 ·obtain ⟨v,h',e1,I'⟩:=dDo (rec:=rec) W I
  exact ⟨_,v,h',cZf,by rw [cRy]; rfl,e1,by rw [cZa]; exact dRj W hP I'⟩
 ·obtain ⟨v,h',e1,I'⟩:=sF (rec:=rec) W I rfl rfl
  exact ⟨_,v,h',sJ,by rw [pL]; rfl,e1,by rw [dEh]; exact cTr W hP I'⟩
theorem eGd (W : PW g g7 k8 k10 k14 kF c q l1 l2 n ea cs) (hP : ∀ env h,PI g g7 k8 k10 k14 kF c q l1 l2 n ea cs 32767 env h → bS env h) (I : PI g g7 k8 k10 k14 kF c q l1 l2 n ea cs 128 env h) : dC CF0 rec 47 P6 bS 14 #[false,false,false,false,false,false,false,true,false,false,false,false,false,false,false] env h:=by
 refine ⟨fun e=>(by rw [cVu] at e; cases e),fun j hj => ?_⟩
 rw [cVu] at hj
 simp only [List.mem_cons,List.not_mem_nil,or_false] at hj
 rcases hj with rfl | rfl
 ·obtain ⟨v,h',e1,I'⟩:=dDo (rec:=rec) W I
  exact ⟨_,v,h',cZf,by rw [cRy]; rfl,e1,by rw [cMn]; exact cMv W hP I'⟩
 ·obtain ⟨v,h',e1,I'⟩:=rK (rec:=rec) W I rfl
  exact ⟨_,v,h',sS,by rw [pZ]; rfl,e1,by rw [cTd]; exact cTr W hP I'⟩
theorem eXz (W : PW g g7 k8 k10 k14 kF c q l1 l2 n ea cs) (hP : ∀ env h,PI g g7 k8 k10 k14 kF c q l1 l2 n ea cs 32767 env h → bS env h) (I : PI g g7 k8 k10 k14 kF c q l1 l2 n ea cs 0 env h) : dC CF0 rec 47 P6 bS 15 #[false,false,false,false,false,false,false,false,false,false,false,false,false,false,false] env h:=by
 refine ⟨fun e=>(by rw [eOd] at e; cases e),fun j hj => ?_⟩
 rw [eOd] at hj
 simp only [List.mem_cons,List.not_mem_nil,or_false] at hj
 rcases hj with rfl | rfl | rfl
 ·obtain ⟨v,h',e1,I'⟩:=dDo (rec:=rec) W I
  exact ⟨_,v,h',cZf,by rw [cRy]; rfl,e1,by rw [eEq]; exact eVo W hP I'⟩
 ·obtain ⟨v,h',e1,I'⟩:=rK (rec:=rec) W I rfl
  exact ⟨_,v,h',sS,by rw [pZ]; rfl,e1,by rw [dXr]; exact ePk W hP I'⟩
 ·obtain ⟨v,h',e1,I'⟩:=sF (rec:=rec) W I rfl rfl
  exact ⟨_,v,h',sJ,by rw [pL]; rfl,e1,by rw [dZu]; exact eGd W hP I'⟩
theorem bQu (W : PW g g7 k8 k10 k14 kF c q l1 l2 n ea cs) (hP : ∀ env h,Sim true kF h → env 0 = .p c 0 → bS env h) (e0 : env 0 = .p c 0) (e3 : env 3 = .p q 0) : dC CF0 rec 47 P6 bS P6.size (Array.replicate P6.size false) env g:=by
 rw [pz,y6]
 exact eXz W (fun env h I=>hP env h I.hq I.e0) ⟨e0,e3,fun j hj=>(by rw [Nat.zero_testBit] at hj; cases hj),rfl⟩
end
end Go.Dd

end
