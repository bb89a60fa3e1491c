/- A part of the proof: A B C0 C D E F G H I I2 I3 I4 J K: each text has a comment of its own. -/
import Derived.Orders
import Derived.Below
import Derived.Lib.LaidTab
import Derived.Lib.ItoaNum
import Derived.Laws.Tables
import Derived.Laws.Append
import Derived.Laws.Strings
import Derived.Laws.Slices
import Derived.Laws.BytesString
import Derived.Laws.RangeString
import Derived.MapKept
import Derived.Laws.IdiomStrings
import Derived.Laws.AppendOwn
set_option linter.unusedVariables false
set_option linter.unusedSimpArgs false
set_option linter.constructorNameAsVariable false
set_option maxRecDepth 100000
noncomputable section
namespace Go.Dd
theorem dA0 {α : Type} {l r : List α} {i : Nat} {x : α} (h : l.drop i = x :: r) : l[i]? = some x:=by
 have:=congrArg (fun l=>l[0]?) h
 simpa using this
theorem dA1 {α : Type} {l r : List α} {i : Nat} {x : α} (h : l.drop i = x :: r) : l.drop (i + 1) = r:=by
 have:=congrArg (List.drop 1) h
 simpa [List.drop_drop] using this
theorem gLt {α : Type} {l : List α} {i : Nat} {x : α} (h : l[i]? = some x) : i < l.length:=(List.getElem?_eq_some_iff.1 h).1
theorem mH0 {α : Type} {a : α} {l : List α} : a ∈ a :: l:=List.Mem.head _
theorem mH1 {α : Type} {a b : α} {l : List α} : a ∈ b :: a :: l:=List.Mem.tail _ (List.Mem.head _)
theorem laE {α : Type} {a b : List α} : (a ++ b).length = a.length + b.length:=List.length_append
theorem lcE {α : Type} {a : α} {b : List α} : (a :: b).length = b.length + 1:=List.length_cons
theorem lnE {α : Type} : ([] : List α).length = 0:=List.length_nil
theorem bB {α : Type} (a b : α) : (some a = some b) = (a = b):=Option.some.injEq a b
theorem bN {α β : Type} (a c : α) (b d : β) : ((a,b) = (c,d)) = (a = c ∧ b = d):=Prod.mk.injEq a b c d
theorem obs {α β : Type} {o : Option α} {f : α → Option β} {b : β} (h : o.bind f = some b) : ∃ a,o = some a ∧ f a = some b:=Option.bind_eq_some_iff.1 h
noncomputable section
inductive Pos where
 | h
 | o (p : Pos)
 | i (p : Pos)
 deriving DecidableEq
def Pos.toNat : Pos → Nat
 | .h=>1
 | .o p=>2 * p.toNat
 | .i p=>2 * p.toNat + 1
def Pos.succ (p : Pos) : Pos:=Pos.rec (motive:=fun _=>Pos) (.o .h) (fun p _=>.i p) (fun _ ih=>.o ih) p
theorem fCi : Pos.h.succ = .o .h:=rfl
theorem fCj (p : Pos) : (Pos.o p).succ = .i p:=rfl
theorem fCk (p : Pos) : (Pos.i p).succ = .o p.succ:=rfl
inductive Tr (α : Type) where
 | e
 | n (l : Tr α) (v : Option α) (r : Tr α)
def Tr.get {α : Type} (t : Tr α) : Pos → Option α :=
 Tr.rec (motive:=fun _=>Pos → Option α) (fun _=>none)
  (fun _ v _ ihl ihr p=>Pos.rec (motive:=fun _=>Option α) v (fun q _=>ihl q) (fun q _=>ihr q) p) t
def Tr.set {α : Type} (x : α) (p : Pos) : Tr α → Tr α :=
 Pos.rec (motive:=fun _=>Tr α → Tr α)
  (fun t=>Tr.rec (motive:=fun _=>Tr α) (.n .e (some x) .e) (fun l _ r _ _=>.n l (some x) r) t)
  (fun _ ih t=>Tr.rec (motive:=fun _=>Tr α) (.n (ih .e) none .e) (fun l v r _ _=>.n (ih l) v r) t)
  (fun _ ih t=>Tr.rec (motive:=fun _=>Tr α) (.n .e none (ih .e)) (fun l v r _ _=>.n l v (ih r)) t) p
theorem fBf {α : Type} (p : Pos) : (Tr.e : Tr α).get p = none:=rfl
theorem fBn {α : Type} (l : Tr α) (v : Option α) (r : Tr α) : (Tr.n l v r).get .h = v:=rfl
theorem fBo {α : Type} (l : Tr α) (v : Option α) (r : Tr α) (p : Pos) : (Tr.n l v r).get (.o p) = l.get p:=rfl
theorem fBp {α : Type} (l : Tr α) (v : Option α) (r : Tr α) (p : Pos) : (Tr.n l v r).get (.i p) = r.get p:=rfl
theorem fBg {α : Type} (x : α) : Tr.set x .h .e = .n .e (some x) .e:=rfl
theorem fBh {α : Type} (x : α) (l : Tr α) (v : Option α) (r : Tr α) : Tr.set x .h (.n l v r) = .n l (some x) r:=rfl
theorem fBi {α : Type} (x : α) (p : Pos) : Tr.set x (.o p) .e = .n (Tr.set x p .e) none .e:=rfl
theorem fBj {α : Type} (x : α) (p : Pos) (l : Tr α) (v : Option α) (r : Tr α) : Tr.set x (.o p) (.n l v r) = .n (Tr.set x p l) v r:=rfl
theorem fBk {α : Type} (x : α) (p : Pos) : Tr.set x (.i p) .e = .n .e none (Tr.set x p .e):=rfl
theorem fBl {α : Type} (x : α) (p : Pos) (l : Tr α) (v : Option α) (r : Tr α) : Tr.set x (.i p) (.n l v r) = .n l v (Tr.set x p r):=rfl
inductive DV where
 | u
 | b (x : Bool)
 | i (k : IntKind) (n : Int)
 | s (l : List Nat)
 | p0
 | p (b : Pos) (o : Nat)
 | l0
 | l (b : Pos) (o len cap : Nat)
 | lx (b : Pos) (o len cap : Nat)
 | le
 | m0
 | m (b : Pos)
 | f0
 | f (g : FuncId) (first cap : List DV)
 | n0
 | c (t : TypeId) (v : DV)
 | a (cs : List DV)
 | t (vs : List DV)
 | yl (b : Pos)
inductive Kind where
 | ro
 | ex
 | gr (es : Nat)
 | sp
 deriving DecidableEq
inductive WT where
 | e
 | n (l : WT) (v : Int) (r : WT)
inductive Ob where
 | row (k : Kind) (l : List DV)
 | it (s : List Nat) (pos : Nat)
 | mp (es : List (DV × DV))
 | big (n : Nat) (t : WT)
 | mi (t : WT)
def Ob.sg : Ob → Bool
 | .it _ _=>true
 | .mp _=>true
 | _=>false
structure Hp where
 next : Pos
 bl : Tr Ob
abbrev aH:=Option (DV × Hp)
abbrev aZ:=Nat → DV
abbrev K:=aZ → Hp → aH
def DV.one (x : DV) : Bool :=
 DV.rec (motive_1:=fun _=>Bool) (motive_2:=fun _=>PUnit) (false) (fun _=>true) (fun _ _=>true) (fun _=>true) (true) (fun _ _=>true) (true) (fun _ _ _ _=>true) (fun _ _ _ _=>true) (true) (true) (fun _=>true) (true) (fun _ _ _ _ _=>true) (true) (fun _ _ _=>true) (fun _ _=>false) (fun _ _=>false) (fun _=>true) PUnit.unit (fun _ _ _ _=>PUnit.unit) x
def aT : DV:=.t []
def dJ (x : DV) : Option (List DV) :=
 DV.rec (motive_1:=fun _=>Option (List DV)) (motive_2:=fun _=>PUnit) (none) (fun x=>some [.b x]) (fun k n=>some [.i k n]) (fun l=>some [.s l]) (some [.p0]) (fun b o=>some [.p b o]) (some [.l0]) (fun b o len cap=>some [.l b o len cap]) (fun b o len cap=>some [.lx b o len cap]) (some [.le]) (some [.m0]) (fun b=>some [.m b]) (some [.f0]) (fun g x y _ _=>some [.f g x y]) (some [.n0]) (fun t v _=>some [.c t v]) (fun cs _=>some cs) (fun _ _=>none) (fun b=>some [.yl b]) PUnit.unit (fun _ _ _ _=>PUnit.unit) x
theorem dXt (x : DV) : dJ x = match x with
 | .u=>none
 | .t _=>none
 | .a cs=>some cs
 | v=>some [v]:=by cases x <;> rfl
def cv : Value → DV
 | .bool x=>.b x
 | .int k n=>.i k n
 | .string s=>.s (s.data.toList.map (·.toNat))
 | .pointer none=>.p0
 | .slice none 0 0=>.l0
 | .map none=>.m0
 | .nilFunc=>.f0
 | .nilIface=>.n0
 | _=>.u
def zvD (z : Value) : DV :=
 match z with
 | .agg cs=>.a (cs.toList.map cv)
 | v=>cv v
def pD (v : Value) : List DV:=v.cells.toList.map cv
def Hp.new (h : Hp) (o : Ob) : Pos × Hp:=(h.next,⟨h.next.succ,Tr.set o h.next h.bl⟩)
def bQ (cs : List DV) (h : Hp) : aH:=some (.p h.next 0,⟨h.next.succ,Tr.set (.row .ex cs) h.next h.bl⟩)
def nA (b : Pos) (cs : List DV) (h : Hp) : aH:=some (.p b 0,⟨h.next,Tr.set (.row .ex cs) b h.bl⟩)
def aBp (b : Pos) (v : DV) (h : Hp) : aH :=
 match dJ v with
 | some cs=>nA b cs h
 | none=>none
def bZ (v : DV) (h : Hp) : aH :=
 match dJ v with
 | some cs=>bQ cs h
 | none=>none
def tlD (l : List DV) : List DV:=List.rec (motive:=fun _=>List DV) [] (fun _ t _=>t) l
def t8D (l : List DV) : List DV:=tlD (tlD (tlD (tlD (tlD (tlD (tlD (tlD l)))))))
def dAz (q : Nat) : List DV → List DV:=Nat.rec (motive:=fun _=>List DV → List DV) (fun l=>l) (fun _ ih l=>ih (t8D l)) q
def eFu (l : List DV) : Nat → Option DV:=List.rec (motive:=fun _=>Nat → Option DV) (fun _=>none) (fun x _ ih o=>Nat.rec (motive:=fun _=>Option DV) (some x) (fun k _=>ih k) o) l
def cBy (l : List DV) : Nat → List DV:=List.rec (motive:=fun _=>Nat → List DV) (fun _=>[]) (fun x t ih o=>Nat.rec (motive:=fun _=>List DV) (x :: t) (fun k _=>ih k) o) l
def bUo (l : List DV) (o : Nat) : Option DV:=eFu (dAz (Nat.div o 8) l) (Nat.mod o 8)
def bPs (l : List DV) (o : Nat) : List DV:=cBy (dAz (Nat.div o 8) l) (Nat.mod o 8)
theorem dWc (l : List DV) : tlD l = l.drop 1:=by cases l <;> rfl
theorem dXw (l : List DV) : t8D l = l.drop 8:=by simp only [t8D,dWc,List.drop_drop]
theorem aQl : ∀ (q : Nat) (l : List DV),dAz q l = l.drop (8 * q)
 | 0,l=>by show l = l.drop 0; rw [List.drop_zero]
 | q + 1,l=>by
  show dAz q (t8D l) = _
  rw [aQl q,dXw,List.drop_drop]
  congr 1
  omega
theorem bJc : ∀ (l : List DV) (o : Nat),eFu l o = l[o]?
 | [],_=>by simp [eFu]
 | x :: l,0=>rfl
 | x :: l,o + 1=>(bJc l o).trans (by simp)
theorem aTk : ∀ (l : List DV) (o : Nat),cBy l o = l.drop o
 | [],_=>by simp [cBy]
 | x :: l,0=>rfl
 | x :: l,o + 1=>(aTk l o).trans (by simp)
theorem aVl (o : Nat) : 8 * Nat.div o 8 + Nat.mod o 8 = o:=Nat.div_add_mod o 8
@[simp] theorem nthD_eq (l : List DV) (o : Nat) : bUo l o = l[o]? := by
 unfold bUo
 rw [bJc,aQl,List.getElem?_drop,aVl]
@[simp] theorem dropD_eq (l : List DV) (o : Nat) : bPs l o = l.drop o:=by
 unfold bPs
 rw [aTk,aQl,List.drop_drop,aVl]
def eJf (l : List DV) : Nat:=List.rec (motive:=fun _=>Nat) 0 (fun _ _ n=>Nat.succ n) l
theorem bKc : ∀ l : List DV,eJf l = l.length
 | []=>rfl
 | _ :: l=>congrArg Nat.succ (bKc l)
def rV : Nat → List DV → Option (List DV)
 | 0,_=>some []
 | n + 1,x :: xs=>if x.one then (rV n xs).map (x :: ·) else none
 | _ + 1,[]=>none
def rowOf (b : Pos) (h : Hp) : Option (List DV) :=
 Option.rec (motive:=fun _=>Option (List DV)) none (fun o=>Ob.rec (motive:=fun _=>Option (List DV)) (fun _ l=>some l) (fun _ _=>none) (fun _=>none) (fun _ _=>none) (fun _=>none) o) (h.bl.get b)
theorem cQ (b : Pos) (h : Hp) : rowOf b h =
 match h.bl.get b with
 | some (.row _ l)=>some l
 | _=>none
  := by unfold rowOf; cases h.bl.get b with
   | none=>rfl
   | some o=>cases o <;> rfl
def cellD (b : Pos) (o : Nat) (h : Hp) : Option DV :=
 Option.rec (motive:=fun _=>Option DV) none (fun l=>Option.rec (motive:=fun _=>Option DV) none (fun v=>Bool.rec (motive:=fun _=>Option DV) none (some v) v.one) (bUo l o)) (rowOf b h)
theorem dD (b : Pos) (o : Nat) (h : Hp) : cellD b o h =
 match rowOf b h with
 | some l=>match bUo l o with
  | some v=>if v.one then some v else none
  | none=>none
 | none=>none:=by
 unfold cellD
 cases rowOf b h with
 | none=>rfl
 | some l =>
  dsimp only
  cases bUo l o with
  | none=>rfl
  | some v =>
   dsimp only
   cases v.one <;> rfl
def cellsAt (b : Pos) (o n : Nat) (h : Hp) : Option (List DV) :=
 match rowOf b h with
 | some l=>rV n (bPs l o)
 | none=>none
def aA (x : DV) (h : Hp) : aH :=
 DV.rec (motive_1:=fun _=>Hp → aH) (motive_2:=fun _=>PUnit) ((fun _=>none)) (fun _=>(fun _=>none)) (fun _ _=>(fun _=>none)) (fun _=>(fun _=>none)) ((fun _=>none)) (fun b o h=>Option.rec (motive:=fun _=>aH) none (fun v=>some (v,h)) (cellD b o h)) ((fun _=>none)) (fun _ _ _ _=>(fun _=>none)) (fun _ _ _ _=>(fun _=>none)) ((fun _=>none)) ((fun _=>none)) (fun _=>(fun _=>none)) ((fun _=>none)) (fun _ _ _ _ _=>(fun _=>none)) ((fun _=>none)) (fun _ _ _=>(fun _=>none)) (fun _ _=>(fun _=>none)) (fun _ _=>(fun _=>none)) (fun _=>(fun _=>none)) PUnit.unit (fun _ _ _ _=>PUnit.unit) x h
theorem cO (x : DV) (h : Hp) : aA x h =
 match x with
 | .p b o=>match cellD b o h with
  | some v=>some (v,h)
  | none=>none
 | _=>none
  := by cases x <;> (try rfl) <;> (rename_i b o; simp only [aA]; cases cellD b o h <;> rfl)
def aK (n : Nat) (x : DV) (h : Hp) : aH :=
 DV.rec (motive_1:=fun _=>Nat → Hp → aH) (motive_2:=fun _=>PUnit) ((fun _ _=>none)) (fun _=>(fun _ _=>none)) (fun _ _=>(fun _ _=>none)) (fun _=>(fun _ _=>none)) ((fun _ _=>none)) (fun b o n h=>Option.rec (motive:=fun _=>aH) none (fun cs=>some (.a cs,h)) (cellsAt b o n h)) ((fun _ _=>none)) (fun _ _ _ _=>(fun _ _=>none)) (fun _ _ _ _=>(fun _ _=>none)) ((fun _ _=>none)) ((fun _ _=>none)) (fun _=>(fun _ _=>none)) ((fun _ _=>none)) (fun _ _ _ _ _=>(fun _ _=>none)) ((fun _ _=>none)) (fun _ _ _=>(fun _ _=>none)) (fun _ _=>(fun _ _=>none)) (fun _ _=>(fun _ _=>none)) (fun _=>(fun _ _=>none)) PUnit.unit (fun _ _ _ _=>PUnit.unit) x n h
theorem eH (n : Nat) (x : DV) (h : Hp) : aK n x h =
 match x with
 | .p b o=>match cellsAt b o n h with
  | some cs=>some (.a cs,h)
  | none=>none
 | _=>none
  := by cases x <;> (try rfl) <;> (rename_i b o; simp only [aK]; cases cellsAt b o n h <;> rfl)
def oK : List DV → List DV → Option (List DV)
 | l,[]=>some l
 | x :: l,v :: vs=>if x.one && v.one then (oK l vs).map (v :: ·) else none
 | [],_ :: _=>none
def fR : Nat → List DV → List DV → Option (List DV)
 | 0,l,vs=>oK l vs
 | n + 1,x :: l,vs=>(fR n l vs).map (x :: ·)
 | _ + 1,[],vs=>if vs.isEmpty then some [] else none
def bWy (n : Nat) (l vs : List DV) : Option (List DV):=List.rec (motive:=fun _=>Nat → Option (List DV)) (fun n=>fR n [] vs)
 (fun x l ih n=>Nat.rec (motive:=fun _=>Option (List DV)) (oK (x :: l) vs) (fun k _=>Option.rec (motive:=fun _=>Option (List DV)) none (fun t=>some (x :: t)) (ih k)) n) l n
@[simp] theorem putQ_eq : ∀ (n : Nat) (l vs : List DV),bWy n l vs = fR n l vs
 | _,[],_=>rfl
 | 0,_ :: _,_=>rfl
 | n + 1,x :: l,vs=>by
  have e:=putQ_eq n l vs
  simp only [bWy,fR] at e ⊢
  rw [e]
  cases fR n l vs <;> rfl
def Kind.writable : Kind → Bool
 | .ro=>false
 | _=>true
def fQ (b : Pos) (o : Nat) (vs : List DV) (h : Hp) : Option Hp :=
 Option.rec (motive:=fun _=>Option Hp) none (fun ob=>Ob.rec (motive:=fun _=>Option Hp) (fun k l=>Bool.rec (motive:=fun _=>Option Hp) none (Option.rec (motive:=fun _=>Option Hp) none (fun l'=>some ⟨h.next,Tr.set (.row k l') b h.bl⟩) (bWy o l vs)) k.writable) (fun _ _=>none) (fun _=>none) (fun _ _=>none) (fun _=>none) ob) (h.bl.get b)
theorem cW (b : Pos) (o : Nat) (vs : List DV) (h : Hp) : fQ b o vs h =
 match h.bl.get b with
 | some (.row k l)=>if k.writable then (match bWy o l vs with
  | some l'=>some ⟨h.next,Tr.set (.row k l') b h.bl⟩
  | none=>none) else none
 | _=>none:=by
 unfold fQ
 cases h.bl.get b with
 | none=>rfl
 | some ob =>
  cases ob <;> (try rfl)
  rename_i k l
  dsimp only
  cases k.writable with
  | false=>rfl
  | true =>
   dsimp only
   cases bWy o l vs <;> rfl
def aJ (n : Nat) (x v : DV) (h : Hp) : aH :=
 DV.rec (motive_1:=fun _=>Nat → DV → Hp → aH) (motive_2:=fun _=>PUnit) ((fun _ _ _=>none)) (fun _=>(fun _ _ _=>none)) (fun _ _=>(fun _ _ _=>none)) (fun _=>(fun _ _ _=>none)) ((fun _ _ _=>none)) (fun b o n v h=>Option.rec (motive:=fun _=>aH) none (fun cs=>Bool.rec (motive:=fun _=>aH) none (Option.rec (motive:=fun _=>aH) none (fun h'=>some (aT,h')) (fQ b o cs h)) (Nat.beq (eJf cs) n)) (dJ v)) ((fun _ _ _=>none)) (fun _ _ _ _=>(fun _ _ _=>none)) (fun _ _ _ _=>(fun _ _ _=>none)) ((fun _ _ _=>none)) ((fun _ _ _=>none)) (fun _=>(fun _ _ _=>none)) ((fun _ _ _=>none)) (fun _ _ _ _ _=>(fun _ _ _=>none)) ((fun _ _ _=>none)) (fun _ _ _=>(fun _ _ _=>none)) (fun _ _=>(fun _ _ _=>none)) (fun _ _=>(fun _ _ _=>none)) (fun _=>(fun _ _ _=>none)) PUnit.unit (fun _ _ _ _=>PUnit.unit) x n v h
theorem eM (n : Nat) (x v : DV) (h : Hp) : aJ n x v h =
 match x,dJ v with
 | .p b o,some cs=>if cs.length = n then (match fQ b o cs h with
  | some h'=>some (aT,h')
  | none=>none) else none
 | _,_=>none
  := by
 cases x <;> (try rfl)
 rename_i b o
 simp only [aJ]
 cases dJ v with
 | none=>rfl
 | some cs =>
  dsimp only
  rw [bKc]
  cases e : Nat.beq cs.length n with
  | false =>
   rw [if_neg (fun q=>by rw [q,Nat.beq_refl] at e; cases e)]
  | true =>
   rw [if_pos (Nat.eq_of_beq_eq_true e)]
   cases fQ b o cs h <;> rfl
def aV (x : DV) (h : Hp) : aH :=
 DV.rec (motive_1:=fun _=>Hp → aH) (motive_2:=fun _=>PUnit) ((fun _=>none)) (fun _=>(fun _=>none)) (fun _ _=>(fun _=>none)) (fun _=>(fun _=>none)) ((fun _=>none)) (fun b o h=>some (.p b o,h)) ((fun _=>none)) (fun _ _ _ _=>(fun _=>none)) (fun _ _ _ _=>(fun _=>none)) ((fun _=>none)) ((fun _=>none)) (fun _=>(fun _=>none)) ((fun _=>none)) (fun g a c _ _ h=>some (.f g a c,h)) ((fun _=>none)) (fun t v _ h=>some (.c t v,h)) (fun _ _=>(fun _=>none)) (fun _ _=>(fun _=>none)) (fun _=>(fun _=>none)) PUnit.unit (fun _ _ _ _=>PUnit.unit) x h
theorem cJh (x : DV) (h : Hp) : aV x h =
 match x with
 | .p b o=>some (.p b o,h)
 | .f g a c=>some (.f g a c,h)
 | .c t v=>some (.c t v,h)
 | _=>none
  := by cases x <;> rfl
def pH : List Nat → List Nat → Bool
 | _,[]=>false
 | [],_ :: _=>true
 | a :: x,b :: y=>Nat.blt a b || (Nat.beq a b && pH x y)
def eqD : List Nat → List Nat → Bool
 | [],[]=>true
 | a :: x,b :: y=>Nat.beq a b && eqD x y
 | _,_=>false
def gG (op : BinOp) : IntKind → Int → Int → Option DV :=
 match op with
 | .add=>fun k a b=>some (.i k (k.wrap (a + b)))
 | .sub=>fun k a b=>some (.i k (k.wrap (a - b)))
 | .mul=>fun k a b=>some (.i k (k.wrap (a * b)))
 | .quo=>fun k a b=>if b = 0 then none else some (.i k (k.wrap (a.tdiv b)))
 | .rem=>fun k a b=>if b = 0 then none else some (.i k (a.tmod b))
 | .eql=>fun k a b=>some (.b (a == b))
 | .neq=>fun k a b=>some (.b (a != b))
 | .lss=>fun k a b=>some (.b (a < b))
 | .leq=>fun k a b=>some (.b (a ≤ b))
 | .gtr=>fun k a b=>some (.b (a > b))
 | .geq=>fun k a b=>some (.b (a ≥ b))
 | .and=>fun k a b=>some (.i k (k.wrap ((BitVec.ofInt k.bits a &&& BitVec.ofInt k.bits b).toNat)))
 | .or=>fun k a b=>some (.i k (k.wrap ((BitVec.ofInt k.bits a ||| BitVec.ofInt k.bits b).toNat)))
 | .xor=>fun k a b=>some (.i k (k.wrap ((BitVec.ofInt k.bits a ^^^ BitVec.ofInt k.bits b).toNat)))
 | _=>fun _ _ _=>none
def cIy (op : BinOp) (a b : List Nat) : Option DV :=
 match op with
 | .add=>if ((a.length + b.length : Nat) : Int) > IntKind.i64.max then none else some (.s (a ++ b))
 | .eql=>some (.b (eqD a b))
 | .neq=>some (.b (!eqD a b))
 | .lss=>some (.b (pH a b))
 | .leq=>some (.b (pH a b || eqD a b))
 | .gtr=>some (.b (!(pH a b || eqD a b)))
 | .geq=>some (.b (!pH a b))
 | _=>none
def aSb (d : TypeDesc) (x y : DV) : Option Bool :=
 match d,x,y with
 | .bool,.b a,.b b=>some (a == b)
 | .pointer _,.p0,.p0=>some true
 | .pointer _,.p0,.p _ _=>some false
 | .pointer _,.p _ _,.p0=>some false
 | .slice _,.l0,.l0=>some true
 | .slice _,.l0,.l _ _ _ _=>some false
 | .slice _,.l _ _ _ _,.l0=>some false
 | .slice _,.l0,.lx _ _ _ _=>some false
 | .slice _,.lx _ _ _ _,.l0=>some false
 | .slice _,.l0,.le=>some false
 | .slice _,.le,.l0=>some false
 | .func _ _ _,.f0,.f0=>some true
 | .func _ _ _,.f0,.f _ _ _=>some false
 | .func _ _ _,.f _ _ _,.f0=>some false
 | .map _ _,.m0,.m0=>some true
 | .map _ _,.m0,.m _=>some false
 | .map _ _,.m _,.m0=>some false
 | _,_,_=>none
def dRr (k : IntKind) : Nat:=IntKind.rec (motive:=fun _=>Nat) 0 1 2 3 4 5 6 7 k
def aRt (k k' : IntKind) : Bool:=Nat.beq (dRr k) (dRr k')
theorem dKi {k k' : IntKind} (h : aRt k k' = true) : k = k':=by cases k <;> cases k' <;> first | rfl | (exact absurd h (by decide))
theorem dCe {k k' : IntKind} (h : aRt k k' = false) : k ≠ k':=fun e=>by
 subst e
 rw [aRt,Nat.beq_refl] at h
 cases h
def dSj (y : DV) : BinOp → IntKind → Int → Hp → aH :=
 DV.rec (motive_1:=fun _=>BinOp → IntKind → Int → Hp → aH) (motive_2:=fun _=>PUnit) ((fun _ _ _ _=>none)) (fun _=>(fun _ _ _ _=>none)) (fun k' b op k a h=>Bool.rec (motive:=fun _=>aH) none (Option.rec (motive:=fun _=>aH) none (fun v=>some (v,h)) (gG op k a b)) (aRt k k')) (fun _=>(fun _ _ _ _=>none)) ((fun _ _ _ _=>none)) (fun _ _=>(fun _ _ _ _=>none)) ((fun _ _ _ _=>none)) (fun _ _ _ _=>(fun _ _ _ _=>none)) (fun _ _ _ _=>(fun _ _ _ _=>none)) ((fun _ _ _ _=>none)) ((fun _ _ _ _=>none)) (fun _=>(fun _ _ _ _=>none)) ((fun _ _ _ _=>none)) (fun _ _ _ _ _=>(fun _ _ _ _=>none)) ((fun _ _ _ _=>none)) (fun _ _ _=>(fun _ _ _ _=>none)) (fun _ _=>(fun _ _ _ _=>none)) (fun _ _=>(fun _ _ _ _=>none)) (fun _=>(fun _ _ _ _=>none)) PUnit.unit (fun _ _ _ _=>PUnit.unit) y
def aC (op : BinOp) (x y : DV) (h : Hp) : aH :=
 DV.rec (motive_1:=fun _=>BinOp → DV → Hp → aH) (motive_2:=fun _=>PUnit) ((fun _ _ _=>none)) (fun _=>(fun _ _ _=>none)) (fun k a op y h=>dSj y op k a h) (fun _=>(fun _ _ _=>none)) ((fun _ _ _=>none)) (fun _ _=>(fun _ _ _=>none)) ((fun _ _ _=>none)) (fun _ _ _ _=>(fun _ _ _=>none)) (fun _ _ _ _=>(fun _ _ _=>none)) ((fun _ _ _=>none)) ((fun _ _ _=>none)) (fun _=>(fun _ _ _=>none)) ((fun _ _ _=>none)) (fun _ _ _ _ _=>(fun _ _ _=>none)) ((fun _ _ _=>none)) (fun _ _ _=>(fun _ _ _=>none)) (fun _ _=>(fun _ _ _=>none)) (fun _ _=>(fun _ _ _=>none)) (fun _=>(fun _ _ _=>none)) PUnit.unit (fun _ _ _ _=>PUnit.unit) x op y h
theorem dT (op : BinOp) (x y : DV) (h : Hp) : aC op x y h =
 match x,y with
 | .i k a,.i k' b=>if k = k' then (match gG op k a b with
  | some v=>some (v,h)
  | none=>none) else none
 | _,_=>none
  := by
 cases x <;> (try rfl)
 cases y <;> (try rfl)
 rename_i k a k' b
 simp only [aC,dSj]
 cases e : aRt k k' with
 | false=>rw [if_neg (dCe e)]
 | true =>
  rw [if_pos (dKi e)]
  cases gG op k a b <;> rfl
def dX (op : BinOp) (x y : DV) (h : Hp) : aH :=
 match x,y with
 | .s a,.s b=>match cIy op a b with
  | some v=>some (v,h)
  | none=>none
 | _,_=>none
def dA (op : BinOp) (x y : DV) (h : Hp) : aH :=
 match x,y with
 | .i k a,.i _ b =>
  if b < 0 then none else
  match op with
  | .shl=>some (.i k (k.wrap (a * 2 ^ (min b.toNat k.bits))),h)
  | .shr=>some (.i k (a.fdiv (2 ^ (min b.toNat k.bits))),h)
  | _=>none
 | _,_=>none
def lM (d : Option TypeDesc) : Bool :=
 match d with
 | some (.int _)=>true
 | _=>false
def pEq (d : TypeDesc) (pos : Bool) (x y : DV) (h : Hp) : aH :=
 match aSb d x y with
 | some r=>some (.b (if pos then r else !r),h)
 | none=>none
def aTy (P : Program) (t : TypeId) (fs : Array Field) : Bool :=
 match fs.toList with
 | [f,g]=>(f.name != "_") && ((g.name != "_") && (Nat.beq f.offset 0 && (Nat.beq g.offset 1 && (lM (P.underlying f.type) && (lM (P.underlying g.type) && (!(P.stoodInHeld t) && !(P.eqGuardType P.depth t)))))))
 | _=>false
def aFe (P : Program) (t : TypeId) (fs : Array Field) : Bool :=
 match fs.toList with
 | [f,g,e]=>(f.name != "_") && ((g.name != "_") && ((e.name != "_") && (Nat.beq f.offset 0 && (Nat.beq g.offset 1 && (Nat.beq e.offset 2 && (lM (P.underlying f.type) && (lM (P.underlying g.type) && (lM (P.underlying e.type) && (!(P.stoodInHeld t) && !(P.eqGuardType P.depth t))))))))))
 | _=>false
def bVf (ok : Bool) (op : BinOp) (x y : DV) (h : Hp) : aH :=
 match x,y with
 | .a [.i k a,.i l b],.a [.i k' a',.i l' b'] =>
  if ok = true ∧ k = k' ∧ l = l' then (match op with
   | .eql=>some (.b (a == a' && b == b'),h)
   | .neq=>some (.b (!(a == a' && b == b')),h)
   | _=>none) else none
 | _,_=>none
def aUc (op : BinOp) (x y : DV) (h : Hp) : aH :=
 match x,y with
 | .a [.i k a,.i l b,.i m c],.a [.i k' a',.i l' b',.i m' c'] =>
  if k = k' ∧ l = l' ∧ m = m' then (match op with
   | .eql=>some (.b (a == a' && (b == b' && c == c')),h)
   | .neq=>some (.b (!(a == a' && (b == b' && c == c'))),h)
   | _=>none) else none
 | _,_=>none
def dLs (o2 o3 : Bool) (op : BinOp) (x y : DV) (h : Hp) : aH:=bif o3 then aUc op x y h else bVf o2 op x y h
def cLh (op : BinOp) (d : TypeDesc) (x y : DV) (h : Hp) : aH :=
 match d with
 | .int _=>match op with
  | .shl=>dA .shl x y h
  | .shr=>dA .shr x y h
  | op=>aC op x y h
 | .string=>dX op x y h
 | d=>match op with
  | .eql=>pEq d true x y h
  | .neq=>pEq d false x y h
  | _=>none
def eQ (op : UnOp) (x : DV) (h : Hp) : aH :=
 match op,x with
 | .neg,.i k n=>some (.i k (k.wrap (0 - n)),h)
 | .not,.b b=>some (.b (!b),h)
 | _,_=>none
def cV (k : IntKind) (x : DV) (h : Hp) : aH :=
 match x with
 | .i _ n=>some (.i k (k.wrap n),h)
 | _=>none
def aKl (x : DV) (h : Hp) : aH :=
 match x with
 | .s l=>some (.s l,h)
 | _=>none
def aCn : List DV → Option (List Nat)
 | []=>some []
 | .i .u8 (.ofNat n) :: l=>if n < 256 then (aCn l).map (n :: ·) else none
 | _ :: _=>none
def nG (x : DV) (h : Hp) : aH :=
 match x with
 | .l0=>some (.s [],h)
 | .l b o len _=>match cellsAt b o len h with
  | some cs=>match aCn cs with
   | some l=>some (.s l,h)
   | none=>none
  | none=>none
 | _=>none
def iT (x : DV) (y : Nat) : Option Nat :=
 match x with
 | .i _ i=>if 0 ≤ i ∧ i ≤ (y : Int) then some i.toNat else none
 | _=>none
def loD (lo : Option DV) (y : Nat) : Option Nat :=
 match lo with
 | none=>some 0
 | some v=>iT v y
def hiD (hi : Option DV) (len cap : Nat) : Option Nat :=
 match hi with
 | none=>if len ≤ cap then some len else none
 | some v=>iT v cap
def iF (x : DV) (lo hi : Option DV) (h : Hp) : aH :=
 match x with
 | .s l=>match hiD hi l.length l.length with
  | some e=>match loD lo e with
   | some b=>some (.s ((l.take e).drop b),h)
   | none=>none
  | none=>none
 | _=>none
def eL (size : Nat) (x : DV) (lo hi : Option DV) (h : Hp) : aH :=
 match x with
 | .l b o len cap=>match hiD hi len cap with
  | some e=>match loD lo e with
   | some s =>
    match h.bl.get b with
    | some (.row .ro _) | some (.row .ex _)=>some (.l b (if cap = s then o else o + s * size) (e - s) (cap - s),h)
    | some (.row _ _)=>if cap = s then some (.le,h) else some (.l b (o + s * size) (e - s) (cap - s),h)
    | _=>none
   | none=>none
  | none=>none
 | .lx b o len cap=>match hiD hi len cap with
  | some e=>match loD lo e with
   | some s=>some (.lx b (if cap = s then o else o + s * size) (e - s) (cap - s),h)
   | none=>none
  | none=>none
 | .l0=>match hiD hi 0 0 with
  | some e=>match loD lo e with
   | some _=>some (.l0,h)
   | none=>none
  | none=>none
 | .le=>match hiD hi 0 0 with
  | some e=>match loD lo e with
   | some _=>some (.le,h)
   | none=>none
  | none=>none
 | _=>none
def oS (x : DV) (lo : Option DV) (hi mx : DV) (h : Hp) : aH :=
 match x,lo with
 | .l b o _ cap,none=>match iT mx cap with
  | some m=>match iT hi m with
   | some n=>some (.lx b o n m,h)
   | none=>none
  | none=>none
 | .lx b o _ cap,none=>match iT mx cap with
  | some m=>match iT hi m with
   | some n=>some (.lx b o n m,h)
   | none=>none
  | none=>none
 | .l0,none=>match iT mx 0,iT hi 0 with
  | some _,some _=>some (.l0,h)
  | _,_=>none
 | .le,none=>match iT mx 0,iT hi 0 with
  | some _,some _=>some (.le,h)
  | _,_=>none
 | _,_=>none
def aB (off : Nat) (x : DV) (h : Hp) : aH :=
 DV.rec (motive_1:=fun _=>Nat → Hp → aH) (motive_2:=fun _=>PUnit) ((fun _ _=>none)) (fun _=>(fun _ _=>none)) (fun _ _=>(fun _ _=>none)) (fun _=>(fun _ _=>none)) ((fun _ _=>none)) (fun b o off h=>some (.p b (o + off),h)) ((fun _ _=>none)) (fun _ _ _ _=>(fun _ _=>none)) (fun _ _ _ _=>(fun _ _=>none)) ((fun _ _=>none)) ((fun _ _=>none)) (fun _=>(fun _ _=>none)) ((fun _ _=>none)) (fun _ _ _ _ _=>(fun _ _=>none)) ((fun _ _=>none)) (fun _ _ _=>(fun _ _=>none)) (fun _ _=>(fun _ _=>none)) (fun _ _=>(fun _ _=>none)) (fun _=>(fun _ _=>none)) PUnit.unit (fun _ _ _ _=>PUnit.unit) x off h
theorem bBn (off : Nat) (x : DV) (h : Hp) : aB off x h =
 match x with
 | .p b o=>some (.p b (o + off),h)
 | _=>none
  := by cases x <;> rfl
def gN (off : Nat) (x : DV) (h : Hp) : aH :=
 match x with
 | .a cs=>match cs[off]? with
  | some v=>some (v,h)
  | none=>none
 | _=>none
def aJo (off size : Nat) (x : DV) (h : Hp) : aH :=
 match x with
 | .a cs=>some (.a ((cs.drop off).take size),h)
 | _=>none
def cGe (ix : DV) : Pos → Nat → Nat → Nat → Hp → aH :=
 DV.rec (motive_1:=fun _=>Pos → Nat → Nat → Nat → Hp → aH) (motive_2:=fun _=>PUnit) ((fun _ _ _ _ _=>none)) (fun _=>(fun _ _ _ _ _=>none)) (fun _ i b o len size h=>Int.rec (motive:=fun _=>aH) (fun n=>Bool.rec (motive:=fun _=>aH) none (some (.p b (o + n * size),h)) (Nat.blt n len)) (fun _=>none) i) (fun _=>(fun _ _ _ _ _=>none)) ((fun _ _ _ _ _=>none)) (fun _ _=>(fun _ _ _ _ _=>none)) ((fun _ _ _ _ _=>none)) (fun _ _ _ _=>(fun _ _ _ _ _=>none)) (fun _ _ _ _=>(fun _ _ _ _ _=>none)) ((fun _ _ _ _ _=>none)) ((fun _ _ _ _ _=>none)) (fun _=>(fun _ _ _ _ _=>none)) ((fun _ _ _ _ _=>none)) (fun _ _ _ _ _=>(fun _ _ _ _ _=>none)) ((fun _ _ _ _ _=>none)) (fun _ _ _=>(fun _ _ _ _ _=>none)) (fun _ _=>(fun _ _ _ _ _=>none)) (fun _ _=>(fun _ _ _ _ _=>none)) (fun _=>(fun _ _ _ _ _=>none)) PUnit.unit (fun _ _ _ _=>PUnit.unit) ix
theorem aTt (k : IntKind) (i : Int) (b : Pos) (o len size : Nat) (h : Hp) : cGe (.i k i) b o len size h = if 0 ≤ i ∧ i < (len : Int) then some (.p b (o + i.toNat * size),h) else none:=by
 cases i with
 | ofNat n =>
  simp only [cGe]
  cases e : Nat.blt n len with
  | false =>
   rw [if_neg (fun q=>by
    have : n < len:=by have:=q.2; simp only [Int.ofNat_eq_natCast] at this; omega
    have h2 : Nat.ble (n + 1) len = true:=Nat.ble_eq_true_of_le this
    rw [show Nat.blt n len = Nat.ble (n + 1) len from rfl,h2] at e
    cases e)]
  | true =>
   have : n < len:=Nat.le_of_ble_eq_true e
   rw [if_pos ⟨Int.natCast_nonneg n,by simp only [Int.ofNat_eq_natCast]; omega⟩]
   rfl
 | negSucc n=>rw [if_neg (fun q=>absurd q.1 (by simp))]; rfl
def aG (size : Nat) (x ix : DV) (h : Hp) : aH :=
 DV.rec (motive_1:=fun _=>Nat → DV → Hp → aH) (motive_2:=fun _=>PUnit) ((fun _ _ _=>none)) (fun _=>(fun _ _ _=>none)) (fun _ _=>(fun _ _ _=>none)) (fun _=>(fun _ _ _=>none)) ((fun _ _ _=>none)) (fun _ _=>(fun _ _ _=>none)) ((fun _ _ _=>none)) (fun b o len _ size ix h=>cGe ix b o len size h) (fun b o len _ size ix h=>cGe ix b o len size h) ((fun _ _ _=>none)) ((fun _ _ _=>none)) (fun _=>(fun _ _ _=>none)) ((fun _ _ _=>none)) (fun _ _ _ _ _=>(fun _ _ _=>none)) ((fun _ _ _=>none)) (fun _ _ _=>(fun _ _ _=>none)) (fun _ _=>(fun _ _ _=>none)) (fun _ _=>(fun _ _ _=>none)) (fun _=>(fun _ _ _=>none)) PUnit.unit (fun _ _ _ _=>PUnit.unit) x size ix h
theorem eT (size : Nat) (x ix : DV) (h : Hp) : aG size x ix h =
 match x,ix with
 | .l b o len _,.i _ i=>if 0 ≤ i ∧ i < (len : Int) then some (.p b (o + i.toNat * size),h) else none
 | .lx b o len _,.i _ i=>if 0 ≤ i ∧ i < (len : Int) then some (.p b (o + i.toNat * size),h) else none
 | _,_=>none
  := by cases x <;> (try rfl) <;> (cases ix <;> (try rfl)) <;> (rename_i k i; exact aTt k i _ _ _ _ _)
def mE (n size : Nat) (x ix : DV) (h : Hp) : aH :=
 DV.rec (motive_1:=fun _=>Nat → Nat → DV → Hp → aH) (motive_2:=fun _=>PUnit) ((fun _ _ _ _=>none)) (fun _=>(fun _ _ _ _=>none)) (fun _ _=>(fun _ _ _ _=>none)) (fun _=>(fun _ _ _ _=>none)) ((fun _ _ _ _=>none)) (fun b o n size ix h=>cGe ix b o n size h) ((fun _ _ _ _=>none)) (fun _ _ _ _=>(fun _ _ _ _=>none)) (fun _ _ _ _=>(fun _ _ _ _=>none)) ((fun _ _ _ _=>none)) ((fun _ _ _ _=>none)) (fun _=>(fun _ _ _ _=>none)) ((fun _ _ _ _=>none)) (fun _ _ _ _ _=>(fun _ _ _ _=>none)) ((fun _ _ _ _=>none)) (fun _ _ _=>(fun _ _ _ _=>none)) (fun _ _=>(fun _ _ _ _=>none)) (fun _ _=>(fun _ _ _ _=>none)) (fun _=>(fun _ _ _ _=>none)) PUnit.unit (fun _ _ _ _=>PUnit.unit) x n size ix h
theorem pG (n size : Nat) (x ix : DV) (h : Hp) : mE n size x ix h =
 match x,ix with
 | .p b o,.i _ i=>if 0 ≤ i ∧ i < (n : Int) then some (.p b (o + i.toNat * size),h) else none
 | _,_=>none
  := by cases x <;> (try rfl) <;> (cases ix <;> (try rfl)) <;> (rename_i k i; exact aTt k i _ _ _ _ _)
def cT (x ix : DV) (h : Hp) : aH :=
 match x,ix with
 | .s l,.i _ i=>if 0 ≤ i then (match l[i.toNat]? with
  | some c=>some (.i .u8 (c : Int),h)
  | none=>none) else none
 | _,_=>none
def aF (i : Nat) (x : DV) (h : Hp) : aH :=
 DV.rec (motive_1:=fun _=>Nat → Hp → aH) (motive_2:=fun _=>PUnit) ((fun _ _=>none)) (fun _=>(fun _ _=>none)) (fun _ _=>(fun _ _=>none)) (fun _=>(fun _ _=>none)) ((fun _ _=>none)) (fun _ _=>(fun _ _=>none)) ((fun _ _=>none)) (fun _ _ _ _=>(fun _ _=>none)) (fun _ _ _ _=>(fun _ _=>none)) ((fun _ _=>none)) ((fun _ _=>none)) (fun _=>(fun _ _=>none)) ((fun _ _=>none)) (fun _ _ _ _ _=>(fun _ _=>none)) ((fun _ _=>none)) (fun _ _ _=>(fun _ _=>none)) (fun _ _=>(fun _ _=>none)) (fun vs _ i h=>match bUo vs i with
  | some v=>some (v,h)
  | none=>none) (fun _=>(fun _ _=>none)) PUnit.unit (fun _ _ _ _=>PUnit.unit) x i h
theorem sC (i : Nat) (x : DV) (h : Hp) : aF i x h =
 match x with
 | .t vs=>match vs[i]? with
  | some v=>some (v,h)
  | none=>none
 | _=>none
  := by cases x <;> (try rfl) <;> (simp only [aF,nthD_eq])
def aN (c x y : DV) (h : Hp) : aH :=
 DV.rec (motive_1:=fun _=>DV → DV → Hp → aH) (motive_2:=fun _=>PUnit) ((fun _ _ _=>none)) (fun t x y h=>Bool.rec (motive:=fun _=>aH) (some (y,h)) (some (x,h)) t) (fun _ _=>(fun _ _ _=>none)) (fun _=>(fun _ _ _=>none)) ((fun _ _ _=>none)) (fun _ _=>(fun _ _ _=>none)) ((fun _ _ _=>none)) (fun _ _ _ _=>(fun _ _ _=>none)) (fun _ _ _ _=>(fun _ _ _=>none)) ((fun _ _ _=>none)) ((fun _ _ _=>none)) (fun _=>(fun _ _ _=>none)) ((fun _ _ _=>none)) (fun _ _ _ _ _=>(fun _ _ _=>none)) ((fun _ _ _=>none)) (fun _ _ _=>(fun _ _ _=>none)) (fun _ _=>(fun _ _ _=>none)) (fun _ _=>(fun _ _ _=>none)) (fun _=>(fun _ _ _=>none)) PUnit.unit (fun _ _ _ _=>PUnit.unit) c x y h
theorem aFw (c x y : DV) (h : Hp) : aN c x y h =
 match c with
 | .b true=>some (x,h)
 | .b false=>some (y,h)
 | _=>none
  := by cases c <;> (try rfl) <;> (rename_i t; cases t <;> rfl)
def fS (x : DV) (h : Hp) : aH :=
 match x with
 | .s l=>some (.i .i64 (l.length : Int),h)
 | _=>none
def bM (x : DV) (h : Hp) : aH :=
 DV.rec (motive_1:=fun _=>Hp → aH) (motive_2:=fun _=>PUnit) ((fun _=>none)) (fun _=>(fun _=>none)) (fun _ _=>(fun _=>none)) (fun _=>(fun _=>none)) ((fun _=>none)) (fun _ _=>(fun _=>none)) (fun h=>some (.i .i64 0,h)) (fun _ _ n _ h=>some (.i .i64 (n : Int),h)) (fun _ _ n _ h=>some (.i .i64 (n : Int),h)) (fun h=>some (.i .i64 0,h)) ((fun _=>none)) (fun _=>(fun _=>none)) ((fun _=>none)) (fun _ _ _ _ _=>(fun _=>none)) ((fun _=>none)) (fun _ _ _=>(fun _=>none)) (fun _ _=>(fun _=>none)) (fun _ _=>(fun _=>none)) (fun _=>(fun _=>none)) PUnit.unit (fun _ _ _ _=>PUnit.unit) x h
theorem cSr (x : DV) (h : Hp) : bM x h =
 match x with
 | .l _ _ n _=>some (.i .i64 (n : Int),h)
 | .lx _ _ n _=>some (.i .i64 (n : Int),h)
 | .l0=>some (.i .i64 0,h)
 | .le=>some (.i .i64 0,h)
 | _=>none
  := by cases x <;> rfl
def bXy (x y : DV) (h : Hp) : aH :=
 match x,y with
 | .i k a,.i _ b=>some (.i k (if b < a then b else a),h)
 | _,_=>none
def bXc (x y : DV) (h : Hp) : aH :=
 match x,y with
 | .i k a,.i _ b=>some (.i k (if b > a then b else a),h)
 | _,_=>none
def nD (cells : List DV) : List (Nat × Nat × DV) → Option (List DV)
 | []=>some cells
 | (off,size,v) :: rest =>
  match dJ v with
  | some cs=>if cs.length = size ∧ off + size ≤ cells.length then nD (cells.take off ++ cs ++ cells.drop (off + size)) rest else none
  | none=>none
def aY (zero : List DV) (parts : List (Nat × Nat × DV)) (h : Hp) : aH :=
 match nD zero parts with
 | some cs=>some (.a cs,h)
 | none=>none
def aS (zeros : List DV) (n : Nat) (parts : List (Nat × Nat × DV)) (h : Hp) : aH :=
 match nD zeros parts with
 | some cs=>some (.l h.next 0 n n,⟨h.next.succ,Tr.set (.row .ex cs) h.next h.bl⟩)
 | none=>none
def bL (b : Pos) (zeros : List DV) (n : Nat) (parts : List (Nat × Nat × DV)) (h : Hp) : aH :=
 match nD zeros parts with
 | some cs=>some (.l b 0 n n,⟨h.next,Tr.set (.row .ex cs) b h.bl⟩)
 | none=>none
def bR : Nat → List DV → List DV
 | 0,l=>l.map fun _=>.u
 | _ + 1,[]=>[]
 | n + 1,x :: l=>x :: bR n l
def aCd (size : Nat) (x : DV) (h : Hp) : Option (Nat × List DV) :=
 match x with
 | .l0=>some (0,[])
 | .le=>some (0,[])
 | .l b o n _=>match cellsAt b o (n * size) h with
  | some cs=>some (n,cs)
  | none=>none
 | .lx b o n _=>match cellsAt b o (n * size) h with
  | some cs=>some (n,cs)
  | none=>none
 | .s l=>if size = 1 then some (l.length,l.map fun (c : Nat)=>DV.i .u8 (c : Int)) else none
 | _=>none
def eB : Nat:=70368744177664
def aGg (size : Nat) (x y : DV) (h : Hp) : aH :=
 match x with
 | .l b o len _=>match aCd size y h with
  | some (n,new)=>if n ≤ len then (match fQ b o new h with
   | some h'=>some (.i .i64 (n : Int),h')
   | none=>none) else none
  | none=>none
 | _=>none
def oV (x : DV) (h : Hp) : aH :=
 match x with
 | .s l=>some (.l h.next 0 l.length l.length,⟨h.next.succ,Tr.set (.row (.gr 1) (l.map fun (c : Nat)=>DV.i .u8 (c : Int))) h.next h.bl⟩)
 | _=>none
def bXe (op : BinOp) (c : Bool) (x y : DV) (h : Hp) : aH :=
 match op,x,y with
 | .eql,.n0,.n0=>if c then some (.b true,h) else none
 | .neq,.n0,.n0=>if c then some (.b false,h) else none
 | .eql,.c _ _,.n0=>some (.b false,h)
 | .neq,.c _ _,.n0=>some (.b true,h)
 | _,_,_=>none
def bIb : Operand → Bool
 | .const _=>true
 | _=>false
def dAy (P : Program) (t : TypeId) (name : String) : Option FuncId :=
 match P.info? t with
 | some i=>match i.methods.find? (·.name == name) with
  | some m=>match P.underlying t,m.path.toList,m.func with
   | some (.pointer _),[],some (f,true)=>some f
   | _,_,_=>none
  | none=>none
 | none=>none
def bH (size bytes : Nat) (s x : DV) (h : Hp) : aH :=
 match aCd size x h with
 | none=>none
 | some (n,new) =>
  match s with
  | .l0=>if n = 0 then some (.l0,h) else
   if n * bytes ≤ eB then some (.l h.next 0 n n,⟨h.next.succ,Tr.set (.row (.gr size) new) h.next h.bl⟩) else none
  | .le=>if n = 0 then some (.le,h) else none
  | .l b o len cap =>
   if len + n ≤ cap then
    match fQ b (o + len * size) new h with
    | some h'=>some (.l b o (len + n) cap,h')
    | none=>none
   else
    match h.bl.get b,cellsAt b o (len * size) h with
    | some (.row k l),some old =>
     if (len + n) * bytes ≤ eB then
      match k with
      | .ro | .ex=>some (.l h.next 0 (len + n) (len + n),⟨h.next.succ,Tr.set (.row (.gr size) (old ++ new)) h.next h.bl⟩)
      | .gr es=>if es = size ∧ o + cap * size = l.length then
        some (.l h.next 0 (len + n) (len + n),⟨h.next.succ,Tr.set (.row (.gr size) (old ++ new)) h.next (Tr.set (.row .sp (bR o l)) b h.bl)⟩) else none
      | .sp=>none
     else none
    | _,_=>none
  | .lx b o len cap=>if n = 0 then (if len ≤ cap then some (.lx b o len cap,h) else none) else
   if len + n ≤ cap then none else
   match cellsAt b o (len * size) h with
   | some old=>if (len + n) * bytes ≤ eB then some (.l h.next 0 (len + n) (len + n),⟨h.next.succ,Tr.set (.row (.gr size) (old ++ new)) h.next h.bl⟩) else none
   | none=>none
  | _=>none
def lX (size bytes : Nat) (s : DV) (n : Nat) (new : List DV) (h : Hp) : aH :=
 match s with
 | .l0=>if n = 0 then some (.l0,h) else
  if n * bytes ≤ eB then some (.l h.next 0 n n,⟨h.next.succ,Tr.set (.row (.gr size) new) h.next h.bl⟩) else none
 | .le=>if n = 0 then some (.le,h) else none
 | .l b o len cap =>
  if len + n ≤ cap then
   match fQ b (o + len * size) new h with
   | some h'=>some (.l b o (len + n) cap,h')
   | none=>none
  else
   match h.bl.get b,cellsAt b o (len * size) h with
   | some (.row k l),some old =>
    if (len + n) * bytes ≤ eB then
     match k with
     | .ro | .ex=>some (.l h.next 0 (len + n) (len + n),⟨h.next.succ,Tr.set (.row (.gr size) (old ++ new)) h.next h.bl⟩)
     | .gr es=>if es = size ∧ o + cap * size = l.length then
       some (.l h.next 0 (len + n) (len + n),⟨h.next.succ,Tr.set (.row (.gr size) (old ++ new)) h.next (Tr.set (.row .sp (bR o l)) b h.bl)⟩) else none
     | .sp=>none
    else none
   | _,_=>none
 | .lx b o len cap=>if n = 0 then (if len ≤ cap then some (.lx b o len cap,h) else none) else
  if len + n ≤ cap then none else
  match cellsAt b o (len * size) h with
  | some old=>if (len + n) * bytes ≤ eB then some (.l h.next 0 (len + n) (len + n),⟨h.next.succ,Tr.set (.row (.gr size) (old ++ new)) h.next h.bl⟩) else none
  | none=>none
 | _=>none
def jL (size bytes : Nat) (z : List DV) (s x : DV) (h : Hp) : aH :=
 match x with
 | .i _ (.ofNat n)=>if n * bytes ≤ eB ∧ n ≤ 16777216 then lX size bytes s n (List.replicate n z).flatten h else none
 | _=>none
def uO (x : DV) (h : Hp) : aH :=
 match x with
 | .s l=>some (.p h.next 0,⟨h.next.succ,Tr.set (.it l 0) h.next h.bl⟩)
 | _=>none
def aFh (x : DV) (h : Hp) : aH :=
 match x with
 | .p b 0=>match h.bl.get b with
  | some (.it l pos)=>match l[pos]? with
   | some c=>if c < 128 then some (.t [.b true,.i .i64 (pos : Int),.i .i32 (c : Int)],⟨h.next,Tr.set (.it l (pos + 1)) b h.bl⟩) else none
   | none=>some (.t [.b false],h)
  | _=>none
 | _=>none
def vP (d : TypeDesc) (x y : DV) : Option Bool :=
 match d,x,y with
 | .int _,.i k a,.i k' b=>if k = k' then some (a == b) else none
 | .string,.s a,.s b=>some (eqD a b)
 | _,_,_=>none
def iS : TypeDesc → Bool
 | .int _=>true
 | .string=>true
 | _=>false
def uI (P : Program) (t : TypeId) : Bool:=match P.underlying t with
 | some (.int _)=>true
 | some .string=>true
 | _=>false
def uJ (P : Program) : TypeDesc → Bool
 | .struct fs=>fs.toList.all fun f=>uI P f.type
 | _=>false
def bTa (d : TypeDesc) (k : DV) : Bool:=match d with
 | .struct fs=>(match k with
  | .a cs=>fs.toList.all fun f=>Nat.blt f.offset cs.length
  | _=>false)
 | _=>false
def gW (d : TypeDesc) (k : DV) : List (DV × DV) → Option (Option DV)
 | []=>some none
 | e :: es=>match vP d k e.1 with
  | some true=>some (some e.2)
  | some false=>gW d k es
  | none=>none
def aSl (d : TypeDesc) (k : DV) : List (DV × DV) → Nat → Option (Option (Nat × DV))
 | [],_=>some none
 | e :: es,i=>match vP d k e.1 with
  | some true=>some (some (i,e.2))
  | some false=>aSl d k es (i + 1)
  | none=>none
def tL (d : TypeDesc) (k v : DV) : List (DV × DV) → List (DV × DV)
 | []=>[(k,v)]
 | e :: es=>match vP d k e.1 with
  | some true=>(k,v) :: es
  | _=>e :: tL d k v es
def eE (h : Hp) : aH:=some (.m h.next,⟨h.next.succ,Tr.set (.mp []) h.next h.bl⟩)
def kO (b : Pos) (h : Hp) : aH:=some (.m b,⟨h.next,Tr.set (.mp []) b h.bl⟩)
def kL (x : DV) (h : Hp) : Option (List (DV × DV)) :=
 match x with
 | .m0=>some []
 | .m b=>match h.bl.get b with
  | some (.mp es)=>some es
  | _=>none
 | _=>none
def dV (d : TypeDesc) (z : DV) (ok : Bool) (x k : DV) (h : Hp) : aH :=
 match kL x h with
 | some es=>match gW d k es with
  | some (some v)=>some (bif ok then .t [v,.b true] else v,h)
  | some none=>some (bif ok then .t [z,.b false] else z,h)
  | none=>none
 | none=>none
def fW (d : TypeDesc) (x k v : DV) (h : Hp) : aH :=
 match x with
 | .m b=>match h.bl.get b with
  | some (.mp es)=>match gW d k es with
   | some _=>some (aT,⟨h.next,Tr.set (.mp (tL d k v es)) b h.bl⟩)
   | none=>none
  | _=>none
 | _=>none
def cI (size bytes : Nat) (z : List DV) (n c : DV) (h : Hp) : aH :=
 match n,c with
 | .i .i64 n,.i .i64 c=>if 0 ≤ n ∧ n ≤ c ∧ c.toNat * bytes ≤ 2 ^ 30 ∧ c.toNat * size ≤ 2 ^ 24 ∧ c < 2 ^ 32 then
   some (.l h.next 0 n.toNat c.toNat,⟨h.next.succ,Tr.set (.row .ex (List.replicate c.toNat z).flatten) h.next h.bl⟩) else none
 | _,_=>none
def kY (z : List DV) (x : DV) (h : Hp) : aH :=
 match x with
 | .l0=>some (.t [],h)
 | .le=>some (.t [],h)
 | .l b o n _=>if n = 0 then some (.t [],h) else match fQ b o (List.replicate n z).flatten h with
  | some h'=>some (.t [],h')
  | none=>none
 | _=>none
def jE (d : TypeDesc) (z : DV) (x k : DV) (h : Hp) : aH :=
 match x with
 | .m b=>match h.bl.get b with
  | some (.mp es)=>match aSl d k es 0 with
   | some (some (j,v))=>some (.t [v,.i .i64 (j : Int)],⟨h.next,Tr.set (.mp (es.set j (k,v))) b h.bl⟩)
   | some none=>some (.t [z,.i .i64 (es.length : Int)],⟨h.next,Tr.set (.mp (es ++ [(k,z)])) b h.bl⟩)
   | none=>none
  | _=>none
 | _=>none
def gH (x s v : DV) (h : Hp) : aH :=
 match x,s with
 | .m b,.i .i64 (.ofNat j)=>match h.bl.get b with
  | some (.mp es)=>match es[j]? with
   | some e=>some (aT,⟨h.next,Tr.set (.mp (es.set j (e.1,v))) b h.bl⟩)
   | none=>none
  | _=>none
 | _,_=>none
def kA (d : TypeDesc) : Bool :=
 match d with
 | .struct _ | .array _ _=>true
 | _=>false
def opr (env : aZ) : Operand → DV
 | .tmp t=>env t
 | .const v=>zvD v
 | .global _=>.u
 | .func f=>.f f [] []
structure Cfg where
 P : Program
 I : FuncId → Option (List DV → Hp → aH)
section
variable (C : Cfg) (rec : FuncId → List DV → Hp → aH)
def cA (g : FuncId) (args : List DV) (h : Hp) : aH :=
 match C.I g with
 | some F=>F args h
 | none=>rec g args h
def iA (f : DV) (args : List DV) (h : Hp) : aH :=
 match f with
 | .f g first cap=>cA C rec g (first ++ args ++ cap) h
 | _=>none
def tN (l : List DV) (h : Hp) : aH :=
 match l with
 | [x,y]=>bXy x y h
 | _=>none
def tY (l : List DV) (h : Hp) : aH :=
 match l with
 | [x,y]=>bXc x y h
 | _=>none
def kN (b : Builtin) (ts : List TypeId) (args : List DV) (h : Hp) : aH :=
 match b with
 | .len=>match ts,args with
  | [t],[x]=>match C.P.underlying t with
   | some .string=>fS x h
   | some (.slice _)=>bM x h
   | _=>none
  | _,_=>none
 | .min=>tN args h
 | .max=>tY args h
 | .clear=>match ts,args with
  | [t],[x]=>match C.P.underlying t with
   | some (.slice e)=>match C.P.info? e with
    | some i=>match i.zero with
     | some z=>if 0 < z.cells.size then kY (pD z) x h else none
     | none=>none
    | none=>none
   | _=>none
  | _,_=>none
 | .append=>match ts,args with
  | [t,u],[s,x]=>match C.P.underlying t,C.P.underlying u with
   | some (.slice e),some (.slice _) | some (.slice e),some .string=>match C.P.info? e with
    | some i=>match i.zero with
     | some z=>if 0 < i.size ∧ 0 < i.bytes ∧ z.cells.size = i.size then bH i.size i.bytes s x h else none
     | none=>none
    | none=>none
   | some (.slice e),some (.int _)=>match C.P.info? e with
    | some i=>match i.zero with
     | some z=>if (0 < i.size ∧ 0 < i.bytes ∧ z.cells.size = i.size) ∧ (pD z).all DV.one = true then jL i.size i.bytes (pD z) s x h else none
     | none=>none
    | none=>none
   | _,_=>none
  | _,_=>none
 | .copy=>match ts,args with
  | [t,_],[x,y]=>match C.P.underlying t with
   | some (.slice e)=>match C.P.info? e with
    | some i=>if 0 < i.size then aGg i.size x y h else none
    | none=>none
   | _=>none
  | _,_=>none
 | _=>none
def eBs (r : DV) (name : String) (args : List DV) (h : Hp) : aH :=
 match r with
 | .c t v=>match dAy C.P t name with
  | some f=>iA C rec (.f f [] []) (v :: args) h
  | none=>none
 | _=>none
def jY (o : Oper) (env : aZ) (h : Hp) : aH :=
 match o.op with
 | .move x=>some (opr env x,h)
 | .assign x=>some (opr env x,h)
 | .pick c a b=>aN (opr env c) (opr env a) (opr env b) h
 | .alloc t=>match C.P.info? t with
  | some i=>match i.zero with
   | some z=>bQ (pD z) h
   | none=>none
  | none=>none
 | .box _ x=>bZ (opr env x) h
 | .build t ps=>match C.P.underlying t,C.P.info? t with
  | some (.struct fs),some i=>match i.zero,fs.toList.mapM (fun f=>(C.P.info? f.type).map fun fi=>(f.offset,fi.size)) with
   | some z,some pl=>match ps.toList.mapM (fun (q : Nat × Operand)=>(pl[q.1]?).map fun s=>(s.1,s.2,opr env q.2)) with
    | some l=>aY (pD z) l h
    | none=>none
   | _,_=>none
  | some (.array _ e),some i=>match i.zero,ps.toList,C.P.info? e with
   | some z,[],some _=>aY (pD z) [] h
   | _,_,_=>none
  | _,_=>none
 | .buildSlice t n ps=>match C.P.underlying t with
  | some (.slice e)=>match C.P.info? e with
   | some i=>match i.zero with
    | some z=>if n * i.size ≤ 2 ^ 24 ∧ 0 < i.size ∧ z.cells.size = i.size then
      aS ((List.replicate n (pD z)).flatten) n (ps.toList.map fun (q : Nat × Operand)=>(q.1 * i.size,i.size,opr env q.2)) h else none
    | none=>none
   | none=>none
  | _=>none
 | .load t a=>match C.P.underlying t,C.P.info? t with
  | some d,some i=>bif kA d then aK i.size (opr env a) h else aA (opr env a) h
  | _,_=>none
 | .store t a x=>match C.P.info? t with
  | some i=>aJ i.size (opr env a) (opr env x) h
  | none=>none
 | .nilCheck x=>aV (opr env x) h
 | .binOp op t x y _=>match C.P.underlying t with
  | some (.struct fs)=>dLs (aTy C.P t fs) (aFe C.P t fs) op (opr env x) (opr env y) h
  | some (.interface _)=>bXe op (bIb y) (opr env x) (opr env y) h
  | some d=>cLh op d (opr env x) (opr env y) h
  | none=>none
 | .unOp op _ x=>eQ op (opr env x) h
 | .convert src dst x=>match C.P.underlying src,C.P.underlying dst with
  | some _,some (.int k)=>cV k (opr env x) h
  | some .string,some .string=>aKl (opr env x) h
  | some (.slice e),some .string=>match C.P.underlying e with
   | some (.int .u8)=>nG (opr env x) h
   | _=>none
  | some .string,some (.slice e)=>match C.P.underlying e with
   | some (.int .u8)=>oV (opr env x) h
   | _=>none
  | _,_=>none
 | .makeInterface t x=>match C.P.underlying t with
  | some (.interface _)=>none
  | some _=>some (.c t (opr env x),h)
  | none=>none
 | .makeFunc fn first captured=>match fn with
  | .func g=>some (.f g (first.toList.map (opr env)) (captured.toList.map (opr env)),h)
  | _=>none
 | .slice t x lo hi mx=>match C.P.underlying t,mx with
  | some .string,none=>iF (opr env x) (lo.map (opr env)) (hi.map (opr env)) h
  | some (.slice e),none=>match C.P.info? e with
   | some i=>eL i.size (opr env x) (lo.map (opr env)) (hi.map (opr env)) h
   | none=>none
  | some (.slice e),some m=>match C.P.info? e,hi with
   | some _,some hv=>oS (opr env x) (lo.map (opr env)) (opr env hv) (opr env m) h
   | _,_=>none
  | _,_=>none
 | .fieldAddr t x f=>match C.P.underlying t with
  | some (.struct fs)=>match fs[f]? with
   | some fl=>match C.P.info? fl.type with
    | some i=>if i.size = 0 then none else aB fl.offset (opr env x) h
    | none=>none
   | none=>none
  | _=>none
 | .field t x f=>match C.P.underlying t with
  | some (.struct fs)=>match fs[f]? with
   | some fl=>match C.P.underlying fl.type,C.P.info? fl.type with
    | some d,some i=>bif kA d then aJo fl.offset i.size (opr env x) h else gN fl.offset (opr env x) h
    | _,_=>none
   | none=>none
  | _=>none
 | .indexAddr t x ix=>match C.P.underlying t with
  | some (.slice e)=>match C.P.info? e with
   | some i=>aG i.size (opr env x) (opr env ix) h
   | none=>none
  | some (.array n e)=>match C.P.info? e with
   | some i=>mE n i.size (opr env x) (opr env ix) h
   | none=>none
  | _=>none
 | .index t x ix=>match C.P.underlying t with
  | some .string=>cT (opr env x) (opr env ix) h
  | _=>none
 | .makeMap _ none=>eE h
 | .lookup t x k ok=>match C.P.underlying t with
  | some (.map kt et)=>match C.P.underlying kt,C.P.info? et with
   | some d,some i=>match i.zero with
    | some z=>bif iS d then dV d (zvD z) ok (opr env x) (opr env k) h else (bif uJ C.P d && bTa d (opr env k) then dV d (zvD z) ok (opr env x) (opr env k) h else none)
    | none=>none
   | _,_=>none
  | _=>none
 | .mapUpdate t m k x=>match C.P.underlying t with
  | some (.map kt _)=>match C.P.underlying kt with
   | some d=>bif iS d then fW d (opr env m) (opr env k) (opr env x) h else none
   | none=>none
  | _=>none
 | .insert t m k x=>match C.P.underlying t with
  | some (.map kt _)=>match C.P.underlying kt with
   | some d=>bif iS d then fW d (opr env m) (opr env k) (opr env x) h else none
   | none=>none
  | _=>none
 | .mapEntry t m k=>match C.P.underlying t with
  | some (.map kt et)=>match C.P.underlying kt,C.P.info? et with
   | some d,some i=>match i.zero with
    | some z=>bif iS d then jE d (zvD z) (opr env m) (opr env k) h else none
    | none=>none
   | _,_=>none
  | _=>none
 | .entryStore _ m s x=>gH (opr env m) (opr env s) (opr env x) h
 | .makeSlice t n c=>match C.P.underlying t with
  | some (.slice e)=>match C.P.info? e with
   | some i=>match i.zero with
    | some z=>if 0 < i.size ∧ z.cells.size = i.size then cI i.size i.bytes (pD z) (opr env n) (opr env c) h else none
    | none=>none
   | none=>none
  | _=>none
 | .extract x i=>aF i (opr env x) h
 | .range t x=>match C.P.underlying t with
  | some .string=>uO (opr env x) h
  | _=>none
 | .next x str=>if str then aFh (opr env x) h else none
 | .call c=>match c.callee with
  | .builtin b=>kN C b c.argTypes.toList (c.args.toList.map (opr env)) h
  | .value f=>iA C rec (opr env f) (c.args.toList.map (opr env)) h
  | .invoke r m=>eBs C rec (opr env r) m (c.args.toList.map (opr env)) h
 | _=>none
def bJ (env : aZ) (d : Option Tmp) (v : DV) : aZ :=
 match d with
 | some t=>fun j=>bif Nat.beq j t then v else env j
 | none=>env
def cX (nt : Nat) : Option Tmp → Bool
 | some t=>Nat.blt t nt
 | none=>true
def bnd (r : aH) (k : DV → Hp → aH) : aH :=
 Option.rec (motive:=fun _=>aH) none (fun p=>Prod.rec (motive:=fun _=>aH) (fun v h=>k v h) p) r
theorem bLe (r : aH) (k : DV → Hp → aH) : bnd r k =
 match r with
 | some (v,h)=>k v h
 | none=>none:=by
 cases r with
 | none=>rfl
 | some p=>rfl
def aR (c : DV) (a b : aH) : aH :=
 DV.rec (motive_1:=fun _=>aH → aH → aH) (motive_2:=fun _=>PUnit) ((fun _ _=>none)) (fun t a b=>Bool.rec (motive:=fun _=>aH) b a t) (fun _ _=>(fun _ _=>none)) (fun _=>(fun _ _=>none)) ((fun _ _=>none)) (fun _ _=>(fun _ _=>none)) ((fun _ _=>none)) (fun _ _ _ _=>(fun _ _=>none)) (fun _ _ _ _=>(fun _ _=>none)) ((fun _ _=>none)) ((fun _ _=>none)) (fun _=>(fun _ _=>none)) ((fun _ _=>none)) (fun _ _ _ _ _=>(fun _ _=>none)) ((fun _ _=>none)) (fun _ _ _=>(fun _ _=>none)) (fun _ _=>(fun _ _=>none)) (fun _ _=>(fun _ _=>none)) (fun _=>(fun _ _=>none)) PUnit.unit (fun _ _ _ _=>PUnit.unit) c a b
theorem oL (c : DV) (a b : aH) : aR c a b =
 match c with
 | .b true=>a
 | .b false=>b
 | _=>none
  := by cases c <;> (try rfl) <;> (rename_i t; cases t <;> rfl)
def gD (g : DV) (want : Bool) (r : aH) (h : Hp) : aH :=
 DV.rec (motive_1:=fun _=>Bool → aH → Hp → aH) (motive_2:=fun _=>PUnit) ((fun _ _ _=>none)) (fun x want r h=>Bool.rec (motive:=fun _=>aH) (Bool.rec (motive:=fun _=>aH) r (some (aT,h)) want) (Bool.rec (motive:=fun _=>aH) (some (aT,h)) r want) x) (fun _ _=>(fun _ _ _=>none)) (fun _=>(fun _ _ _=>none)) ((fun _ _ _=>none)) (fun _ _=>(fun _ _ _=>none)) ((fun _ _ _=>none)) (fun _ _ _ _=>(fun _ _ _=>none)) (fun _ _ _ _=>(fun _ _ _=>none)) ((fun _ _ _=>none)) ((fun _ _ _=>none)) (fun _=>(fun _ _ _=>none)) ((fun _ _ _=>none)) (fun _ _ _ _ _=>(fun _ _ _=>none)) ((fun _ _ _=>none)) (fun _ _ _=>(fun _ _ _=>none)) (fun _ _=>(fun _ _ _=>none)) (fun vs _ _ _ h=>List.rec (motive:=fun _=>aH) (some (aT,h)) (fun _ _ _=>none) vs) (fun _=>(fun _ _ _=>none)) PUnit.unit (fun _ _ _ _=>PUnit.unit) g want r h
theorem qQ (g : DV) (want : Bool) (r : aH) (h : Hp) : gD g want r h =
 match g with
 | .b x=>if x == want then r else some (aT,h)
 | .t []=>some (aT,h)
 | _=>none
  := by
 cases g <;> (try rfl)
 ·rename_i t; cases t <;> cases want <;> rfl
 ·rename_i vs; cases vs <;> rfl
def bHs (all : Array Oper) (j : Nat) (env : aZ) : DV :=
 match (all[j]?).bind (·.dst) with
 | some d=>env d
 | none=>aT
def bA (all : Array Oper) (o : Oper) (env : aZ) (h : Hp) : aH :=
 match o.guard with
 | none=>jY C rec o env h
 | some (j,want)=>gD (bHs all j env) want (jY C rec o env h) h
@[reducible] def cnd (b : Bool) (x : aH) : aH:=Bool.rec (motive:=fun _=>aH) none x b
def fY (nt : Nat) (all : Array Oper) (l : List Oper) (k : K) : K :=
 List.rec (motive:=fun _=>K) k (fun o _ ih=>fun env h =>
  cnd (cX nt o.dst) (bnd (bA C rec all o env h) fun v h'=>ih (bJ env o.dst v) h')) l
mutual
def DV.beq : DV → DV → Bool
 | .b x,.b y=>x == y
 | .i q x,.i q' y=>q == q' && x == y
 | .s x,.s y=>eqD x y
 | .p0,.p0=>true
 | .p x y,.p x' y'=>x == x' && y == y'
 | .l0,.l0=>true
 | .le,.le=>true
 | .l x y z w,.l x' y' z' w'=>x == x' && y == y' && z == z' && w == w'
 | .lx x y z w,.lx x' y' z' w'=>x == x' && y == y' && z == z' && w == w'
 | .m0,.m0=>true
 | .m x,.m x'=>x == x'
 | .f0,.f0=>true
 | .f z x y,.f z' x' y'=>z == z' && fBm x x' && fBm y y'
 | .n0,.n0=>true
 | .c x y,.c x' y'=>x == x' && DV.beq y y'
 | .a x,.a y=>fBm x y
 | .t x,.t y=>fBm x y
 | _,_=>false
def fBm : List DV → List DV → Bool
 | [],[]=>true
 | x :: xs,y :: ys=>DV.beq x y && fBm xs ys
 | _,_=>false
end
def aX (r : aH) (v : DV) : Bool :=
 match r with
 | some (x,_)=>DV.beq x v
 | none=>false
inductive Cls where
 | pure
 | reads
 | makes
 | acts
 deriving DecidableEq
def bU (P : Program) : Op → Cls
 | .move _ | .assign _ | .pick _ _ _ | .nilCheck _ | .binOp .. | .unOp .. | .fieldAddr .. | .field .. | .index .. | .indexAddr .. | .extract .. | .makeFunc .. | .build .. => .pure
 | .convert src dst _=>match P.underlying src with
  | some (.slice _)=>.reads
  | _=>match P.underlying dst with
   | some (.slice _)=>.acts
   | _=>.pure
 | .slice t _ _ _ mx=>match P.underlying t with
  | some .string=>.pure
  | _=>match mx with
   | none=>.reads
   | some _=>.acts
 | .load .. => .reads
 | .lookup .. => .reads
 | .alloc _=>.makes
 | .box .. => .makes
 | .buildSlice .. => .makes
 | .makeMap _ none=>.makes
 | .call { callee:=.builtin .len,.. }=>.pure
 | .call { callee:=.builtin .min,.. }=>.pure
 | .call { callee:=.builtin .max,.. }=>.pure
 | _=>.acts
def dW (o : Oper) (b : Pos) (env : aZ) (h : Hp) : aH :=
 match o.op with
 | .alloc t=>match C.P.info? t with
  | some i=>match i.zero with
   | some z=>nA b (pD z) h
   | none=>none
  | none=>none
 | .box _ x=>aBp b (opr env x) h
 | .buildSlice t n ps=>match C.P.underlying t with
  | some (.slice e)=>match C.P.info? e with
   | some i=>match i.zero with
    | some z=>if n * i.size ≤ 2 ^ 24 ∧ 0 < i.size ∧ z.cells.size = i.size then
      bL b ((List.replicate n (pD z)).flatten) n (ps.toList.map fun (q : Nat × Operand)=>(q.1 * i.size,i.size,opr env q.2)) h else none
    | none=>none
   | none=>none
  | _=>none
 | .makeMap _ none=>kO b h
 | _=>none
def bX : Nat → Pos → Pos
 | 0,p=>p
 | n + 1,p=>bX n p.succ
def resv (k : Nat) (h : Hp) : Hp :=
 match k with
 | 0=>h
 | k + 1=>⟨bX (k + 1) h.next,h.bl⟩
def cF (P : Program) (l : List Oper) : Nat :=
 match l with
 | []=>0
 | o :: l=>(match bU P o.op with
  | .makes=>1
  | _=>0) + cF P l
def hC (m : Array Nat) (i j : Nat) : Bool:=(m.getD j 0).testBit i
def eV (P : Program) (ops : Array Oper) : Bool :=
 let m:=Region.before ops
 (List.range ops.size).all fun j =>
  (match ops[j]? with
   | some y=>(y.after.all fun e => !Region.binds .any e || Nat.blt e.on j) &&
    (match y.guard with
     | some (g,_)=>hC m g j && !(bU P y.op == .makes)
     | none=>true) &&
    (List.range j).all fun i =>
     match ops[i]? with
     | some x=>hC m i j || (Oper.apart ops x y && !((bU P x.op == .acts || bU P x.op == .makes) && bU P y.op == .acts))
     | none=>false
   | none=>false)
structure Seen where
 at_ : Nat
 look : Hp → aH
 v : DV
def eP (m : Array Nat) (i : Nat) (v : DV) (look : Hp → aH) : Bool → List (Option Nat × Hp) → Bool
 | _,[]=>true
 | dirty,(j,hj) :: rest =>
  (bif dirty then aX (look hj) v else true) && (match j with
   | none=>true
   | some j=>bif hC m j i then true else eP m i v look true rest)
def eO (nt : Nat) (all : Array Oper) (m : Array Nat) (p0 : Pos) (l : List Oper) (k : K) : Nat → Nat → Bool → List Seen → List (Option Nat × Hp) → K :=
 List.rec (motive:=fun _=>Nat → Nat → Bool → List Seen → List (Option Nat × Hp) → K) (fun _ _ _ _ _=>k) (fun o _ ih=>fun i c dirty rd hs env h =>
  cnd (cX nt o.dst) (
   match bU C.P o.op with
   | .pure=>bnd (bA C rec all o env h) fun v h'=>ih (i + 1) c dirty rd hs (bJ env o.dst v) h'
   | .reads=>bnd (bA C rec all o env h) fun v h' =>
     cnd (eP m i v (bA C rec all o env) dirty hs) (ih (i + 1) c dirty (⟨i,bA C rec all o env,v⟩ :: rd) hs (bJ env o.dst v) h')
   | .makes=>bnd (dW C o (bX c p0) env h) fun v h'=>ih (i + 1) (c + 1) true rd hs (bJ env o.dst v) h'
   | .acts=>bnd (bA C rec all o env h) fun v h' =>
     cnd (rd.all (fun q=>hC m q.at_ i || aX (q.look h') q.v)) (ih (i + 1) c false rd ((some i,h') :: hs) (bJ env o.dst v) h'))) l
def iR (nt : Nat) (ops : Array Oper) (k : K) : K:=fun env h =>
 eO C rec nt ops (Region.before ops) h.next ops.toList k 0 0 false [] [(none,resv (cF C.P ops.toList) h)] env (resv (cF C.P ops.toList) h)
def bY : K:=fun _ _=>none
def aM (body : K → K) (n : Nat) : K :=
 Nat.rec (motive:=fun _=>K) bY (fun _ ih=>body ih) n
def aW (nt n : Nat) (c : Code) : (Nat → K) → K → K → K :=
 Code.rec (motive:=fun _=>(Nat → K) → K → K → K)
  (fun _ _ k=>k)
  (fun _ ops dr _ _ k=>Bool.rec (motive:=fun _=>K) (fY C rec nt ops ops.toList k) (Bool.rec (motive:=fun _=>K) bY (iR C rec nt ops k) (eV C.P ops)) dr)
  (fun _ _ iha ihb X kr k=>iha X kr (ihb X kr k))
  (fun c _ _ iha ihb X kr k=>fun env h=>aR (opr env c) (iha X kr k env h) (ihb X kr k env h))
  (fun id _ ih X kr k=>ih (fun j=>bif Nat.beq j id then k else X j) kr k)
  (fun _ ih X kr _=>aM (fun kk=>ih X kr kk) n)
  (fun _ _ _ _ _ _ _ _ _=>bY)
  (fun id X _ _=>X id)
  (fun _ ih X kr k=>ih X kr k)
  (fun _ _ _ k=>k)
  (fun _ _ _ _=>bY)
  (fun _ kr _=>kr)
  (fun _ _ _ _=>bY) c
def aFg (t : TypeId) (x : DV) (h : Hp) (k : DV → aH) : aH :=
 match C.P.underlying t,C.P.info? t with
 | some d,some i=>bnd (bif kA d then aK i.size x h else aA x h) fun v _=>k v
 | _,_=>none
def bFg (env : aZ) (h : Hp) (l : List ResultVar) : (List DV → aH) → aH :=
 List.rec (motive:=fun _=>(List DV → aH) → aH) (fun k=>k []) (fun r _ ih k=>match r with
  | .tmp t=>ih fun vs=>k (env t :: vs)
  | .cell a t=>aFg C t (env a) h fun v=>ih fun vs=>k (v :: vs)) l
def cVx (h : Hp) (vs : List DV) : aH :=
 match vs with
 | [v]=>some (v,h)
 | vs=>some (.t vs,h)
def bE (fn : Func) : K:=fun env h=>bFg C env h fn.results.toList (cVx h)
def aQ (args : List DV) : aZ:=fun t=>args.getD t aT
def aI (n : Nat) (f : FuncId) (args : List DV) (h : Hp) : aH :=
 match C.P.funcs[f]? with
 | some fn=>match fn.body with
  | some c=>aW C rec fn.ntmps n c (fun _=>bY) (bE C fn) (bE C fn) (aQ args) h
  | none=>none
 | none=>none
end
def fnD (C : Cfg) (n : Nat) : FuncId → List DV → Hp → aH :=
 Nat.rec (motive:=fun _=>FuncId → List DV → Hp → aH) (fun _ _ _=>none) (fun m ih=>aI C ih m) n
end
end Go.Dd

namespace Go.Dd
theorem fCb : ∀ p : Pos,0 < p.toNat
 | .h=>by simp [Pos.toNat]
 | .o p=>by have:=fCb p; simp [Pos.toNat]; omega
 | .i p=>by simp [Pos.toNat]
theorem fBa : ∀ p : Pos,p.succ.toNat = p.toNat + 1
 | .h=>rfl
 | .o p=>rfl
 | .i p=>by have:=fBa p; simp [fCi,fCj,fCk,Pos.toNat,this]; omega
theorem fAx {α : Type} (x : α) : ∀ (p : Pos) (t : Tr α),(Tr.set x p t).get p = some x
 | .h,.e=>rfl
 | .h,.n _ _ _=>rfl
 | .o p,.e=>by simp [fBf,fBn,fBo,fBp,fBg,fBh,fBi,fBj,fBk,fBl,fAx x p]
 | .o p,.n l _ _=>by simp [fBf,fBn,fBo,fBp,fBg,fBh,fBi,fBj,fBk,fBl,fAx x p]
 | .i p,.e=>by simp [fBf,fBn,fBo,fBp,fBg,fBh,fBi,fBj,fBk,fBl,fAx x p]
 | .i p,.n _ _ r=>by simp [fBf,fBn,fBo,fBp,fBg,fBh,fBi,fBj,fBk,fBl,fAx x p]
theorem Tr.get_e {α : Type} (q : Pos) : (Tr.e : Tr α).get q = none:=by cases q <;> rfl
theorem fAw {α : Type} (x : α) : ∀ (p q : Pos) (t : Tr α),q ≠ p → (Tr.set x p t).get q = t.get q
 | .h,.h,_,hn=>absurd rfl hn
 | .h,.o q,.e,_=>by simp [fBf,fBn,fBo,fBp,fBg,fBh,fBi,fBj,fBk,fBl,Tr.get_e]
 | .h,.i q,.e,_=>by simp [fBf,fBn,fBo,fBp,fBg,fBh,fBi,fBj,fBk,fBl,Tr.get_e]
 | .h,.o q,.n _ _ _,_=>rfl
 | .h,.i q,.n _ _ _,_=>rfl
 | .o p,.h,.e,_=>rfl
 | .o p,.o q,.e,hn=>by simp only [fBf,fBn,fBo,fBp,fBg,fBh,fBi,fBj,fBk,fBl]; rw [fAw x p q _ (fun e=>hn (by rw [e]))]; simp [Tr.get_e]
 | .o p,.i q,.e,_=>by simp [fBf,fBn,fBo,fBp,fBg,fBh,fBi,fBj,fBk,fBl,Tr.get_e]
 | .o p,.h,.n _ _ _,_=>rfl
 | .o p,.o q,.n l _ _,hn=>by simp only [fBf,fBn,fBo,fBp,fBg,fBh,fBi,fBj,fBk,fBl]; exact fAw x p q l (fun e=>hn (by rw [e]))
 | .o p,.i q,.n _ _ _,_=>rfl
 | .i p,.h,.e,_=>rfl
 | .i p,.i q,.e,hn=>by simp only [fBf,fBn,fBo,fBp,fBg,fBh,fBi,fBj,fBk,fBl]; rw [fAw x p q _ (fun e=>hn (by rw [e]))]; simp [Tr.get_e]
 | .i p,.o q,.e,_=>by simp [fBf,fBn,fBo,fBp,fBg,fBh,fBi,fBj,fBk,fBl,Tr.get_e]
 | .i p,.h,.n _ _ _,_=>rfl
 | .i p,.i q,.n _ _ r,hn=>by simp only [fBf,fBn,fBo,fBp,fBg,fBh,fBi,fBj,fBk,fBl]; exact fAw x p q r (fun e=>hn (by rw [e]))
 | .i p,.o q,.n _ _ _,_=>rfl
theorem Tr.get_set {α : Type} (x : α) (p q : Pos) (t : Tr α) : (Tr.set x p t).get q = if q = p then some x else t.get q:=by
 split
 ·rename_i h; subst h; exact fAx x _ t
 ·rename_i h; exact fAw x p q t h
structure Loc where
 bl : Nat
 of : Nat
 sp : Nat
 spot : Option Nat
abbrev Ren:=Pos → Option Loc
def Ext (ρ ρ' : Ren) : Prop:=∀ b L, ρ b = some L → ρ' b = some L
theorem Ext.refl (ρ : Ren) : Ext ρ ρ:=fun _ _ h=>h
theorem Ext.trans {a b c : Ren} (h : Ext a b) (k : Ext b c) : Ext a c:=fun x L hx=>k x L (h x L hx)
def eX (L : Loc) (i : Nat) : Addr:=⟨L.bl,L.of + i,if i = 0 then L.spot else none⟩
theorem kB {L : Loc} {i j : Nat} (h : eX L i = eX L j) : i = j:=by
 simp [eX] at h; exact h.1
mutual
inductive VR (ρ : Ren) : DV → Value → Prop
 | u (v : Value) : VR ρ .u v
 | b (x : Bool) : VR ρ (.b x) (.bool x)
 | i (k : IntKind) (n : Int) : VR ρ (.i k n) (.int k n)
 | s (l : List Nat) (bs : ByteArray) (h : bs.data.toList.map (·.toNat) = l) : VR ρ (.s l) (.string bs)
 | p0 : VR ρ .p0 (.pointer none)
 | p (b : Pos) (o : Nat) (L : Loc) (h : ρ b = some L) : VR ρ (.p b o) (.pointer (some (eX L o)))
 | l0 : VR ρ .l0 (.slice none 0 0)
 | le (a : Addr) (c : Nat) : VR ρ .le (.slice (some a) 0 c)
 | l (b : Pos) (o len cap : Nat) (L : Loc) (h : ρ b = some L) : VR ρ (.l b o len cap) (.slice (some (eX L o)) len (cap + L.sp))
 | lx (b : Pos) (o len cap : Nat) (L : Loc) (h : ρ b = some L) : VR ρ (.lx b o len cap) (.slice (some (eX L o)) len cap)
 | m0 : VR ρ .m0 (.map none)
 | m (b : Pos) (L : Loc) (h : ρ b = some L) : VR ρ (.m b) (.map (some L.bl))
 | f0 : VR ρ .f0 .nilFunc
 | f (g : FuncId) (x y : List DV) (x' y' : Array Value) (hx : VRs ρ x x'.toList) (hy : VRs ρ y y'.toList) : VR ρ (.f g x y) (.func (.func g) x' y')
 | n0 : VR ρ .n0 .nilIface
 | c (t : TypeId) (v : DV) (v' : Value) (h : VR ρ v v') : VR ρ (.c t v) (.iface t v')
 | a (x : List DV) (x' : Array Value) (h : VRs ρ x x'.toList) : VR ρ (.a x) (.agg x')
 | t (x : List DV) (x' : Array Value) (h : VRs ρ x x'.toList) : VR ρ (.t x) (.tuple x')
 | yl (b : Pos) (L : Loc) (h : ρ b = some L) : VR ρ (.yl b) (.func (.yield L.bl) #[] #[])
inductive VRs (ρ : Ren) : List DV → List Value → Prop
 | nil : VRs ρ [] []
 | cons (x : DV) (x' : Value) (l : List DV) (l' : List Value) (h : VR ρ x x') (hs : VRs ρ l l') : VRs ρ (x :: l) (x' :: l')
end
mutual
theorem VR.mono {ρ ρ' : Ren} (e : Ext ρ ρ') : ∀ {x : DV} {x' : Value},VR ρ x x' → VR ρ' x x'
 | _,_,.u v=>.u v
 | _,_,.b x=>.b x
 | _,_,.i k n=>.i k n
 | _,_,.s l bs h=>.s l bs h
 | _,_,.p0=>.p0
 | _,_,.p b o L h=>.p b o L (e _ _ h)
 | _,_,.l0=>.l0
 | _,_,.le a c=>.le a c
 | _,_,.l b o n c L h=>.l b o n c L (e _ _ h)
 | _,_,.lx b o n c L h=>.lx b o n c L (e _ _ h)
 | _,_,.m0=>.m0
 | _,_,.m b L h=>.m b L (e _ _ h)
 | _,_,.f0=>.f0
 | _,_,.f g x y x' y' hx hy=>.f g x y x' y' (VRs.mono e hx) (VRs.mono e hy)
 | _,_,.n0=>.n0
 | _,_,.c t v v' h=>.c t v v' (VR.mono e h)
 | _,_,.a x x' h=>.a x x' (VRs.mono e h)
 | _,_,.t x x' h=>.t x x' (VRs.mono e h)
 | _,_,.yl b L h=>.yl b L (e _ _ h)
theorem VRs.mono {ρ ρ' : Ren} (e : Ext ρ ρ') : ∀ {x : List DV} {x' : List Value},VRs ρ x x' → VRs ρ' x x'
 | _,_,.nil=>.nil
 | _,_,.cons x x' l l' h hs=>.cons x x' l l' (VR.mono e h) (VRs.mono e hs)
end
theorem VRs.length {ρ : Ren} : ∀ {x : List DV} {x' : List Value},VRs ρ x x' → x.length = x'.length
 | _,_,.nil=>rfl
 | _,_,.cons _ _ _ _ _ hs=>by simp [VRs.length hs]
theorem VRs.get {ρ : Ren} : ∀ {x : List DV} {x' : List Value},VRs ρ x x' → ∀ (i : Nat) (v : DV),x[i]? = some v → ∃ v',x'[i]? = some v' ∧ VR ρ v v'
 | _,_,.nil,i,v,h=>by simp at h
 | _,_,.cons x x' l l' h hs,0,v,hi=>by simp at hi; subst hi; exact ⟨x',by simp,h⟩
 | _,_,.cons x x' l l' h hs,i + 1,v,hi=>by simp at hi; simpa using VRs.get hs i v hi
theorem VRs.of_get {ρ : Ren} : ∀ {x : List DV} {x' : List Value},x.length = x'.length → (∀ (i : Nat) v v',x[i]? = some v → x'[i]? = some v' → VR ρ v v') → VRs ρ x x'
 | [],[],_,_=>.nil
 | [],_ :: _,h,_=>by simp at h
 | _ :: _,[],h,_=>by simp at h
 | v :: x,v' :: x',h,hg=>.cons _ _ _ _ (hg 0 v v' rfl rfl) (VRs.of_get (by simpa using h) fun i u u' hu hu'=>hg (i + 1) u u' (by simpa using hu) (by simpa using hu'))
theorem VRs.append {ρ : Ren} : ∀ {x : List DV} {x' : List Value} {y : List DV} {y' : List Value},VRs ρ x x' → VRs ρ y y' → VRs ρ (x ++ y) (x' ++ y')
 | _,_,_,_,.nil,h=>h
 | _,_,_,_,.cons x x' l l' h hs,hy=>.cons x x' _ _ h (VRs.append hs hy)
theorem VRs.take {ρ : Ren} : ∀ {x : List DV} {x' : List Value} (n : Nat),VRs ρ x x' → VRs ρ (x.take n) (x'.take n)
 | _,_,0,_=>by simp; exact .nil
 | _,_,n + 1,.nil=>by simp; exact .nil
 | _,_,n + 1,.cons x x' l l' h hs=>by simp only [List.take_succ_cons]; exact .cons x x' _ _ h (VRs.take n hs)
theorem VRs.drop {ρ : Ren} : ∀ {x : List DV} {x' : List Value} (n : Nat),VRs ρ x x' → VRs ρ (x.drop n) (x'.drop n)
 | _,_,0,h=>by simpa using h
 | _,_,n + 1,.nil=>by simp; exact .nil
 | _,_,n + 1,.cons x x' l l' h hs=>by simp only [List.drop_succ_cons]; exact VRs.drop n hs
theorem VRs.map {ρ : Ren} {α : Type} (f : α → DV) (g : α → Value) (h : ∀ x,VR ρ (f x) (g x)) : ∀ l : List α,VRs ρ (l.map f) (l.map g)
 | []=>.nil
 | x :: l=>.cons _ _ _ _ (h x) (VRs.map f g h l)
theorem fBe {ρ : Ren} {x : List DV} {x' : List Value} (h : VRs ρ x x') : ∀ n,VRs ρ (List.replicate n x).flatten (List.replicate n x').flatten
 | 0=>by simp; exact .nil
 | n + 1=>by simp only [List.replicate_succ,List.flatten_cons]; exact h.append (fBe h n)
def bWl : Value → Bool
 | .agg _ | .tuple _=>false
 | _=>true
theorem VR.one {ρ : Ren} {x : DV} {x' : Value} (h : VR ρ x x') (ho : x.one = true) : bWl x' = true:=by
 cases h <;> first | rfl | (simp [DV.one] at ho)
theorem VR.cells {ρ : Ren} {x : DV} {x' : Value} {cs : List DV} (h : VR ρ x x') (hc : dJ x = some cs) : VRs ρ cs x'.cells.toList:=by
 cases h <;> simp [dJ] at hc <;> subst hc <;> simp only [Value.cells] <;>
  first
  | assumption
  | exact .cons _ _ _ _ (by constructor <;> assumption) .nil
theorem VR.cv (ρ : Ren) (v : Value) : VR ρ (cv v) v:=by
 unfold Dd.cv
 split <;> first | constructor <;> rfl | constructor
theorem fCl (ρ : Ren) (z : Value) : VR ρ (zvD z) z:=by
 unfold zvD
 split
 ·exact .a _ _ (VRs.of_get (by simp) fun i v v' h h'=>by
   simp only [List.getElem?_map] at h
   rw [h'] at h
   simp at h
   subst h
   exact VR.cv ρ v')
 ·exact VR.cv ρ _
theorem fCf (ρ : Ren) (z : Value) : VRs ρ (pD z) z.cells.toList:=by
 unfold pD
 generalize z.cells.toList = l
 induction l with
 | nil=>exact .nil
 | cons x l ih=>exact .cons _ _ _ _ (VR.cv ρ x) ih
theorem aIe : ∀ a b : List Nat,eqD a b = true ↔ a = b
 | [],[]=>by simp [eqD]
 | [],_ :: _=>by simp [eqD]
 | _ :: _,[]=>by simp [eqD]
 | x :: a,y :: b=>by simp [eqD,aIe a b]
mutual
theorem fBs : ∀ x y : DV,DV.beq x y = true → x = y
 | .b x,.b y,h=>by simp [DV.beq] at h; rw [h]
 | .i q x,.i q' y,h=>by simp [DV.beq] at h; rw [h.1,h.2]
 | .s x,.s y,h=>by simp [DV.beq] at h; rw [(aIe x y).1 h]
 | .p0,.p0,_=>rfl
 | .p x y,.p x' y',h=>by simp [DV.beq] at h; rw [h.1,h.2]
 | .l0,.l0,_=>rfl
 | .le,.le,_=>rfl
 | .l x y z w,.l x' y' z' w',h=>by simp [DV.beq] at h; rw [h.1.1.1,h.1.1.2,h.1.2,h.2]
 | .lx x y z w,.lx x' y' z' w',h=>by simp [DV.beq] at h; rw [h.1.1.1,h.1.1.2,h.1.2,h.2]
 | .m0,.m0,_=>rfl
 | .m x,.m x',h=>by simp [DV.beq] at h; rw [h]
 | .f0,.f0,_=>rfl
 | .f z x y,.f z' x' y',h=>by simp [DV.beq] at h; rw [h.1.1,fBr _ _ h.1.2,fBr _ _ h.2]
 | .n0,.n0,_=>rfl
 | .c x y,.c x' y',h=>by simp [DV.beq] at h; rw [h.1,fBs _ _ h.2]
 | .a x,.a y,h=>by simp [DV.beq] at h; rw [fBr _ _ h]
 | .t x,.t y,h=>by simp [DV.beq] at h; rw [fBr _ _ h]
theorem fBr : ∀ x y : List DV,fBm x y = true → x = y
 | [],[],_=>rfl
 | x :: xs,y :: ys,h=>by simp [fBm] at h; rw [fBs _ _ h.1,fBr _ _ h.2]
 | [],_ :: _,h=>by simp [fBm] at h
 | _ :: _,[],h=>by simp [fBm] at h
end
end Go.Dd

namespace Go.Dd
open Go
def Facts (w : World) : Prop:=((∃ m,w.cell? ⟨0,0,none⟩ = some (.int .i64 m)) ∧ ∃ t z,w.heap[1]? = some (.cells (Lib.pow10Tab.map fun z=>Value.int .u64 z).toArray t z)) ∧ True ∧ True
theorem dPx {w w' : World} {b : Nat} (h : w'.heap[b]? = w.heap[b]?) (i : Nat) : w'.cell? ⟨b,i,none⟩ = w.cell? ⟨b,i,none⟩:=by
 simp only [World.cell?]
 rw [h]
theorem Facts.keep {w w' : World} (F : Facts w) (h : ∀ k,k < 2 → w'.heap[k]? = w.heap[k]?) : Facts w':=by
 obtain ⟨⟨⟨m,hm⟩,t,z,ht⟩,_⟩:=F
 refine ⟨⟨⟨m, ?_⟩,t,z,by rw [h 1 (by omega)]; exact ht⟩,trivial,trivial⟩
 rw [dPx (h 0 (by omega))]; exact hm
theorem Facts.eight {w : World} (F : Facts w) : 2 ≤ w.heap.size:=by
 obtain ⟨⟨_,t,z,ht⟩,_⟩:=F
 have:=(Array.getElem?_eq_some_iff.1 ht).1
 omega
end Go.Dd

namespace Go.Dd
open Go.RowKit (Below)
theorem eA {w : World} {a : Addr} {v : Value} (h : w.cell? a = some v) : a.block < w.heap.size:=World.block_lt_of_cell? w a h
theorem dP {w : World} {o : Obj} {a : Addr} (h : a.block < w.heap.size) : (w.alloc o).cell? a = w.cell? a:=World.cell?_alloc_lt w o a h
theorem gJ {w : World} {o : Obj} {a : Addr} (h : a.block ≠ w.heap.size) : (w.alloc o).frozen? a = w.frozen? a:=World.frozen?_alloc_old w o a h
theorem aFc {w : World} {a : Addr} {v u : Value} (h : w.cell? a = some u) : (w.setCell a v).cell? a = some v:=World.cell?_setCell_same w a v h
theorem nX {w : World} {a b : Addr} {v : Value} (h : a ≠ b) : (w.setCell a v).cell? b = w.cell? b:=World.cell?_setCell_other w a b v h
def Claims (ρ : Ren) (h : Hp) (b : Pos) (a : Addr) : Prop :=
 ∃ k l L,h.bl.get b = some (.row k l) ∧ ρ b = some L ∧
  ((∃ i v,l[i]? = some v ∧ v.one = true ∧ a = eX L i) ∨ (∃ es j,k = .gr es ∧ j < L.sp * es ∧ a = eX L (l.length + j)))
def isRo (h : Hp) (b : Pos) : Prop:=∃ l,h.bl.get b = some (.row .ro l)
structure Gd where
 B : Nat
 X : Nat → Prop
 N : Nat
 W : Array Obj
 ok : ∀ w : World,(∀ k,k < B → w.heap[k]? = W[k]?) → Facts w
def Own (G : Gd) (k : Nat) : Prop:=G.B ≤ k ∧ ¬ G.X k
structure Kp (G : Gd) (w w' : World) : Prop where
 low : Below G.B w w'
 ex : ∀ k,G.X k → w'.heap[k]? = w.heap[k]?
theorem Kp.refl (G : Gd) (w : World) : Kp G w w:=⟨Below.refl _ w,fun _ _=>rfl⟩
theorem Kp.trans {G : Gd} {a b c : World} (h : Kp G a b) (k : Kp G b c) : Kp G a c:=⟨h.low.trans k.low,fun i hi=>(k.ex i hi).trans (h.ex i hi)⟩
theorem Kp.drew {G : Gd} {a w : World} (h : Kp G a w) : Kp G a w.drew:=⟨h.low.drew,h.ex⟩
structure Ex (G : Gd) (ρ ρ' : Ren) : Prop where
 ext : Ext ρ ρ'
 new : ∀ b L, ρ' b = some L → ρ b = some L ∨ G.N ≤ b.toNat
theorem Ex.refl (G : Gd) (ρ : Ren) : Ex G ρ ρ:=⟨Ext.refl ρ,fun _ _ h=>.inl h⟩
theorem Ex.trans {G : Gd} {a b c : Ren} (h : Ex G a b) (k : Ex G b c) : Ex G a c:=⟨h.ext.trans k.ext,fun x L hx=>(k.new x L hx).elim (fun h1=>h.new x L h1) .inr⟩
def SgR (ρ : Ren) : Ob → Obj → Prop
 | .it s pos,o=>∃ bs,o = .stringIter bs pos ∧ bs.data.toList.map (·.toNat) = s
 | .mp es,o=>∃ arr clock,o = .map arr clock ∧ VRs ρ (es.map (·.1)) (arr.toList.map (·.key)) ∧ VRs ρ (es.map (·.2)) (arr.toList.map (·.val)) ∧ clock = arr.size ∧ ∀ (i : Nat) (e : MapEntry),arr[i]? = some e → e.born = i
 | _,_=>False
theorem SgR.mono {ρ ρ' : Ren} (e : Ext ρ ρ') {o : Ob} {x : Obj} (h : SgR ρ o x) : SgR ρ' o x:=by
 cases o with
 | row k l=>exact h
 | big n t=>exact h
 | mi t=>exact h
 | it s pos=>exact h
 | mp es =>
  obtain ⟨arr,cl,h1,h2,h3,h4⟩:=h
  exact ⟨arr,cl,h1,h2.mono e,h3.mono e,h4⟩
def nc : Obj → Prop
 | .stringIter _ _=>True
 | .map _ _=>True
 | _=>False
theorem SgR.nc {ρ : Ren} {o : Ob} {x : Obj} (h : SgR ρ o x) : nc x:=by
 cases o with
 | row k l=>exact h.elim
 | big n t=>exact h.elim
 | mi t=>exact h.elim
 | it s pos=>obtain ⟨bs,h1,_⟩:=h; subst h1; trivial
 | mp es=>obtain ⟨arr,cl,h1,_⟩:=h; subst h1; trivial
theorem bJt {w : World} {a : Addr} {v : Value} {x : Obj} (ha : w.cell? a = some v) (h : w.heap[a.block]? = some x) (hn : nc x) : False:=by
 unfold World.cell? at ha
 rw [h] at ha
 cases x <;> first | exact hn | cases ha
structure HR (G : Gd) (ρ : Ren) (h : Hp) (w : World) : Prop where
 gl : ∀ k,k < G.B → w.heap[k]? = G.W[k]?
 sz : G.B ≤ w.heap.size ∧ ∀ k,G.X k → k < w.heap.size
 nx : G.N ≤ h.next.toNat
 ro : ∀ b a,Claims ρ h b a → isRo h b → a.block < G.B
 dom : ∀ b o,h.bl.get b = some o → ∃ L, ρ b = some L
 lt : ∀ b L, ρ b = some L → b.toNat < h.next.toNat
 cell : ∀ b k l L i v,h.bl.get b = some (.row k l) → ρ b = some L → l[i]? = some v → v.one = true → ∃ v',w.cell? (eX L i) = some v' ∧ VR ρ v v'
 spare : ∀ b l L es j,h.bl.get b = some (.row (.gr es) l) → ρ b = some L → j < L.sp * es → ∃ v',w.cell? (eX L (l.length + j)) = some v'
 free : ∀ b a,Claims ρ h b a → ¬ isRo h b → w.frozen? a = false ∧ Own G a.block
 inj : ∀ b b' a,Claims ρ h b a → Claims ρ h b' a → ¬ isRo h b → b = b'
 ex : ∀ b l L,h.bl.get b = some (.row .ro l) ∨ h.bl.get b = some (.row .ex l) → ρ b = some L → L.sp = 0
 grone : ∀ b es l (i : Nat) v,h.bl.get b = some (.row (.gr es) l) → l[i]? = some v → v.one = true
 itr : ∀ b o L,o.sg = true → h.bl.get b = some o → ρ b = some L → Own G L.bl ∧ (L.of = 0 ∧ L.spot = none) ∧ ∃ x,w.heap[L.bl]? = some x ∧ SgR ρ o x
 itj : ∀ b o b' o' L L',o.sg = true → o'.sg = true → h.bl.get b = some o → h.bl.get b' = some o' → ρ b = some L → ρ b' = some L' → L.bl = L'.bl → b = b'
def mG (ρ : Ren) (b : Pos) (L : Loc) : Ren:=fun x=>if x = b then some L else ρ x
theorem HR.fresh {G : Gd} {ρ : Ren} {h : Hp} {w : World} (H : HR G ρ h w) : ρ h.next = none:=by
 cases hr : ρ h.next with
 | none=>rfl
 | some L=>exact absurd (H.lt _ _ hr) (Nat.lt_irrefl _)
theorem HR.fresh_get {G : Gd} {ρ : Ren} {h : Hp} {w : World} (H : HR G ρ h w) : h.bl.get h.next = none:=by
 cases hr : h.bl.get h.next with
 | none=>rfl
 | some o=>obtain ⟨L,hL⟩:=H.dom _ _ hr; rw [H.fresh] at hL; cases hL
theorem HR.ext {G : Gd} {ρ : Ren} {h : Hp} {w : World} (H : HR G ρ h w) (L : Loc) : Ext ρ (mG ρ h.next L):=by
 intro b L' hb
 unfold mG
 split
 ·rename_i e; subst e; rw [H.fresh] at hb; cases hb
 ·exact hb
theorem bW (ρ : Ren) (b : Pos) (L : Loc) : mG ρ b L b = some L:=by simp [mG]
theorem aU (ρ : Ren) {b x : Pos} (L : Loc) (h : x ≠ b) : mG ρ b L x = ρ x:=by simp [mG,h]
theorem HR.lt_cell {G : Gd} {ρ : Ren} {h : Hp} {w : World} (H : HR G ρ h w) {b : Pos} {a : Addr} (hc : Claims ρ h b a) : ∃ v,w.cell? a = some v:=by
 obtain ⟨k,l,L,hb,hL,⟨i,v,hi,hv,rfl⟩ | ⟨es,j,rfl,hj,rfl⟩⟩:=hc
 ·obtain ⟨v',h1,_⟩:=H.cell b k l L i v hb hL hi hv; exact ⟨v',h1⟩
 ·exact H.spare b l L es j hb hL hj
theorem HR.congr {G : Gd} {ρ : Ren} {h : Hp} {w w' : World} (H : HR G ρ h w) (e : w'.heap = w.heap) : HR G ρ h w' where
 gl:=by rw [e]; exact H.gl
 sz:=by rw [e]; exact H.sz
 nx:=H.nx
 ro:=H.ro
 dom:=H.dom
 lt:=H.lt
 cell:=fun b k l L i v h1 h2 h3 h4=>by
  obtain ⟨v',h5,h6⟩:=H.cell b k l L i v h1 h2 h3 h4
  exact ⟨v',by simpa [World.cell?,e] using h5,h6⟩
 spare:=fun b l L es j h1 h2 h3=>by
  obtain ⟨v',h5⟩:=H.spare b l L es j h1 h2 h3
  exact ⟨v',by simpa [World.cell?,e] using h5⟩
 free:=fun b a h1 h2=>by simpa [World.frozen?,e] using H.free b a h1 h2
 inj:=H.inj
 ex:=H.ex
 grone:=H.grone
 itr:=fun b o L h0 h1 h2=>by rw [e]; exact H.itr b o L h0 h1 h2
 itj:=H.itj
theorem HR.drew {G : Gd} {ρ : Ren} {h : Hp} {w : World} (H : HR G ρ h w) : HR G ρ h w.drew:=H.congr rfl
theorem fBb {ρ : Ren} {h : Hp} {o : Ob} {L : Loc} {b : Pos} {a : Addr} (hb : b ≠ h.next)
  (hc : Claims (mG ρ h.next L) ⟨h.next.succ,Tr.set o h.next h.bl⟩ b a) : Claims ρ h b a:=by
 obtain ⟨k,l,L',h1,h2,h3⟩:=hc
 simp only [fAw _ _ _ _ hb] at h1
 rw [aU _ _ hb] at h2
 exact ⟨k,l,L',h1,h2,h3⟩
theorem iG {h : Hp} {o : Ob} {b : Pos} (hb : b ≠ h.next) : isRo ⟨h.next.succ,Tr.set o h.next h.bl⟩ b ↔ isRo h b:=by
 simp [isRo,fAw _ _ _ _ hb]
theorem xP {G : Gd} {ρ : Ren} {h : Hp} {w : World} (H : HR G ρ h w) (L : Loc) : ∀ b L',mG ρ h.next L b = some L' → b.toNat < h.next.succ.toNat:=by
 intro b L' hb
 rw [fBa]
 unfold mG at hb
 split at hb
 ·rename_i e; subst e; omega
 ·have:=H.lt _ _ hb; omega
theorem HR.exx {G : Gd} {ρ : Ren} {h : Hp} {w : World} (H : HR G ρ h w) (L : Loc) : Ex G ρ (mG ρ h.next L):=⟨H.ext L,fun b L' hb=>by
 unfold mG at hb
 split at hb
 ·rename_i e; subst e; exact .inr H.nx
 ·exact .inl hb⟩
theorem HR.own_new {G : Gd} {ρ : Ren} {h : Hp} {w : World} (H : HR G ρ h w) : Own G w.heap.size:=⟨H.sz.1,fun hx=>Nat.lt_irrefl _ (H.sz.2 _ hx)⟩
theorem dB {G : Gd} {w : World} (hB : G.B ≤ w.heap.size ∧ ∀ k,G.X k → k < w.heap.size) (o : Obj) : Kp G w (w.alloc o) :=
 ⟨(Below.refl _ w).alloc hB.1 o,fun k hk=>Below.heap_alloc _ _ _ (hB.2 k hk)⟩
theorem HR.newRow {G : Gd} {ρ : Ren} {h : Hp} {w : World} (H : HR G ρ h w) (k : Kind) (cs : List DV) (vs : List Value) (arr : Array Value) (t : TypeId) (sp : Nat)
  (hcs : VRs ρ cs vs) (harr : ∀ (i : Nat) v,vs[i]? = some v → arr[i]? = some v)
  (hk : (k = .ex ∧ sp = 0) ∨ (∃ es,k = .gr es ∧ vs.length + sp * es ≤ arr.size ∧ ∀ v ∈ cs,v.one = true)) :
  HR G (mG ρ h.next ⟨w.heap.size,0,sp,none⟩) ⟨h.next.succ,Tr.set (.row k cs) h.next h.bl⟩ (w.alloc (.cells arr t)):=by
 have hext:=H.ext ⟨w.heap.size,0,sp,none⟩
 have hro : k ≠ .ro:=by rintro rfl; rcases hk with ⟨h1,_⟩ | ⟨es,h1,_,_⟩ <;> cases h1
 have hnew : ∀ a,Claims (mG ρ h.next ⟨w.heap.size,0,sp,none⟩) ⟨h.next.succ,Tr.set (.row k cs) h.next h.bl⟩ h.next a → ∃ j,j < arr.size ∧ a = ⟨w.heap.size,j,none⟩:=by
  rintro a ⟨k',l',L',h1,h2,h3⟩
  simp only [fAx,bB,Ob.row.injEq] at h1
  obtain ⟨rfl,rfl⟩:=h1
  rw [bW] at h2
  cases h2
  rcases h3 with ⟨i,v,hi,hv,rfl⟩ | ⟨es,j,rfl,hj,rfl⟩
  ·obtain ⟨v',hv',_⟩:=hcs.get i v hi
   have:=harr i v' hv'
   refine ⟨i, ?_,by simp [eX]⟩
   rcases Nat.lt_or_ge i arr.size with h | h
   ·exact h
   ·simp [Array.getElem?_eq_none h] at this
  ·refine ⟨cs.length + j, ?_,by simp [eX]⟩
   rcases hk with ⟨h1,_⟩ | ⟨es',h1,h2,_⟩
   ·cases h1
   ·cases h1
    rw [hcs.length]
    simp only at hj
    omega
 have hold : ∀ b a,b ≠ h.next → Claims (mG ρ h.next ⟨w.heap.size,0,sp,none⟩) ⟨h.next.succ,Tr.set (.row k cs) h.next h.bl⟩ b a → a.block < w.heap.size:=by
  intro b a hb hc
  obtain ⟨v,hv⟩:=H.lt_cell (fBb hb hc)
  exact eA hv
 refine { gl:=fun k hk=>by rw [Below.heap_alloc _ _ _ (Nat.lt_of_lt_of_le hk H.sz.1)]; exact H.gl k hk,sz := ?_,nx := ?_,ro := ?_,dom := ?_,lt:=xP H _,cell := ?_,spare := ?_,free := ?_,inj := ?_,ex := ?_,grone := ?_,itr := ?_,itj := ?_ }
 ·obtain ⟨h1,h2⟩:=H.sz
  refine ⟨by simp; omega,fun k hk => ?_⟩
  have:=h2 k hk
  simp; omega
 ·have:=H.nx; simp only [fBa]; omega
 ·intro b a hc hr
  by_cases e : b = h.next
  ·subst e
   obtain ⟨l0,h0⟩:=hr
   simp only [fAx,bB,Ob.row.injEq] at h0
   exact absurd h0.1 hro
  ·exact H.ro b a (fBb e hc) ((iG e).1 hr)
 ·intro b o hb
  by_cases e : b = h.next
  ·subst e; exact ⟨_,bW _ _ _⟩
  ·rw [aU _ _ e]; simp only [fAw _ _ _ _ e] at hb; exact H.dom b o hb
 ·intro b k' l' L' i v hb hL hi hv
  by_cases e : b = h.next
  ·subst e
   simp only [fAx,bB,Ob.row.injEq] at hb
   obtain ⟨rfl,rfl⟩:=hb
   rw [bW] at hL
   cases hL
   obtain ⟨v',hv',hr⟩:=hcs.get i v hi
   refine ⟨v', ?_,hr.mono hext⟩
   have:=harr i v' hv'
   simpa [eX] using this
  ·simp only [fAw _ _ _ _ e] at hb
   rw [aU _ _ e] at hL
   obtain ⟨v',h5,h6⟩:=H.cell b k' l' L' i v hb hL hi hv
   exact ⟨v',by rw [dP (eA h5)]; exact h5,h6.mono hext⟩
 ·intro b l' L' es j hb hL hj
  by_cases e : b = h.next
  ·subst e
   simp only [fAx,bB,Ob.row.injEq] at hb
   obtain ⟨rfl,rfl⟩:=hb
   rw [bW] at hL
   cases hL
   rcases hk with ⟨h1,_⟩ | ⟨es',h1,h2,_⟩
   ·cases h1
   ·cases h1
    simp only at hj
    have hlt : cs.length + j < arr.size:=by rw [hcs.length]; omega
    exact ⟨arr[cs.length + j],by simp [eX,hlt]⟩
  ·simp only [fAw _ _ _ _ e] at hb
   rw [aU _ _ e] at hL
   obtain ⟨v',h5⟩:=H.spare b l' L' es j hb hL hj
   exact ⟨v',by rw [dP (eA h5)]; exact h5⟩
 ·intro b a hc hr
  by_cases e : b = h.next
  ·subst e
   obtain ⟨j,hj,rfl⟩:=hnew a hc
   exact ⟨by simp,H.own_new⟩
  ·have hlt:=hold b a e hc
   have:=H.free b a (fBb e hc) (fun h=>hr ((iG e).2 h))
   rw [gJ (by omega)]
   exact this
 ·intro b b' a hc hc' hr
  by_cases e : b = h.next
  ·subst e
   by_cases e' : b' = h.next
   ·exact e'.symm
   ·obtain ⟨j,hj,rfl⟩:=hnew a hc
    have:=hold b' _ e' hc'
    exact absurd this (by simp)
  ·by_cases e' : b' = h.next
   ·subst e'
    obtain ⟨j,hj,rfl⟩:=hnew a hc'
    have:=hold b _ e hc
    exact absurd this (by simp)
   ·exact H.inj b b' a (fBb e hc) (fBb e' hc') (fun h=>hr ((iG e).2 h))
 ·intro b l' L' hb hL
  by_cases e : b = h.next
  ·subst e
   simp only [fAx,bB,Ob.row.injEq] at hb
   rw [bW] at hL
   cases hL
   rcases hk with ⟨_,h1⟩ | ⟨es,h1,_,_⟩
   ·exact h1
   ·rcases hb with ⟨h2,_⟩ | ⟨h2,_⟩ <;> rw [h1] at h2 <;> cases h2
  ·simp only [fAw _ _ _ _ e] at hb
   rw [aU _ _ e] at hL
   exact H.ex b l' L' hb hL
 ·intro b es l' i v hb hi
  by_cases e : b = h.next
  ·subst e
   simp only [fAx,bB,Ob.row.injEq] at hb
   obtain ⟨h1,rfl⟩:=hb
   rcases hk with ⟨h2,_⟩ | ⟨es',h2,_,h3⟩
   ·rw [h1] at h2; cases h2
   ·exact h3 v (List.mem_of_getElem? hi)
  ·simp only [fAw _ _ _ _ e] at hb
   exact H.grone b es l' i v hb hi
 ·intro b o L' h0 hb hL
  by_cases e : b = h.next
  ·subst e; simp [fAx] at hb; subst hb; cases h0
  ·simp only [fAw _ _ _ _ e] at hb
   rw [aU _ _ e] at hL
   obtain ⟨h1,h2,bs,h3,h4⟩:=H.itr b o L' h0 hb hL
   refine ⟨h1,h2,bs, ?_,h4.mono (H.ext _)⟩
   have hlt : L'.bl < w.heap.size:=by
    rcases Nat.lt_or_ge L'.bl w.heap.size with h | h
    ·exact h
    ·simp [Array.getElem?_eq_none h] at h3
   rw [Below.heap_alloc _ _ _ hlt]
   exact h3
 ·intro b o b' o' L1 L2 h0 h0' hb hb' hL hL' he
  by_cases e : b = h.next
  ·subst e; simp [fAx] at hb; subst hb; cases h0
  ·by_cases e' : b' = h.next
   ·subst e'; simp [fAx] at hb'; subst hb'; cases h0'
   ·simp only [fAw _ _ _ _ e] at hb
    simp only [fAw _ _ _ _ e'] at hb'
    rw [aU _ _ e] at hL
    rw [aU _ _ e'] at hL'
    exact H.itj b o b' o' L1 L2 h0 h0' hb hb' hL hL' he
theorem fCq {G : Gd} {ρ : Ren} {h : Hp} {w : World} (H : HR G ρ h w) (k : Kind) (L : Loc)
  (hk : (k = .ex ∧ L.sp = 0) ∨ k = .sp) :
  HR G (mG ρ h.next L) ⟨h.next.succ,Tr.set (.row k []) h.next h.bl⟩ w:=by
 have hext:=H.ext L
 have hnew : ∀ a,¬ Claims (mG ρ h.next L) ⟨h.next.succ,Tr.set (.row k []) h.next h.bl⟩ h.next a:=by
  rintro a ⟨k',l',L',h1,h2,h3⟩
  simp only [fAx,bB,Ob.row.injEq] at h1
  obtain ⟨rfl,rfl⟩:=h1
  rcases h3 with ⟨i,v,hi,hv,rfl⟩ | ⟨es,j,rfl,hj,rfl⟩
  ·simp at hi
  ·rcases hk with ⟨h1,_⟩ | h1 <;> cases h1
 refine { gl:=H.gl,sz:=H.sz,nx := ?_,ro := ?_,dom := ?_,lt:=xP H _,cell := ?_,spare := ?_,free := ?_,inj := ?_,ex := ?_,grone := ?_,itr := ?_,itj := ?_ }
 ·have:=H.nx; simp only [fBa]; omega
 ·intro b a hc hr
  by_cases e : b = h.next
  ·subst e; exact absurd hc (hnew a)
  ·exact H.ro b a (fBb e hc) ((iG e).1 hr)
 ·intro b o hb
  by_cases e : b = h.next
  ·subst e; exact ⟨_,bW _ _ _⟩
  ·rw [aU _ _ e]; simp only [fAw _ _ _ _ e] at hb; exact H.dom b o hb
 ·intro b k' l' L' i v hb hL hi hv
  by_cases e : b = h.next
  ·subst e
   simp only [fAx,bB,Ob.row.injEq] at hb
   obtain ⟨rfl,rfl⟩:=hb
   simp at hi
  ·simp only [fAw _ _ _ _ e] at hb
   rw [aU _ _ e] at hL
   obtain ⟨v',h5,h6⟩:=H.cell b k' l' L' i v hb hL hi hv
   exact ⟨v',h5,h6.mono hext⟩
 ·intro b l' L' es j hb hL hj
  by_cases e : b = h.next
  ·subst e
   simp only [fAx,bB,Ob.row.injEq] at hb
   rcases hk with ⟨h1,_⟩ | h1 <;> rw [h1] at hb <;> cases hb.1
  ·simp only [fAw _ _ _ _ e] at hb
   rw [aU _ _ e] at hL
   exact H.spare b l' L' es j hb hL hj
 ·intro b a hc hr
  by_cases e : b = h.next
  ·subst e; exact absurd hc (hnew a)
  ·exact H.free b a (fBb e hc) (fun h=>hr ((iG e).2 h))
 ·intro b b' a hc hc' hr
  by_cases e : b = h.next
  ·subst e; exact absurd hc (hnew a)
  ·by_cases e' : b' = h.next
   ·subst e'; exact absurd hc' (hnew a)
   ·exact H.inj b b' a (fBb e hc) (fBb e' hc') (fun h=>hr ((iG e).2 h))
 ·intro b l' L' hb hL
  by_cases e : b = h.next
  ·subst e
   simp only [fAx,bB,Ob.row.injEq] at hb
   rw [bW] at hL
   cases hL
   rcases hk with ⟨_,h1⟩ | h1
   ·exact h1
   ·rcases hb with ⟨h2,_⟩ | ⟨h2,_⟩ <;> rw [h1] at h2 <;> cases h2
  ·simp only [fAw _ _ _ _ e] at hb
   rw [aU _ _ e] at hL
   exact H.ex b l' L' hb hL
 ·intro b es l' i v hb hi
  by_cases e : b = h.next
  ·subst e
   simp only [fAx,bB,Ob.row.injEq] at hb
   obtain ⟨h1,rfl⟩:=hb
   simp at hi
  ·simp only [fAw _ _ _ _ e] at hb
   exact H.grone b es l' i v hb hi
 ·intro b o L' h0 hb hL
  by_cases e : b = h.next
  ·subst e; simp [fAx] at hb; subst hb; cases h0
  ·simp only [fAw _ _ _ _ e] at hb
   rw [aU _ _ e] at hL
   obtain ⟨h1,h2,x,h3,h4⟩:=H.itr b o L' h0 hb hL
   exact ⟨h1,h2,x,h3,h4.mono (H.ext _)⟩
 ·intro b o b' o' L1 L2 h0 h0' hb hb' hL hL' he
  by_cases e : b = h.next
  ·subst e; simp [fAx] at hb; subst hb; cases h0
  ·by_cases e' : b' = h.next
   ·subst e'; simp [fAx] at hb'; subst hb'; cases h0'
   ·simp only [fAw _ _ _ _ e] at hb
    simp only [fAw _ _ _ _ e'] at hb'
    rw [aU _ _ e] at hL
    rw [aU _ _ e'] at hL'
    exact H.itj b o b' o' L1 L2 h0 h0' hb hb' hL hL' he
end Go.Dd

namespace Go.Dd
open Go.RowKit (Below)
theorem fX (L : Loc) (o i : Nat) : (eX L o).add i = eX L (o + i):=by
 unfold Addr.add eX
 split
 ·rename_i h; subst h; rfl
 ·rename_i h; simp [Nat.add_assoc]; intro _ h2; exact absurd h2 h
theorem aEp {P : Program} {w : World} {a : Addr} {v x : Value} (h : w.cell? a = some x) (hf : w.frozen? a = false) (ho : bWl v = true) :
  (store a v).run P w = .ok () (w.setCell a v):=by
 cases v <;> simp [bWl] at ho <;> simp [store,Sem.run,h,hf]
structure Wrote (w w' : World) (L : Loc) (n : Nat) (vs : List Value) : Prop where
 os : w'.os = w.os
 tape : w'.tape = w.tape
 output : w'.output = w.output
 size : w'.heap.size = w.heap.size
 block : ∀ k : Nat,k ≠ L.bl → w'.heap[k]? = w.heap[k]?
 new : ∀ (j : Nat) v,vs[j]? = some v → w'.cell? (eX L (n + j)) = some v
 old : ∀ a,(∀ j,j < vs.length → a ≠ eX L (n + j)) → w'.cell? a = w.cell? a
 frozen : ∀ a,w'.frozen? a = w.frozen? a
 kept : ∀ x (k : Nat),nc x → w.heap[k]? = some x → w'.heap[k]? = some x
 no : vs = [] → w' = w
theorem Wrote.nil (w : World) (L : Loc) (n : Nat) : Wrote w w L n [] :=
 ⟨rfl,rfl,rfl,rfl,fun _ _=>rfl,by simp,fun _ _=>rfl,fun _=>rfl,fun _ _ _ h=>h,fun _=>rfl⟩
theorem aKg {w : World} {a : Addr} {v : Value} {x : Obj} {k : Nat} (hx : nc x) (h : w.heap[k]? = some x) :
  (w.setCell a v).heap[k]? = some x:=by
 simp only [World.setCell,Array.getElem?_modify]
 split
 ·rename_i e; subst e; rw [h]; cases x <;> first | rfl | exact hx.elim
 ·exact h
theorem Wrote.cons {w w' : World} {L : Loc} {n : Nat} {v x : Value} {vs : List Value} (hx : w.cell? (eX L n) = some x)
  (h : Wrote (w.setCell (eX L n) v) w' L (n + 1) vs) : Wrote w w' L n (v :: vs) where
 os:=h.os
 tape:=h.tape
 output:=h.output
 size:=by rw [h.size]; simp
 block:=fun k hk=>by rw [h.block k hk,Below.heap_setCell _ _ _ _ (by simpa [eX] using hk)]
 new:=fun j u hj=>by
  cases j with
  | zero =>
   simp at hj; subst hj
   rw [Nat.add_zero,h.old _ (fun j hj e=>by have:=kB e; omega)]
   exact aFc hx
  | succ j=>simp at hj; have:=h.new j u hj; rwa [show n + (j + 1) = n + 1 + j from by omega]
 old:=fun a ha=>by
  rw [h.old a (fun j hj e=>ha (j + 1) (by simp; omega) (by rw [e]; congr 1; omega))]
  exact nX (fun e=>ha 0 (by simp) (by rw [← e]; rfl))
 frozen:=fun a=>by rw [h.frozen]; simp
 kept:=fun x k hx hk=>h.kept x k hx (aKg hx hk)
 no:=fun e=>(by cases e)
theorem iE {P : Program} {L : Loc} : ∀ (vs : List Value) (o i : Nat) (w : World),
  (∀ j,j < vs.length → (∃ x,w.cell? (eX L (o + i + j)) = some x) ∧ w.frozen? (eX L (o + i + j)) = false) → (∀ v ∈ vs,bWl v = true) →
  ∃ w',(storeCells (eX L o) vs i).run P w = .ok () w' ∧ Wrote w w' L (o + i) vs
 | [],o,i,w,_,_=>⟨w,by simp [storeCells],Wrote.nil _ _ _⟩
 | v :: vs,o,i,w,hc,ho=>by
  obtain ⟨⟨x,hx⟩,hf⟩:=hc 0 (by simp)
  rw [Nat.add_zero] at hx hf
  have hov : bWl v = true:=ho v (by simp)
  have hr:=aEp (P:=P) hx hf hov
  obtain ⟨w',h1,h2⟩:=iE (P:=P) (L:=L) vs o (i + 1) (w.setCell (eX L (o + i)) v) (fun j hj=>by
   have h0:=hc (j + 1) (by simp; omega)
   have e : o + i + (j + 1) = o + (i + 1) + j:=by omega
   rw [e] at h0
   refine ⟨?_,by simp [h0.2]⟩
   obtain ⟨x',hx'⟩:=h0.1
   exact ⟨x',by rw [nX (fun e=>by have:=kB e; omega)]; exact hx'⟩) (fun u hu=>ho u (by simp [hu]))
  refine ⟨w', ?_,Wrote.cons hx h2⟩
  simp only [storeCells,Sem.run_bind,fX,hr,Result.andThen_ok]
  exact h1
theorem Wrote.below {G : Gd} {w w' : World} {L : Loc} {n : Nat} {vs : List Value} (h : Wrote w w' L n vs) (hB : Own G L.bl) : Kp G w w' :=
 ⟨⟨h.os,h.tape,h.output,by rw [h.size]; exact Nat.le_refl _,fun k hk=>h.block k (fun e=>by have:=hB.1; omega)⟩,fun k hk=>h.block k (fun e=>hB.2 (e ▸ hk))⟩
theorem aGc : ∀ (l vs l' : List DV),oK l vs = some l' → l'.length = l.length ∧ vs.length ≤ l.length ∧
  (∀ v ∈ vs,v.one = true) ∧ (∀ (j : Nat) v,vs[j]? = some v → l'[j]? = some v ∧ ∃ x,l[j]? = some x ∧ x.one = true) ∧ (∀ j,vs.length ≤ j → l'[j]? = l[j]?)
 | l,[],l',h=>by
  have : l' = l:=by cases l <;> simp [oK] at h <;> simp [h]
  subst this; simp
 | [],v :: vs,l',h=>by simp [oK] at h
 | x :: l,v :: vs,l',h=>by
  simp only [oK] at h
  split at h
  ·rename_i hx
   simp only [Bool.and_eq_true] at hx
   cases hp : oK l vs with
   | none=>rw [hp] at h; simp at h
   | some l1 =>
    rw [hp] at h; simp at h; subst h
    obtain ⟨h1,h2,h3,h4,h5⟩:=aGc l vs l1 hp
    refine ⟨by simp [h1],by simp; exact h2, ?_, ?_, ?_⟩
    ·intro u hu
     simp at hu
     rcases hu with rfl | hu
     ·exact hx.2
     ·exact h3 u hu
    ·intro j u hj
     cases j with
     | zero=>simp at hj; subst hj; exact ⟨by simp,x,by simp,hx.1⟩
     | succ j=>simp at hj; simpa using h4 j u hj
    ·intro j hj
     cases j with
     | zero=>simp at hj
     | succ j=>simp at hj; simpa using h5 j hj
  ·cases h
theorem kZ : ∀ (n : Nat) (l vs l' : List DV),fR n l vs = some l' → l'.length = l.length ∧ (vs ≠ [] → n + vs.length ≤ l.length) ∧
  (∀ v ∈ vs,v.one = true) ∧ (∀ (j : Nat) v,vs[j]? = some v → l'[n + j]? = some v ∧ ∃ x,l[n + j]? = some x ∧ x.one = true) ∧ (∀ j,(j < n ∨ n + vs.length ≤ j) → l'[j]? = l[j]?)
 | 0,l,vs,l',h=>by
  obtain ⟨h1,h2,h3,h4,h5⟩:=aGc l vs l' (by simpa [fR] using h)
  exact ⟨h1,fun _=>by omega,h3,by simpa using h4,fun j hj=>h5 j (by omega)⟩
 | n + 1,[],vs,l',h=>by
  simp only [fR] at h
  split at h
  ·rename_i hv
   simp at hv h
   subst hv; subst h
   simp
  ·cases h
 | n + 1,x :: l,vs,l',h=>by
  simp only [fR] at h
  cases hp : fR n l vs with
  | none=>rw [hp] at h; simp at h
  | some l1 =>
   rw [hp] at h; simp at h; subst h
   obtain ⟨h1,h2,h3,h4,h5⟩:=kZ n l vs l1 hp
   refine ⟨by simp [h1],fun hv=>by have:=h2 hv; simp; omega,h3, ?_, ?_⟩
   ·intro j u hj
    have:=h4 j u hj
    rw [show n + 1 + j = (n + j) + 1 from by omega]
    simpa using this
   ·intro j hj
    cases j with
    | zero=>simp
    | succ j=>simpa using h5 j (by omega)
theorem aWd {ρ : Ren} {h : Hp} {b : Pos} {k : Kind} {l l' : List DV} (hb : h.bl.get b = some (.row k l)) (hlen : l'.length = l.length)
  (hone : ∀ (i : Nat) v',l'[i]? = some v' → v'.one = true → ∃ v,l[i]? = some v ∧ v.one = true) {x : Pos} {a : Addr}
  (hc : Claims ρ ⟨h.next,Tr.set (.row k l') b h.bl⟩ x a) : Claims ρ h x a:=by
 obtain ⟨k1,l1,L,h1,h2,h3⟩:=hc
 by_cases e : x = b
 ·subst e
  simp only [fAx,bB,Ob.row.injEq] at h1
  obtain ⟨rfl,rfl⟩:=h1
  refine ⟨k,l,L,hb,h2, ?_⟩
  rcases h3 with ⟨i,v,hi,hv,rfl⟩ | ⟨es,j,rfl,hj,rfl⟩
  ·obtain ⟨v0,h5,h6⟩:=hone i v hi hv
   exact .inl ⟨i,v0,h5,h6,rfl⟩
  ·exact .inr ⟨es,j,rfl,hj,by rw [hlen]⟩
 ·simp only [fAw _ _ _ _ e] at h1
  exact ⟨k1,l1,L,h1,h2,h3⟩
theorem HR.put {G : Gd} {ρ : Ren} {h : Hp} {w w' : World} (H : HR G ρ h w) {b : Pos} {k : Kind} {l l' : List DV} {L : Loc} {n : Nat} {vs : List DV} {vs' : List Value}
  (hb : h.bl.get b = some (.row k l)) (hL : ρ b = some L) (hk : k.writable = true) (hp : fR n l vs = some l') (hvs : VRs ρ vs vs') (hw : Wrote w w' L n vs') :
  HR G ρ ⟨h.next,Tr.set (.row k l') b h.bl⟩ w':=by
 obtain ⟨p1,p2,p3,p4,p5⟩:=kZ n l vs l' hp
 have hlen:=hvs.length
 have hone : ∀ (i : Nat) v',l'[i]? = some v' → v'.one = true → ∃ v,l[i]? = some v ∧ v.one = true:=by
  intro i v' hi hv
  by_cases hin : n ≤ i ∧ i < n + vs.length
  ·have hlt : i - n < vs.length:=by omega
   obtain ⟨_,x,hx,ho⟩:=p4 (i - n) vs[i - n] (by simp [hlt])
   rw [show n + (i - n) = i from by omega] at hx
   exact ⟨x,hx,ho⟩
  ·rw [p5 i (by omega)] at hi
   exact ⟨v',hi,hv⟩
 have hroB : ¬ isRo h b:=by
  rintro ⟨l0,h0⟩
  rw [hb] at h0; simp at h0
  rw [h0.1] at hk; cases hk
 have hro : ∀ x,isRo ⟨h.next,Tr.set (.row k l') b h.bl⟩ x ↔ isRo h x:=by
  intro x
  by_cases e : x = b
  ·subst e
   simp only [isRo,fAx,hb]
   constructor
   ·rintro ⟨l0,h0⟩; simp at h0; rw [h0.1] at hk; cases hk
   ·rintro ⟨l0,h0⟩; simp at h0; rw [h0.1] at hk; cases hk
  ·simp [isRo,fAw _ _ _ _ e]
 have hcl : ∀ {x a},Claims ρ ⟨h.next,Tr.set (.row k l') b h.bl⟩ x a → Claims ρ h x a:=fun hc=>aWd hb p1 hone hc
 have hother : ∀ x a,x ≠ b → Claims ρ h x a → ∀ j,j < vs'.length → a ≠ eX L (n + j):=by
  intro x a hx hc j hj e
  have hj' : j < vs.length:=by omega
  obtain ⟨_,x0,hx0,ho⟩:=p4 j vs[j] (by simp [hj'])
  have hcb : Claims ρ h b a:=⟨k,l,L,hb,hL,.inl ⟨n + j,x0,hx0,ho,e⟩⟩
  exact hx (H.inj b x a hcb hc hroB).symm
 have hgl : ∀ k,k < G.B → w'.heap[k]? = G.W[k]? := by
  intro k hk
  cases vs' with
  | nil=>rw [hw.no rfl]; exact H.gl k hk
  | cons v0 vr =>
   have h0 : 0 < vs.length:=by rw [hlen]; simp
   obtain ⟨_,x,hx,ho⟩:=p4 0 vs[0] (by simp [h0])
   have hcb : Claims ρ h b (eX L (n + 0)):=⟨_,l,L,hb,hL,.inl ⟨n + 0,x,hx,ho,rfl⟩⟩
   have hown:=(H.free b _ hcb hroB).2
   have hlb : G.B ≤ L.bl:=hown.1
   rw [hw.block k (by omega)]
   exact H.gl k hk
 refine { gl:=hgl,sz:=by rw [hw.size]; exact H.sz,nx:=H.nx,ro:=fun x a hc hr=>H.ro x a (hcl hc) ((hro x).1 hr),dom := ?_,lt:=H.lt,cell := ?_,spare := ?_,free := ?_,inj := ?_,ex := ?_,grone := ?_,itr := ?_,itj := ?_ }
 ·intro x o hx
  by_cases e : x = b
  ·subst e; exact ⟨L,hL⟩
  ·simp only [fAw _ _ _ _ e] at hx; exact H.dom x o hx
 ·intro x k1 l1 L1 i v hx hL1 hi hv
  by_cases e : x = b
  ·subst e
   simp only [fAx,bB,Ob.row.injEq] at hx
   obtain ⟨rfl,rfl⟩:=hx
   rw [hL] at hL1; cases hL1
   by_cases hin : n ≤ i ∧ i < n + vs.length
   ·have hlt : i - n < vs.length:=by omega
    obtain ⟨h6,_⟩:=p4 (i - n) vs[i - n] (by simp [hlt])
    rw [show n + (i - n) = i from by omega,hi] at h6
    simp at h6
    obtain ⟨v',h7,h8⟩:=hvs.get (i - n) v (by simp [hlt,h6])
    have:=hw.new (i - n) v' h7
    rw [show n + (i - n) = i from by omega] at this
    exact ⟨v',this,h8⟩
   ·rw [p5 i (by omega)] at hi
    obtain ⟨v',h7,h8⟩:=H.cell x k l L i v hb hL hi hv
    refine ⟨v', ?_,h8⟩
    rw [hw.old _ (fun j hj e=>by have:=kB e; omega)]
    exact h7
  ·simp only [fAw _ _ _ _ e] at hx
   obtain ⟨v',h7,h8⟩:=H.cell x k1 l1 L1 i v hx hL1 hi hv
   refine ⟨v', ?_,h8⟩
   rw [hw.old _ (hother x _ e ⟨k1,l1,L1,hx,hL1,.inl ⟨i,v,hi,hv,rfl⟩⟩)]
   exact h7
 ·intro x l1 L1 es j hx hL1 hj
  by_cases e : x = b
  ·subst e
   simp only [fAx,bB,Ob.row.injEq] at hx
   obtain ⟨rfl,rfl⟩:=hx
   rw [hL] at hL1; cases hL1
   obtain ⟨v',h7⟩:=H.spare x l L es j hb hL hj
   rw [p1]
   refine ⟨v', ?_⟩
   rw [hw.old _ (fun j' hj' e=>by
    have h9:=kB e
    have : vs ≠ []:=by intro hv; subst hv; simp at hlen; omega
    have:=p2 this
    omega)]
   exact h7
  ·simp only [fAw _ _ _ _ e] at hx
   obtain ⟨v',h7⟩:=H.spare x l1 L1 es j hx hL1 hj
   refine ⟨v', ?_⟩
   rw [hw.old _ (hother x _ e ⟨_,l1,L1,hx,hL1,.inr ⟨es,j,rfl,hj,rfl⟩⟩)]
   exact h7
 ·intro x a hc hr
  rw [hw.frozen]
  exact H.free x a (hcl hc) (fun h=>hr ((hro x).2 h))
 ·intro x x' a hc hc' hr
  exact H.inj x x' a (hcl hc) (hcl hc') (fun h=>hr ((hro x).2 h))
 ·intro x l1 L1 hx hL1
  by_cases e : x = b
  ·subst e
   simp only [fAx,bB,Ob.row.injEq] at hx
   rw [hL] at hL1; cases hL1
   rcases hx with ⟨rfl,_⟩ | ⟨rfl,_⟩
   ·cases hk
   ·exact H.ex x l L (.inr hb) hL
  ·simp only [fAw _ _ _ _ e] at hx
   exact H.ex x l1 L1 hx hL1
 ·intro x es l1 i v hx hi
  by_cases e : x = b
  ·subst e
   simp only [fAx,bB,Ob.row.injEq] at hx
   obtain ⟨rfl,rfl⟩:=hx
   by_cases hin : n ≤ i ∧ i < n + vs.length
   ·have hlt : i - n < vs.length:=by omega
    obtain ⟨h6,_⟩:=p4 (i - n) vs[i - n] (by simp [hlt])
    rw [show n + (i - n) = i from by omega,hi] at h6
    simp at h6
    rw [h6]
    exact p3 _ (List.getElem_mem _)
   ·rw [p5 i (by omega)] at hi
    exact H.grone x es l i v hb hi
  ·simp only [fAw _ _ _ _ e] at hx
   exact H.grone x es l1 i v hx hi
 ·intro x o L1 h0 hx hL1
  by_cases e : x = b
  ·subst e; simp [fAx] at hx; subst hx; cases h0
  ·simp only [fAw _ _ _ _ e] at hx
   obtain ⟨h1,h2,bs,h3,h4⟩:=H.itr x o L1 h0 hx hL1
   exact ⟨h1,h2,bs,hw.kept _ _ h4.nc h3,h4⟩
 ·intro x o x' o' L1 L2 h0 h0' hx hx' h1 h2 he
  by_cases e : x = b
  ·subst e; simp [fAx] at hx; subst hx; cases h0
  ·by_cases e' : x' = b
   ·subst e'; simp [fAx] at hx'; subst hx'; cases h0'
   ·simp only [fAw _ _ _ _ e] at hx
    simp only [fAw _ _ _ _ e'] at hx'
    exact H.itj x o x' o' L1 L2 h0 h0' hx hx' h1 h2 he
theorem VRs.mem_one {ρ : Ren} : ∀ {x : List DV} {x' : List Value},VRs ρ x x' → (∀ v ∈ x,v.one = true) → ∀ v' ∈ x',bWl v' = true
 | _,_,.nil,_,v',h=>by simp at h
 | _,_,.cons x x' l l' hx hs,ho,v',h=>by
  simp at h
  rcases h with rfl | h
  ·exact hx.one (ho x (by simp))
  ·exact VRs.mem_one hs (fun v hv=>ho v (by simp [hv])) v' h
theorem gA {P : Program} {G : Gd} {ρ : Ren} {h h' : Hp} {w : World} (H : HR G ρ h w) {b : Pos} {o : Nat} {vs : List DV} {vs' : List Value} {L : Loc}
  (hs : fQ b o vs h = some h') (hL : ρ b = some L) (hvs : VRs ρ vs vs') :
  ∃ w',(storeCells (eX L o) vs' 0).run P w = .ok () w' ∧ HR G ρ h' w' ∧ Kp G w w':=by
 rw [cW] at hs
 simp only [putQ_eq] at hs
 split at hs
 ·rename_i k l hb
  split at hs
  ·rename_i hk
   split at hs
   ·rename_i l' hp
    simp at hs; subst hs
    obtain ⟨p1,p2,p3,p4,p5⟩:=kZ o l vs l' hp
    have hlen:=hvs.length
    have hro : ¬ isRo h b:=by
     rintro ⟨l0,h0⟩
     rw [hb] at h0; simp at h0
     rw [h0.1] at hk; cases hk
    have hcl : ∀ j,j < vs'.length → Claims ρ h b (eX L (o + j)):=by
     intro j hj
     have hj' : j < vs.length:=by omega
     obtain ⟨_,x0,hx0,ho⟩:=p4 j vs[j] (by simp [hj'])
     exact ⟨k,l,L,hb,hL,.inl ⟨o + j,x0,hx0,ho,rfl⟩⟩
    obtain ⟨w',h1,h2⟩:=iE (P:=P) (L:=L) vs' o 0 w (fun j hj=>by
     rw [Nat.add_zero]
     exact ⟨H.lt_cell (hcl j hj),(H.free b _ (hcl j hj) hro).1⟩) (hvs.mem_one p3)
    rw [Nat.add_zero] at h2
    refine ⟨w',h1,H.put hb hL hk hp hvs h2, ?_⟩
    by_cases hv : vs' = []
    ·subst hv
     have : w' = w:=by simp [storeCells] at h1; exact h1.symm
     rw [this]
     exact Kp.refl G w
    ·have h0 : 0 < vs'.length:=List.length_pos_iff.2 hv
     have:=(H.free b _ (hcl 0 h0) hro).2
     exact h2.below (by simpa [eX] using this)
   ·cases hs
  ·cases hs
 ·cases hs
end Go.Dd

namespace Go.Dd
open Go.RowKit (Below)
theorem lP : ∀ (o : Nat) (l : List DV),(bR o l).length = l.length ∧ ∀ (i : Nat) v,(bR o l)[i]? = some v → v.one = true → i < o ∧ l[i]? = some v
 | 0,l=>by
  refine ⟨by simp [bR],fun i v hi ho => ?_⟩
  simp [bR] at hi
  obtain ⟨_,_,rfl⟩:=hi
  cases ho
 | o + 1,[]=>by simp [bR]
 | o + 1,x :: l=>by
  obtain ⟨h1,h2⟩:=lP o l
  refine ⟨by simp [bR,h1],fun i v hi ho => ?_⟩
  cases i with
  | zero=>simp [bR] at hi; subst hi; simp
  | succ i =>
   simp [bR] at hi
   obtain ⟨h3,h4⟩:=h2 i v hi ho
   exact ⟨by omega,by simpa using h4⟩
theorem HR.regrow {G : Gd} {ρ : Ren} {h : Hp} {w w' : World} (H : HR G ρ h w) {b : Pos} {size : Nat} {l : List DV} {L : Loc} {o len cap n : Nat} {new : List DV} {new' : List Value} {old : List DV}
  (hb : h.bl.get b = some (.row (.gr size) l)) (hL : ρ b = some L) (hsz : 0 < size) (hend : o + cap * size = l.length) (hlen : len ≤ cap) (hmore : cap < len + n) (hroom : len + n ≤ cap + L.sp)
  (hold : old = (l.drop o).take (len * size)) (hnl : new.length = n * size) (hone : ∀ v ∈ new,v.one = true) (hvs : VRs ρ new new') (hw : Wrote w w' L (o + len * size) new') :
  HR G (mG ρ h.next ⟨L.bl,L.of + o,cap + L.sp - (len + n),if o = 0 then L.spot else none⟩) ⟨h.next.succ,Tr.set (.row (.gr size) (old ++ new)) h.next (Tr.set (.row .sp (bR o l)) b h.bl)⟩ w':=by
 have hbn : b ≠ h.next:=fun e=>by subst e; rw [H.fresh_get] at hb; cases hb
 have hext:=H.ext ⟨L.bl,L.of + o,cap + L.sp - (len + n),if o = 0 then L.spot else none⟩
 have hroB : ¬ isRo h b:=by rintro ⟨l0,h0⟩; rw [hb] at h0; simp at h0
 obtain ⟨k1,k2⟩:=lP o l
 have hnl':=hvs.length
 have e1 : len * size ≤ cap * size:=Nat.mul_le_mul_right _ hlen
 have e2 : (len + n) * size = len * size + n * size:=Nat.add_mul _ _ _
 have e3 : (cap + L.sp) * size = cap * size + L.sp * size:=Nat.add_mul _ _ _
 have e4 : (len + n) * size ≤ (cap + L.sp) * size:=Nat.mul_le_mul_right _ hroom
 have e5 : (cap + L.sp - (len + n)) * size = (cap + L.sp) * size - (len + n) * size:=Nat.sub_mul _ _ _
 have hol : old.length = len * size:=by rw [hold]; simp; omega
 have hadr : ∀ i,eX ⟨L.bl,L.of + o,cap + L.sp - (len + n),if o = 0 then L.spot else none⟩ i = eX L (o + i):=fun i=>by simp [eX,Nat.add_assoc]; by_cases hi : i = 0 <;> by_cases ho : o = 0 <;> simp [hi,ho]
 have hOC : ∀ i,i < l.length + L.sp * size → Claims ρ h b (eX L i):=by
  intro i hi
  by_cases hlt : i < l.length
  ·exact ⟨_,l,L,hb,hL,.inl ⟨i,l[i],by simp [hlt],H.grone b size l i _ hb (by simp [hlt]),rfl⟩⟩
  ·exact ⟨_,l,L,hb,hL,.inr ⟨size,i - l.length,rfl,by omega,by rw [show l.length + (i - l.length) = i from by omega]⟩⟩
 have g1 : ∀ x,x ≠ h.next → x ≠ b → (Tr.set (Ob.row (.gr size) (old ++ new)) h.next (Tr.set (.row .sp (bR o l)) b h.bl)).get x = h.bl.get x:=fun x hx hx'=>by
  rw [fAw _ _ _ _ hx,fAw _ _ _ _ hx']
 have g2 : (Tr.set (Ob.row (.gr size) (old ++ new)) h.next (Tr.set (.row .sp (bR o l)) b h.bl)).get b = some (.row .sp (bR o l)):=by
  rw [fAw _ _ _ _ hbn,fAx]
 have g3 : (Tr.set (Ob.row (.gr size) (old ++ new)) h.next (Tr.set (.row .sp (bR o l)) b h.bl)).get h.next = some (.row (.gr size) (old ++ new)):=fAx _ _ _
 have c1 : ∀ x a,x ≠ h.next → x ≠ b → Claims (mG ρ h.next ⟨L.bl,L.of + o,cap + L.sp - (len + n),if o = 0 then L.spot else none⟩) ⟨h.next.succ,Tr.set (.row (.gr size) (old ++ new)) h.next (Tr.set (.row .sp (bR o l)) b h.bl)⟩ x a → Claims ρ h x a:=by
  rintro x a hx hx' ⟨k',l',L',h1,h2,h3⟩
  simp only [g1 x hx hx'] at h1
  rw [aU _ _ hx] at h2
  exact ⟨k',l',L',h1,h2,h3⟩
 have c2 : ∀ a,Claims (mG ρ h.next ⟨L.bl,L.of + o,cap + L.sp - (len + n),if o = 0 then L.spot else none⟩) ⟨h.next.succ,Tr.set (.row (.gr size) (old ++ new)) h.next (Tr.set (.row .sp (bR o l)) b h.bl)⟩ b a → ∃ i,i < o ∧ a = eX L i ∧ Claims ρ h b a:=by
  rintro a ⟨k',l',L',h1,h2,h3⟩
  simp only [g2,bB,Ob.row.injEq] at h1
  obtain ⟨rfl,rfl⟩:=h1
  rw [aU _ _ hbn,hL] at h2
  cases h2
  rcases h3 with ⟨i,v,hi,hv,rfl⟩ | ⟨es,j,h4,hj,rfl⟩
  ·obtain ⟨h5,h6⟩:=k2 i v hi hv
   exact ⟨i,h5,rfl,hOC i (by omega)⟩
  ·cases h4
 have c3 : ∀ a,Claims (mG ρ h.next ⟨L.bl,L.of + o,cap + L.sp - (len + n),if o = 0 then L.spot else none⟩) ⟨h.next.succ,Tr.set (.row (.gr size) (old ++ new)) h.next (Tr.set (.row .sp (bR o l)) b h.bl)⟩ h.next a → ∃ i,o ≤ i ∧ a = eX L i ∧ Claims ρ h b a:=by
  rintro a ⟨k',l',L',h1,h2,h3⟩
  simp only [g3,bB,Ob.row.injEq] at h1
  obtain ⟨rfl,rfl⟩:=h1
  rw [bW] at h2
  cases h2
  rcases h3 with ⟨i,v,hi,hv,rfl⟩ | ⟨es,j,h4,hj,rfl⟩
  ·have hlt : i < (old ++ new).length:=by
    rcases Nat.lt_or_ge i (old ++ new).length with h | h
    ·exact h
    ·simp [List.getElem?_eq_none h] at hi
   simp only [List.length_append] at hlt
   rw [hadr]
   exact ⟨o + i,by omega,rfl,hOC _ (by omega)⟩
  ·cases h4
   simp only at hj
   rw [hadr]
   exact ⟨_,by omega,rfl,hOC _ (by simp only [List.length_append]; omega)⟩
 have hother : ∀ x a,x ≠ b → Claims ρ h x a → ∀ j,j < new'.length → a ≠ eX L (o + len * size + j):=by
  intro x a hx hc j hj e
  exact hx (H.inj b x a (e ▸ hOC _ (by omega)) hc hroB).symm
 have hron : ∀ x,isRo ⟨h.next.succ,Tr.set (.row (.gr size) (old ++ new)) h.next (Tr.set (.row .sp (bR o l)) b h.bl)⟩ x ↔ (isRo h x ∧ x ≠ h.next ∧ x ≠ b):=by
  intro x
  by_cases e : x = h.next
  ·subst e; simp [isRo,g3]
  ·by_cases e' : x = b
   ·subst e'; simp [isRo,g2]
   ·simp [isRo,g1 x e e',e,e']
 have hgl : ∀ k,k < G.B → w'.heap[k]? = G.W[k]? := by
  intro k hk
  have hlt : len * size < (len + n) * size:=Nat.mul_lt_mul_of_pos_right (by omega) hsz
  have hown:=(H.free b _ (hOC (o + len * size) (by omega)) hroB).2
  have hlb : G.B ≤ L.bl:=hown.1
  rw [hw.block k (by omega)]
  exact H.gl k hk
 refine { gl:=hgl,sz:=by rw [hw.size]; exact H.sz,nx:=by have:=H.nx; simp only [fBa]; omega,ro := ?_,dom := ?_,lt:=xP H _,cell := ?_,spare := ?_,free := ?_,inj := ?_,ex := ?_,grone := ?_,itr := ?_,itj := ?_ }
 ·intro x a hc hr
  obtain ⟨h1,h2,h3⟩:=(hron x).1 hr
  exact H.ro x a (c1 x a h2 h3 hc) h1
 ·intro x ob hx
  by_cases e : x = h.next
  ·subst e; exact ⟨_,bW _ _ _⟩
  ·rw [aU _ _ e]
   by_cases e' : x = b
   ·subst e'; exact ⟨L,hL⟩
   ·simp only [g1 x e e'] at hx; exact H.dom x ob hx
 ·intro x k' l' L' i v hx hL' hi hv
  by_cases e : x = h.next
  ·subst e
   simp only [g3,bB,Ob.row.injEq] at hx
   obtain ⟨rfl,rfl⟩:=hx
   rw [bW] at hL'
   cases hL'
   rw [hadr]
   by_cases hlt : i < old.length
   ·rw [List.getElem?_append_left hlt,hold,List.getElem?_take_of_lt (by omega),List.getElem?_drop] at hi
    obtain ⟨v',h5,h6⟩:=H.cell b _ l L (o + i) v hb hL hi hv
    refine ⟨v', ?_,h6.mono hext⟩
    rw [hw.old _ (fun j hj e=>by have:=kB e; omega)]
    exact h5
   ·rw [List.getElem?_append_right (by omega)] at hi
    obtain ⟨v',h5,h6⟩:=hvs.get _ v hi
    refine ⟨v', ?_,h6.mono hext⟩
    have:=hw.new _ v' h5
    rwa [show o + len * size + (i - old.length) = o + i from by omega] at this
  ·by_cases e' : x = b
   ·subst e'
    simp only [g2,bB,Ob.row.injEq] at hx
    obtain ⟨rfl,rfl⟩:=hx
    rw [aU _ _ e,hL] at hL'
    cases hL'
    obtain ⟨h5,h6⟩:=k2 i v hi hv
    obtain ⟨v',h7,h8⟩:=H.cell x _ l L i v hb hL h6 hv
    refine ⟨v', ?_,h8.mono hext⟩
    rw [hw.old _ (fun j hj e=>by have:=kB e; omega)]
    exact h7
   ·simp only [g1 x e e'] at hx
    rw [aU _ _ e] at hL'
    obtain ⟨v',h5,h6⟩:=H.cell x k' l' L' i v hx hL' hi hv
    refine ⟨v', ?_,h6.mono hext⟩
    rw [hw.old _ (hother x _ e' ⟨k',l',L',hx,hL',.inl ⟨i,v,hi,hv,rfl⟩⟩)]
    exact h5
 ·intro x l' L' es j hx hL' hj
  by_cases e : x = h.next
  ·subst e
   simp only [g3,bB,Ob.row.injEq,Kind.gr.injEq] at hx
   obtain ⟨rfl,rfl⟩:=hx
   rw [bW] at hL'
   cases hL'
   rw [hadr]
   simp only at hj
   have hidx : o + ((old ++ new).length + j) < l.length + L.sp * size:=by simp only [List.length_append]; omega
   obtain ⟨v',hv'⟩:=H.lt_cell (hOC _ hidx)
   refine ⟨v', ?_⟩
   rw [hw.old _ (fun j' hj' e=>by have:=kB e; simp only [List.length_append] at this; omega)]
   exact hv'
  ·by_cases e' : x = b
   ·subst e'
    simp only [g2,bB,Ob.row.injEq] at hx
    cases hx.1
   ·simp only [g1 x e e'] at hx
    rw [aU _ _ e] at hL'
    obtain ⟨v',h5⟩:=H.spare x l' L' es j hx hL' hj
    refine ⟨v', ?_⟩
    rw [hw.old _ (hother x _ e' ⟨_,l',L',hx,hL',.inr ⟨es,j,rfl,hj,rfl⟩⟩)]
    exact h5
 ·intro x a hc hr
  rw [hw.frozen]
  by_cases e : x = h.next
  ·subst e
   obtain ⟨i,_,_,h1⟩:=c3 a hc
   exact H.free b a h1 hroB
  ·by_cases e' : x = b
   ·subst e'
    obtain ⟨i,_,_,h1⟩:=c2 a hc
    exact H.free x a h1 hroB
   ·exact H.free x a (c1 x a e e' hc) (fun h=>hr ((hron x).2 ⟨h,e,e'⟩))
 ·intro x x' a hc hc' hr
  by_cases e : x = h.next
  ·subst e
   obtain ⟨i,hi,hai,h1⟩:=c3 a hc
   by_cases f : x' = h.next
   ·exact f.symm
   ·by_cases f' : x' = b
    ·subst f'
     obtain ⟨i',hi',hai',_⟩:=c2 a hc'
     rw [hai] at hai'
     have:=kB hai'
     omega
    ·exact absurd (H.inj b x' a h1 (c1 x' a f f' hc') hroB).symm f'
  ·by_cases e' : x = b
   ·subst e'
    obtain ⟨i,hi,hai,h1⟩:=c2 a hc
    by_cases f : x' = h.next
    ·subst f
     obtain ⟨i',hi',hai',_⟩:=c3 a hc'
     rw [hai] at hai'
     have:=kB hai'
     omega
    ·by_cases f' : x' = x
     ·exact f'.symm
     ·exact H.inj x x' a h1 (c1 x' a f f' hc') hroB
   ·have hx:=c1 x a e e' hc
    have hrx : ¬ isRo h x:=fun h=>hr ((hron x).2 ⟨h,e,e'⟩)
    by_cases f : x' = h.next
    ·subst f
     obtain ⟨i',_,_,h2⟩:=c3 a hc'
     exact absurd (H.inj x b a hx h2 hrx) e'
    ·by_cases f' : x' = b
     ·subst f'
      obtain ⟨i',_,_,h2⟩:=c2 a hc'
      exact H.inj x x' a hx h2 hrx
     ·exact H.inj x x' a hx (c1 x' a f f' hc') hrx
 ·intro x l' L' hx hL'
  by_cases e : x = h.next
  ·subst e; simp [g3] at hx
  ·by_cases e' : x = b
   ·subst e'; simp [g2] at hx
   ·simp only [g1 x e e'] at hx
    rw [aU _ _ e] at hL'
    exact H.ex x l' L' hx hL'
 ·intro x es l' i v hx hi
  by_cases e : x = h.next
  ·subst e
   simp only [g3,bB,Ob.row.injEq,Kind.gr.injEq] at hx
   obtain ⟨rfl,rfl⟩:=hx
   by_cases hlt : i < old.length
   ·rw [List.getElem?_append_left hlt,hold,List.getElem?_take_of_lt (by omega),List.getElem?_drop] at hi
    exact H.grone b size l _ v hb hi
   ·rw [List.getElem?_append_right (by omega)] at hi
    exact hone v (List.mem_of_getElem? hi)
  ·by_cases e' : x = b
   ·subst e'; simp [g2] at hx
   ·simp only [g1 x e e'] at hx
    exact H.grone x es l' i v hx hi
 ·intro x o L' h0 hx hL'
  by_cases e : x = h.next
  ·subst e; simp [g3] at hx; subst hx; cases h0
  ·by_cases e' : x = b
   ·subst e'; simp [g2] at hx; subst hx; cases h0
   ·simp only [g1 x e e'] at hx
    rw [aU _ _ e] at hL'
    obtain ⟨h1,h2,bs,h3,h4⟩:=H.itr x o L' h0 hx hL'
    exact ⟨h1,h2,bs,hw.kept _ _ h4.nc h3,h4.mono (H.ext _)⟩
 ·intro x o x' o' L1 L2 h0 h0' hx hx' h1 h2 he
  by_cases e : x = h.next
  ·subst e; simp [g3] at hx; subst hx; cases h0
  ·by_cases e' : x = b
   ·subst e'; simp [g2] at hx; subst hx; cases h0
   ·by_cases f : x' = h.next
    ·subst f; simp [g3] at hx'; subst hx'; cases h0'
    ·by_cases f' : x' = b
     ·subst f'; simp [g2] at hx'; subst hx'; cases h0'
     ·simp only [g1 x e e'] at hx
      simp only [g1 x' f f'] at hx'
      rw [aU _ _ e] at h1
      rw [aU _ _ f] at h2
      exact H.itj x o x' o' L1 L2 h0 h0' hx hx' h1 h2 he
theorem HR.newSg {G : Gd} {ρ : Ren} {h : Hp} {w : World} (H : HR G ρ h w) (ob : Ob) (hsg : ob.sg = true) (xo : Obj) (hs : SgR ρ ob xo) :
  HR G (mG ρ h.next ⟨w.heap.size,0,0,none⟩) ⟨h.next.succ,Tr.set ob h.next h.bl⟩ (w.alloc xo):=by
 have hext:=H.ext ⟨w.heap.size,0,0,none⟩
 have hno : ∀ a,¬ Claims (mG ρ h.next ⟨w.heap.size,0,0,none⟩) ⟨h.next.succ,Tr.set ob h.next h.bl⟩ h.next a:=by
  rintro a ⟨k',l',L',h1,h2,h3⟩
  simp [fAx] at h1
  subst h1; cases hsg
 have hold : ∀ b a,b ≠ h.next → Claims (mG ρ h.next ⟨w.heap.size,0,0,none⟩) ⟨h.next.succ,Tr.set ob h.next h.bl⟩ b a → a.block < w.heap.size:=by
  intro b a hb hc
  obtain ⟨v,hv⟩:=H.lt_cell (fBb hb hc)
  exact eA hv
 have hblk : ∀ b o L,o.sg = true → h.bl.get b = some o → ρ b = some L → L.bl < w.heap.size:=by
  intro b o L h0 hb hL
  obtain ⟨h1,h2,bs,h3,h4⟩:=H.itr b o L h0 hb hL
  rcases Nat.lt_or_ge L.bl w.heap.size with h | h
  ·exact h
  ·simp [Array.getElem?_eq_none h] at h3
 refine { gl:=fun k hk=>by rw [Below.heap_alloc _ _ _ (Nat.lt_of_lt_of_le hk H.sz.1)]; exact H.gl k hk,sz := ?_,nx := ?_,ro := ?_,dom := ?_,lt:=xP H _,cell := ?_,spare := ?_,free := ?_,inj := ?_,ex := ?_,grone := ?_,itr := ?_,itj := ?_ }
 ·obtain ⟨h1,h2⟩:=H.sz
  refine ⟨by simp; omega,fun k hk => ?_⟩
  have:=h2 k hk
  simp; omega
 ·have:=H.nx; simp only [fBa]; omega
 ·intro b a hc hr
  by_cases e : b = h.next
  ·subst e; exact absurd hc (hno a)
  ·exact H.ro b a (fBb e hc) ((iG e).1 hr)
 ·intro b o hb
  by_cases e : b = h.next
  ·subst e; exact ⟨_,bW _ _ _⟩
  ·rw [aU _ _ e]; simp only [fAw _ _ _ _ e] at hb; exact H.dom b o hb
 ·intro b k' l' L' i v hb hL hi hv
  by_cases e : b = h.next
  ·subst e; simp [fAx] at hb; subst hb; cases hsg
  ·simp only [fAw _ _ _ _ e] at hb
   rw [aU _ _ e] at hL
   obtain ⟨v',h5,h6⟩:=H.cell b k' l' L' i v hb hL hi hv
   exact ⟨v',by rw [dP (eA h5)]; exact h5,h6.mono hext⟩
 ·intro b l' L' es j hb hL hj
  by_cases e : b = h.next
  ·subst e; simp [fAx] at hb; subst hb; cases hsg
  ·simp only [fAw _ _ _ _ e] at hb
   rw [aU _ _ e] at hL
   obtain ⟨v',h5⟩:=H.spare b l' L' es j hb hL hj
   exact ⟨v',by rw [dP (eA h5)]; exact h5⟩
 ·intro b a hc hr
  by_cases e : b = h.next
  ·subst e; exact absurd hc (hno a)
  ·have hlt:=hold b a e hc
   have:=H.free b a (fBb e hc) (fun h=>hr ((iG e).2 h))
   rw [gJ (by omega)]
   exact this
 ·intro b b' a hc hc' hr
  by_cases e : b = h.next
  ·subst e; exact absurd hc (hno a)
  ·by_cases e' : b' = h.next
   ·subst e'; exact absurd hc' (hno a)
   ·exact H.inj b b' a (fBb e hc) (fBb e' hc') (fun h=>hr ((iG e).2 h))
 ·intro b l' L' hb hL
  by_cases e : b = h.next
  ·subst e; simp [fAx] at hb; rcases hb with hb | hb <;> (subst hb; cases hsg)
  ·simp only [fAw _ _ _ _ e] at hb
   rw [aU _ _ e] at hL
   exact H.ex b l' L' hb hL
 ·intro b es l' i v hb hi
  by_cases e : b = h.next
  ·subst e; simp [fAx] at hb; subst hb; cases hsg
  ·simp only [fAw _ _ _ _ e] at hb
   exact H.grone b es l' i v hb hi
 ·intro b o L' h0 hb hL
  by_cases e : b = h.next
  ·subst e
   simp only [fAx,bB] at hb
   subst hb
   rw [bW] at hL
   cases hL
   refine ⟨H.own_new,⟨rfl,rfl⟩,xo, ?_,hs.mono hext⟩
   show (w.heap.push _)[w.heap.size]? = _
   simp
  ·simp only [fAw _ _ _ _ e] at hb
   rw [aU _ _ e] at hL
   obtain ⟨h1,h2,bs,h3,h4⟩:=H.itr b o L' h0 hb hL
   refine ⟨h1,h2,bs, ?_,h4.mono hext⟩
   rw [Below.heap_alloc _ _ _ (hblk b o L' h0 hb hL)]
   exact h3
 ·intro b o b' o' L1 L2 h0 h0' hb hb' hL hL' he
  by_cases e : b = h.next
  ·by_cases e' : b' = h.next
   ·rw [e,e']
   ·subst e
    simp only [fAw _ _ _ _ e'] at hb'
    rw [bW] at hL
    cases hL
    rw [aU _ _ e'] at hL'
    have:=hblk b' o' L2 h0' hb' hL'
    simp at he
    omega
  ·by_cases e' : b' = h.next
   ·subst e'
    simp only [fAw _ _ _ _ e] at hb
    rw [bW] at hL'
    cases hL'
    rw [aU _ _ e] at hL
    have:=hblk b o L1 h0 hb hL
    simp at he
    omega
   ·simp only [fAw _ _ _ _ e] at hb
    simp only [fAw _ _ _ _ e'] at hb'
    rw [aU _ _ e] at hL
    rw [aU _ _ e'] at hL'
    exact H.itj b o b' o' L1 L2 h0 h0' hb hb' hL hL' he
theorem HR.newIter {G : Gd} {ρ : Ren} {h : Hp} {w : World} (H : HR G ρ h w) (s : List Nat) (bs : ByteArray) (hs : bs.data.toList.map (·.toNat) = s) :
  HR G (mG ρ h.next ⟨w.heap.size,0,0,none⟩) ⟨h.next.succ,Tr.set (.it s 0) h.next h.bl⟩ (w.alloc (.stringIter bs 0)):=H.newSg _ rfl _ ⟨bs,rfl,hs⟩
theorem HR.setSg {G : Gd} {ρ : Ren} {h : Hp} {w : World} (H : HR G ρ h w) {b : Pos} {ob ob1 : Ob} {xo xo1 : Obj} {L : Loc} (hsg : ob.sg = true) (hsg1 : ob1.sg = true)
  (hb : h.bl.get b = some ob) (hL : ρ b = some L) (hbs : w.heap[L.bl]? = some xo) (hnc : nc xo) (hs : SgR ρ ob1 xo1) :
  HR G ρ ⟨h.next,Tr.set ob1 b h.bl⟩ { w with heap:=w.heap.setIfInBounds L.bl xo1 } ∧ Kp G w { w with heap:=w.heap.setIfInBounds L.bl xo1 }:=by
 obtain ⟨hB,_,_⟩:=H.itr b ob L hsg hb hL
 have hlt : L.bl < w.heap.size:=by
  rcases Nat.lt_or_ge L.bl w.heap.size with h | h
  ·exact h
  ·simp [Array.getElem?_eq_none h] at hbs
 have hcell : ∀ a v,w.cell? a = some v → ({ w with heap:=w.heap.setIfInBounds L.bl xo1 } : World).cell? a = some v:=by
  intro a v ha
  have hne : L.bl ≠ a.block:=by
   intro e
   exact bJt ha (by rw [← e]; exact hbs) hnc
  unfold World.cell? at ha ⊢
  rw [Array.getElem?_setIfInBounds_ne hne]
  exact ha
 have hfro : ∀ a v,w.cell? a = some v → ({ w with heap:=w.heap.setIfInBounds L.bl xo1 } : World).frozen? a = w.frozen? a:=by
  intro a v ha
  have hne : L.bl ≠ a.block:=by
   intro e
   exact bJt ha (by rw [← e]; exact hbs) hnc
  unfold World.frozen?
  rw [Array.getElem?_setIfInBounds_ne hne]
 have hcl : ∀ {x a},Claims ρ ⟨h.next,Tr.set ob1 b h.bl⟩ x a → Claims ρ h x a:=by
  rintro x a ⟨k',l',L',h1,h2,h3⟩
  by_cases e : x = b
  ·subst e; simp [fAx] at h1; subst h1; cases hsg1
  ·simp only [fAw _ _ _ _ e] at h1
   exact ⟨k',l',L',h1,h2,h3⟩
 have hro : ∀ x,isRo ⟨h.next,Tr.set ob1 b h.bl⟩ x ↔ isRo h x:=by
  intro x
  by_cases e : x = b
  ·subst e
   simp only [isRo,fAx,hb,bB]
   exact ⟨fun ⟨l0,h0⟩=>by (subst h0; cases hsg1),fun ⟨l0,h0⟩=>by (subst h0; cases hsg)⟩
  ·simp [isRo,fAw _ _ _ _ e]
 have hgl : ∀ k,k < G.B → ({ w with heap:=w.heap.setIfInBounds L.bl xo1 } : World).heap[k]? = G.W[k]? := by
  intro k hk
  have hlb : G.B ≤ L.bl:=hB.1
  have : (w.heap.setIfInBounds L.bl xo1)[k]? = w.heap[k]? := by
   rw [Array.getElem?_setIfInBounds]
   rw [if_neg (by omega)]
  exact this.trans (H.gl k hk)
 refine ⟨{ gl:=hgl,sz:=by simpa using H.sz,nx:=H.nx,ro:=fun x a hc hr=>H.ro x a (hcl hc) ((hro x).1 hr),dom := ?_,lt:=H.lt,cell := ?_,spare := ?_,free := ?_,inj := ?_,ex := ?_,grone := ?_,itr := ?_,itj := ?_ }, ?_⟩
 ·intro x o hx
  by_cases e : x = b
  ·subst e; exact ⟨L,hL⟩
  ·simp only [fAw _ _ _ _ e] at hx; exact H.dom x o hx
 ·intro x k1 l1 L1 i v hx hL1 hi hv
  by_cases e : x = b
  ·subst e; simp [fAx] at hx; subst hx; cases hsg1
  ·simp only [fAw _ _ _ _ e] at hx
   obtain ⟨v',h7,h8⟩:=H.cell x k1 l1 L1 i v hx hL1 hi hv
   exact ⟨v',hcell _ _ h7,h8⟩
 ·intro x l1 L1 es j hx hL1 hj
  by_cases e : x = b
  ·subst e; simp [fAx] at hx; subst hx; cases hsg1
  ·simp only [fAw _ _ _ _ e] at hx
   obtain ⟨v',h7⟩:=H.spare x l1 L1 es j hx hL1 hj
   exact ⟨v',hcell _ _ h7⟩
 ·intro x a hc hr
  obtain ⟨v,hv⟩:=H.lt_cell (hcl hc)
  rw [hfro a v hv]
  exact H.free x a (hcl hc) (fun h=>hr ((hro x).2 h))
 ·intro x x' a hc hc' hr
  exact H.inj x x' a (hcl hc) (hcl hc') (fun h=>hr ((hro x).2 h))
 ·intro x l1 L1 hx hL1
  by_cases e : x = b
  ·subst e; simp [fAx] at hx; rcases hx with hx | hx <;> (subst hx; cases hsg1)
  ·simp only [fAw _ _ _ _ e] at hx
   exact H.ex x l1 L1 hx hL1
 ·intro x es l1 i v hx hi
  by_cases e : x = b
  ·subst e; simp [fAx] at hx; subst hx; cases hsg1
  ·simp only [fAw _ _ _ _ e] at hx
   exact H.grone x es l1 i v hx hi
 ·intro x o L1 h0 hx hL1
  by_cases e : x = b
  ·subst e
   simp only [fAx,bB] at hx
   subst hx
   rw [hL] at hL1; cases hL1
   obtain ⟨h1,h2,_⟩:=H.itr x ob L hsg hb hL
   exact ⟨h1,h2,xo1,by simp [hlt],hs⟩
  ·simp only [fAw _ _ _ _ e] at hx
   obtain ⟨h1,h2,bs1,h3,h4⟩:=H.itr x o L1 h0 hx hL1
   have hne : L.bl ≠ L1.bl:=fun he=>e (H.itj b ob x o L L1 hsg h0 hb hx hL hL1 he).symm
   exact ⟨h1,h2,bs1,by rw [Array.getElem?_setIfInBounds_ne hne]; exact h3,h4⟩
 ·intro x o x' o' L1 L2 h0 h0' hx hx' h1 h2 he
  have hx0 : ∃ o,o.sg = true ∧ h.bl.get x = some o:=by
   by_cases e : x = b
   ·subst e; exact ⟨_,hsg,hb⟩
   ·simp only [fAw _ _ _ _ e] at hx; exact ⟨_,h0,hx⟩
  have hx1 : ∃ o,o.sg = true ∧ h.bl.get x' = some o:=by
   by_cases e : x' = b
   ·subst e; exact ⟨_,hsg,hb⟩
   ·simp only [fAw _ _ _ _ e] at hx'; exact ⟨_,h0',hx'⟩
  obtain ⟨_,hx0',hx0⟩:=hx0
  obtain ⟨_,hx1',hx1⟩:=hx1
  exact H.itj x _ x' _ L1 L2 hx0' hx1' hx0 hx1 h1 h2 he
 ·refine ⟨⟨rfl,rfl,rfl,by simp,fun k hk => ?_⟩,fun k hk => ?_⟩
  ·rw [Array.getElem?_setIfInBounds_ne (by have:=hB.1; omega)]
  ·show (w.heap.setIfInBounds L.bl _)[k]? = _
   rw [Array.getElem?_setIfInBounds_ne (fun (e : L.bl = k)=>hB.2 (by rw [e]; exact hk))]
end Go.Dd

namespace Go.Dd
open Go.RowKit (Below)
section
variable {P : Program} {w : World}
theorem rU {t : TypeId} {d : TypeDesc} (h : P.underlying t = some d) : (underlying t).run P w = .ok d w:=by simp [underlying,h]
theorem rI {t : TypeId} {i : TypeInfo} (h : P.info? t = some i) : (typeInfo t).run P w = .ok i w:=by simp [typeInfo,h]
theorem rZ {t : TypeId} {i : TypeInfo} {z : Value} (h : P.info? t = some i) (hz : i.zero = some z) : (zeroValue t).run P w = .ok z w:=by simp [zeroValue,rI h,hz]
theorem rS {t : TypeId} {i : TypeInfo} (h : P.info? t = some i) : (sizeOf t).run P w = .ok i.size w:=by simp [sizeOf,rI h]
theorem rA {t : TypeId} {d : TypeDesc} (h : P.underlying t = some d) : (isAgg t).run P w = .ok (kA d) w:=by
 simp only [isAgg,Sem.run_bind,rU h,Result.andThen_ok]
 cases d <;> rfl
end
def SemOk (P : Program) (G : Gd) (ρ : Ren) (w : World) (v : DV) (h1 : Hp) (s : Sem Value) : Prop :=
 ∃ ρ' w' v',s.run P w = .ok v' w' ∧ Ex G ρ ρ' ∧ VR ρ' v v' ∧ HR G ρ' h1 w' ∧ Kp G w w'
theorem SemOk.pure {P : Program} {G : Gd} {ρ : Ren} {w : World} {v : DV} {h : Hp} (H : HR G ρ h w) {v' : Value} (hv : VR ρ v v') {s : Sem Value} (hs : s.run P w = .ok v' w) : SemOk P G ρ w v h s :=
 ⟨ρ,w,v',hs,Ex.refl G ρ,hv,H,Kp.refl G w⟩
section
variable {P : Program} {G : Gd} {ρ : Ren} {w : World} {h h1 : Hp} {v : DV}
theorem cOk (H : HR G ρ h w) (cs : List DV) (arr : Array Value) (t : TypeId) (hcs : VRs ρ cs arr.toList) (hp : bQ cs h = some (v,h1)) :
  SemOk P G ρ w v h1 (do pure (.pointer (some (← newRow t arr)))):=by
 simp only [bQ,bB,bN] at hp
 obtain ⟨rfl,rfl⟩:=hp
 refine ⟨_,w.alloc (.cells arr t),.pointer (some ⟨w.heap.size,0,none⟩), ?_,H.exx _,.p _ 0 ⟨w.heap.size,0,0,none⟩ (bW _ _ _),H.newRow .ex cs arr.toList arr t 0 hcs (fun i v hi=>by simpa using hi) (.inl ⟨rfl,rfl⟩),dB H.sz _⟩
 simp [newRow]
theorem cEp (H : HR G ρ h w) {t : TypeId} {i : TypeInfo} {z : Value} (hi : P.info? t = some i) (hz : i.zero = some z) (hp : bQ (pD z) h = some (v,h1)) :
  SemOk P G ρ w v h1 (Instr.alloc t true (.tuple #[])):=by
 obtain ⟨ρ',w',v',h1',h2,h3,h4,h5⟩:=cOk (P:=P) H (pD z) z.cells t (fCf ρ z) hp
 refine ⟨ρ',w',v', ?_,h2,h3,h4,h5⟩
 simp only [Instr.alloc,Sem.run_bind,rZ hi hz,Result.andThen_ok]
 simpa [newVar] using h1'
theorem eDx (H : HR G ρ h w) {t : TypeId} {x : DV} {x' : Value} (hx : VR ρ x x') (hp : bZ x h = some (v,h1)) : SemOk P G ρ w v h1 (Instr.box t x'):=by
 unfold bZ at hp
 split at hp
 ·rename_i cs hc
  obtain ⟨ρ',w',v',h1',h2,h3,h4,h5⟩:=cOk (P:=P) H cs x'.cells t (hx.cells hc) hp
  exact ⟨ρ',w',v',by simpa [Instr.box,newVar] using h1',h2,h3,h4,h5⟩
 ·cases hp
theorem mN : ∀ (n : Nat) (l cs : List DV),rV n l = some cs → cs.length = n ∧ n ≤ l.length ∧ cs = l.take n ∧ ∀ v ∈ cs,v.one = true
 | 0,l,cs,h=>by simp [rV] at h; subst h; simp
 | n + 1,[],cs,h=>by simp [rV] at h
 | n + 1,x :: l,cs,h=>by
  simp only [rV] at h
  split at h
  ·rename_i hx
   cases ht : rV n l with
   | none=>rw [ht] at h; simp at h
   | some c =>
    rw [ht] at h; simp at h; subst h
    obtain ⟨h1,h2,h3,h4⟩:=mN n l c ht
    refine ⟨by simp [h1],by simp; exact h2,by simp [h3], ?_⟩
    intro v hv
    simp at hv
    rcases hv with rfl | hv
    ·exact hx
    ·exact h4 v hv
  ·cases h
theorem dO (H : HR G ρ h w) {b : Pos} {o n : Nat} {cs : List DV} {L : Loc} (hc : cellsAt b o n h = some cs) (hL : ρ b = some L) :
  cs.length = n ∧ (∀ v ∈ cs,v.one = true) ∧ (∃ k l,h.bl.get b = some (.row k l) ∧ cs = (l.drop o).take n ∧ n ≤ (l.drop o).length) ∧
  ∃ vs : List Value,VRs ρ cs vs ∧ vs.length = n ∧ ∀ (j : Nat) v,vs[j]? = some v → w.cell? (eX L (o + j)) = some v:=by
 unfold cellsAt at hc
 rw [cQ] at hc
 simp only [dropD_eq] at hc
 split at hc
 ·rename_i l hl
  split at hl
  ·rename_i k l0 hb
   simp at hl; subst hl
   obtain ⟨h1,h2,h3,h4⟩:=mN n _ cs hc
   refine ⟨h1,h4,⟨k,l0,hb,h3,h2⟩, ?_⟩
   have hcell : ∀ (j : Nat) x,cs[j]? = some x → ∃ v',w.cell? (eX L (o + j)) = some v' ∧ VR ρ x v':=by
    intro j x hj
    have ho:=h4 x (List.mem_of_getElem? hj)
    have hlt : j < n:=by
     rcases Nat.lt_or_ge j n with h | h
     ·exact h
     ·rw [List.getElem?_eq_none (by omega)] at hj; cases hj
    rw [h3,List.getElem?_take_of_lt hlt,List.getElem?_drop] at hj
    exact H.cell b k l0 L (o + j) x hb hL hj ho
   clear hc h3 h2
   subst h1
   clear h4
   induction cs generalizing o with
   | nil=>exact ⟨[],.nil,rfl,by simp⟩
   | cons x cs ih =>
    obtain ⟨v',h5,h6⟩:=hcell 0 x (by simp)
    obtain ⟨vs,h7,h8,h9⟩:=ih (o:=o + 1) (fun j y hj=>by have:=hcell (j + 1) y (by simpa using hj); rwa [show o + (j + 1) = o + 1 + j from by omega] at this)
    refine ⟨v' :: vs,.cons _ _ _ _ h6 h7,by simp [h8],fun j y hj => ?_⟩
    cases j with
    | zero=>simp at hj; subst hj; simpa using h5
    | succ j=>simp at hj; have:=h9 j y hj; rwa [show o + 1 + j = o + (j + 1) from by omega] at this
  ·cases hl
 ·cases hc
theorem cK {a : Addr} {L : Loc} {o : Nat} (vs : List Value) (ha : a = eX L o) (hc : ∀ (j : Nat) v,vs[j]? = some v → w.cell? (eX L (o + j)) = some v) :
  (loadCells a vs.length).run P w = .ok vs.toArray w:=by
 subst ha
 exact run_loadCells_list (P:=P) (w:=w) (eX L o) vs fun j v hj=>by rw [fX]; exact hc j v hj
theorem cDu (H : HR G ρ h w) {t : TypeId} {d : TypeDesc} {x : DV} {x' : Value} (ht : P.underlying t = some d) (hd : kA d = false) (hx : VR ρ x x') (hp : aA x h = some (v,h1)) :
  SemOk P G ρ w v h1 (Instr.loadAt t x'):=by
 rw [cO] at hp
 split at hp
 ·rename_i b o
  split at hp
  ·rename_i u hc
   simp at hp
   obtain ⟨rfl,rfl⟩:=hp
   cases hx with
   | p _ _ L hL =>
    rw [dD] at hc
    rw [cQ] at hc
    simp only [nthD_eq] at hc
    split at hc
    ·rename_i l hl
     split at hl
     ·rename_i k l0 hb
      simp at hl; subst hl
      split at hc
      ·rename_i u0 hu
       split at hc
       ·rename_i ho
        simp at hc; subst hc
        obtain ⟨v',h5,h6⟩:=H.cell b k l0 L o u0 hb hL hu ho
        refine SemOk.pure H h6 ?_
        simp only [Instr.loadAt,Instr.sureAddr,Sem.run_bind,Sem.run_pure,Result.andThen_ok,loadVar,rA ht,hd]
        simp [h5]
       ·cases hc
      ·cases hc
     ·cases hl
    ·cases hc
  ·cases hp
 ·cases hp
theorem cTk (H : HR G ρ h w) {t : TypeId} {d : TypeDesc} {i : TypeInfo} {x : DV} {x' : Value} (ht : P.underlying t = some d) (hi : P.info? t = some i) (hd : kA d = true) (hx : VR ρ x x') (hp : aK i.size x h = some (v,h1)) :
  SemOk P G ρ w v h1 (Instr.loadAt t x'):=by
 rw [eH] at hp
 split at hp
 ·rename_i b o
  split at hp
  ·rename_i cs hc
   simp at hp
   obtain ⟨rfl,rfl⟩:=hp
   cases hx with
   | p _ _ L hL =>
    obtain ⟨h1,h2,_,vs,h4,h5,h6⟩:=dO H hc hL
    refine SemOk.pure H (.a cs vs.toArray (by simpa using h4)) ?_
    have:=cK (P:=P) vs rfl h6
    rw [h5] at this
    simp only [Instr.loadAt,Instr.sureAddr,Sem.run_bind,Sem.run_pure,Result.andThen_ok,loadVar,rA ht,hd,if_true,rS hi,this]
  ·cases hp
 ·cases hp
theorem cVd (H : HR G ρ h w) {t : TypeId} {i : TypeInfo} {x y : DV} {x' y' : Value} (hi : P.info? t = some i) (hx : VR ρ x x') (hy : VR ρ y y') (hp : aJ i.size x y h = some (v,h1)) :
  v = aT ∧ ∃ w',(Instr.storeAt t x' y').run P w = .ok () w' ∧ HR G ρ h1 w' ∧ Kp G w w':=by
 rw [eM] at hp
 split at hp
 ·rename_i b o cs hc
  split at hp
  ·rename_i hl
   split at hp
   ·rename_i h' hs
    simp at hp
    obtain ⟨rfl,rfl⟩:=hp
    cases hx with
    | p _ _ L hL =>
     have hcs:=hy.cells hc
     obtain ⟨w',h3,h4,h5⟩:=gA (P:=P) H hs hL hcs
     refine ⟨rfl,w', ?_,h4,h5⟩
     have hlen:=hcs.length
     have hne : ¬ y'.cells.size ≠ i.size:=by simp at hlen; omega
     simp only [Instr.storeAt,Instr.sureAddr,Sem.run_bind,Sem.run_pure,Result.andThen_ok,storeVar,rS hi]
     rw [if_neg hne]
     simpa using h3
   ·cases hp
  ·cases hp
 ·cases hp
theorem aGe (off : Nat) : ∀ (l : List Value) (k : Nat) (cs : Array Value),off + k + l.length ≤ cs.size →
  ((l.zipIdx k).foldl (fun cs (c : Value × Nat)=>cs.setIfInBounds (off + c.2) c.1) cs).toList = cs.toList.take (off + k) ++ l ++ cs.toList.drop (off + k + l.length)
 | [],k,cs,h=>by simp
 | x :: l,k,cs,h=>by
  simp only [List.zipIdx_cons,List.foldl_cons]
  simp only [List.length_cons] at h
  rw [aGe off l (k + 1) _ (by simp; omega)]
  simp only [Array.toList_setIfInBounds,List.length_cons]
  rw [show off + (k + 1) = (off + k) + 1 from by omega]
  have hlt : off + k < cs.toList.length:=by simp; omega
  rw [List.take_succ_eq_append_getElem (by simpa using hlt)]
  simp only [List.take_set,List.getElem_set_self,List.append_assoc,List.singleton_append]
  congr 1
  ·rw [List.set_eq_of_length_le (by simp; omega)]
  ·rw [show off + k + 1 + l.length = off + k + (l.length + 1) from by omega]
   rw [List.drop_set_of_lt (by omega)]
theorem aIu {place : Nat → Option (Nat × Nat)} : ∀ (l : List (Nat × DV)) (l' : List (Nat × Value)) (cells : List DV) (cells' : Array Value) (q : List (Nat × Nat × DV)) (out : List DV),
  l.map (·.1) = l'.map (·.1) → VRs ρ (l.map (·.2)) (l'.map (·.2)) → VRs ρ cells cells'.toList →
  l.mapM (fun (x : Nat × DV)=>(place x.1).map fun s=>(s.1,s.2,x.2)) = some q → nD cells q = some out →
  ∃ out',Instr.fill place cells' l' = some out' ∧ VRs ρ out out'.toList
 | [],l',cells,cells',q,out,hi,hv,hc,hq,hf=>by
  cases l' with
  | cons=>simp at hi
  | nil=>simp at hq; subst hq; simp [nD] at hf; subst hf; exact ⟨cells',by simp [Instr.fill],hc⟩
 | (i, x) :: l, l', cells, cells', q, out, hi, hv, hc, hq, hf => by
  cases l' with
  | nil=>simp at hi
  | cons y l' =>
   obtain ⟨i',x'⟩:=y
   simp at hi
   obtain ⟨rfl,hi⟩:=hi
   simp only [List.map_cons] at hv
   cases hv with
   | cons _ _ _ _ hx hs =>
    simp only [List.mapM_cons] at hq
    cases hp : place i with
    | none=>simp [hp] at hq
    | some s =>
     obtain ⟨off,size⟩:=s
     simp only [hp,Option.map_some,Option.bind_eq_bind,Option.bind_some] at hq
     cases hm : l.mapM (fun (x : Nat × DV)=>(place x.1).map fun s=>(s.1,s.2,x.2)) with
     | none=>simp [hm] at hq
     | some q1 =>
      simp [hm] at hq
      subst hq
      simp only [nD] at hf
      cases hcs : dJ x with
      | none=>simp [hcs] at hf
      | some cs =>
       simp only [hcs] at hf
       split at hf
       ·rename_i hle
        obtain ⟨hl1,hl2⟩:=hle
        have hxc:=hx.cells hcs
        have hxl:=hxc.length
        have hcl:=hc.length
        simp only [Array.length_toList] at hxl hcl
        have hnew : VRs ρ (cells.take off ++ cs ++ cells.drop (off + size)) (x'.cells.zipIdx.foldl (fun cs (c : Value × Nat)=>cs.setIfInBounds (off + c.2) c.1) cells').toList:=by
         rw [← Array.foldl_toList,Array.toList_zipIdx,aGe off x'.cells.toList 0 cells' (by simp; omega)]
         simp only [Nat.add_zero,Array.length_toList]
         rw [show off + x'.cells.size = off + size from by omega]
         exact ((hc.take off).append hxc).append (hc.drop (off + size))
        obtain ⟨out',h3,h4⟩:=aIu l l' _ _ q1 out hi hs hnew hm hf
        refine ⟨out', ?_,h4⟩
        simp only [Instr.fill,hp]
        have hne : (decide (x'.cells.size ≠ size) || decide (off + x'.cells.size > cells'.size)) = false:=by
         simp; omega
        rw [if_neg (by rw [hne]; simp)]
        exact h3
       ·cases hf
end
end Go.Dd

namespace Go.Dd
open Go.RowKit (Below)
section
variable {P : Program} {G : Gd} {ρ : Ren} {w : World} {h h1 : Hp} {v : DV}
theorem fCc {env : aZ} {ev : Operand → Value} (he : ∀ x,VR ρ (opr env x) (ev x)) : ∀ l : List (Nat × Operand),VRs ρ (l.map fun q=>opr env q.2) (l.map fun q=>ev q.2)
 | []=>.nil
 | x :: l=>.cons _ _ _ _ (he x.2) (fCc he l)
theorem tU {α β γ : Type} (f : α → β) (g : β → Option γ) : ∀ l : List α,l.mapM (fun x=>g (f x)) = (l.map f).mapM g
 | []=>rfl
 | x :: l=>by simp only [List.map_cons,List.mapM_cons]; rw [tU f g l]
theorem cVg (H : HR G ρ h w) {t : TypeId} {fs : Array Field} {i : TypeInfo} {z : Value} {pl : List (Nat × Nat)} {ps : Array (Nat × Operand)} {env : aZ} {ev : Operand → Value} {l : List (Nat × Nat × DV)}
  (he : ∀ x,VR ρ (opr env x) (ev x)) (ht : P.underlying t = some (.struct fs)) (hi : P.info? t = some i) (hz : i.zero = some z)
  (hpl : fs.toList.mapM (fun f=>(P.info? f.type).map fun fi=>(f.offset,fi.size)) = some pl)
  (hl : ps.toList.mapM (fun (q : Nat × Operand)=>(pl[q.1]?).map fun s=>(s.1,s.2,opr env q.2)) = some l) (hp : aY (pD z) l h = some (v,h1)) :
  SemOk P G ρ w v h1 (Instr.build t (ps.map fun (q : Nat × Operand)=>(q.1,ev q.2))):=by
 unfold aY at hp
 split at hp
 ·rename_i cs hf
  simp at hp
  obtain ⟨rfl,rfl⟩:=hp
  have hl' : (ps.toList.map fun q=>(q.1,opr env q.2)).mapM (fun (x : Nat × DV)=>((fun j=>pl.toArray[j]?) x.1).map fun s=>(s.1,s.2,x.2)) = some l:=by
   rw [← tU (fun (q : Nat × Operand)=>(q.1,opr env q.2)) (fun (x : Nat × DV)=>((fun j=>pl.toArray[j]?) x.1).map fun s=>(s.1,s.2,x.2))]
   simpa using hl
  obtain ⟨out',h3,h4⟩:=aIu (ρ := ρ) (place:=fun j=>pl.toArray[j]?) (ps.toList.map fun q=>(q.1,opr env q.2)) (ps.toList.map fun q=>(q.1,ev q.2)) (pD z) z.cells l cs
   (by simp) (by simpa [List.map_map,Function.comp_def] using fCc he ps.toList) (fCf ρ z) hl' hf
  refine SemOk.pure H (.a cs out' h4) (run_build w t _ out' ?_)
  unfold Program.built
  simp only [hi,ht,hz,hpl]
  simpa using h3
 ·cases hp
theorem bTr (H : HR G ρ h w) {t e : TypeId} {n : Nat} {i ei : TypeInfo} {z : Value} {ps : Array (Nat × Operand)} {ev : Operand → Value}
  (ht : P.underlying t = some (.array n e)) (hi : P.info? t = some i) (hz : i.zero = some z) (hps : ps.toList = []) (he : P.info? e = some ei) (hp : aY (pD z) [] h = some (v,h1)) :
  SemOk P G ρ w v h1 (Instr.build t (ps.map fun (q : Nat × Operand)=>(q.1,ev q.2))):=by
 simp only [aY,nD,bB,bN] at hp
 obtain ⟨rfl,rfl⟩:=hp
 refine SemOk.pure H (.a _ z.cells (fCf ρ z)) (run_build w t _ z.cells ?_)
 unfold Program.built
 simp [hi,ht,hz,he,hps,Instr.fill]
theorem nI (z : Array Value) (n : Nat) (hz : 0 < z.size) : ((Array.range (n * z.size)).map (z[· % z.size]!)).toList = (List.replicate n z.toList).flatten:=by
 induction n with
 | zero=>simp
 | succ n ih =>
  have e : (n + 1) * z.size = n * z.size + z.size:=Nat.succ_mul _ _
  rw [e]
  simp only [Array.toList_map,Array.toList_range] at ih ⊢
  rw [List.range_add,List.map_append,ih]
  rw [List.replicate_succ',List.flatten_append]
  congr 1
  simp only [List.map_map,List.flatten_cons,List.flatten_nil,List.append_nil]
  apply List.ext_getElem
  ·simp
  ·intro j h1 h2
   simp at h1
   simp [Nat.mul_add_mod_of_lt h1,h1]
theorem eIa (z : Array Value) (n : Nat) (hz : n * z.size = 0 ∨ 0 < z.size) : ((Array.range (n * z.size)).map (z[· % z.size]!)).toList = (List.replicate n z.toList).flatten:=by
 rcases hz with hz | hz
 ·rw [hz]
  rcases Nat.mul_eq_zero.1 hz with e | e
  ·subst e; simp
  ·have : z = #[]:=by simpa using e
   subst this
   simp
 ·exact nI z n hz
theorem nH {t e : TypeId} {i : TypeInfo} {z : Value} {n : Nat} {ps : Array (Nat × Operand)} {env : aZ} {ev : Operand → Value} {cs : List DV}
  (he : ∀ x,VR ρ (opr env x) (ev x)) (ht : P.underlying t = some (.slice e)) (hi : P.info? e = some i) (hz : i.zero = some z)
  (hn : n * i.size ≤ 2 ^ 24) (h0 : 0 < i.size) (hzs : z.cells.size = i.size)
  (hf : nD ((List.replicate n (pD z)).flatten) (ps.toList.map fun (q : Nat × Operand)=>(q.1 * i.size,i.size,opr env q.2)) = some cs) :
  ∃ out',(Instr.buildSlice t n (ps.map fun (q : Nat × Operand)=>(q.1,ev q.2))).run P w = .ok (.slice (some ⟨w.heap.size,0,none⟩) n n) (w.alloc (.cells out' e)) ∧ VRs ρ cs out'.toList:=by
 have hl' : (ps.toList.map fun q=>(q.1,opr env q.2)).mapM (fun (x : Nat × DV)=>((fun j=>some (j * i.size,i.size)) x.1 : Option (Nat × Nat)).map fun s=>(s.1,s.2,x.2)) = some (ps.toList.map fun (q : Nat × Operand)=>(q.1 * i.size,i.size,opr env q.2)):=by
  rw [← tU (fun (q : Nat × Operand)=>(q.1,opr env q.2)) (fun (x : Nat × DV)=>((fun j=>some (j * i.size,i.size)) x.1 : Option (Nat × Nat)).map fun s=>(s.1,s.2,x.2))]
  generalize ps.toList = l
  induction l with
  | nil=>rfl
  | cons x l ih=>simp only [List.mapM_cons,ih]; simp
 have hzero : VRs ρ (List.replicate n (pD z)).flatten ((Array.range (n * i.size)).map (z.cells[· % z.cells.size]!)).toList:=by
  rw [← hzs,nI z.cells n (by omega)]
  exact fBe (fCf ρ z) n
 obtain ⟨out',h3,h4⟩:=aIu (ρ := ρ) (place:=fun j=>some (j * i.size,i.size)) (ps.toList.map fun q=>(q.1,opr env q.2)) (ps.toList.map fun q=>(q.1,ev q.2)) _ _ _ cs
  (by simp) (by simpa [List.map_map,Function.comp_def] using fCc he ps.toList) hzero hl' hf
 refine ⟨out', ?_,h4⟩
 simp only [Instr.buildSlice,Sem.run_bind,rU ht,Result.andThen_ok,rS hi]
 rw [if_neg (by omega)]
 have h3' : Instr.fill (fun j=>some (j * i.size,i.size)) ((Array.range (n * i.size)).map (z.cells[· % z.cells.size]!)) (ps.map fun (q : Nat × Operand)=>(q.1,ev q.2)).toList = some out':=by simpa using h3
 by_cases hzz : n * i.size = 0
 ·rw [if_pos hzz]
  simp only [Sem.run_bind,Sem.run_pure,Result.andThen_ok]
  have : n = 0:=by rcases Nat.mul_eq_zero.1 hzz with e | e <;> omega
  subst this
  simp only [Nat.zero_mul] at h3' ⊢
  have h3'' : Instr.fill (fun j=>some (j * i.size,i.size)) ((Array.range 0).map ((#[] : Array Value)[· % (#[] : Array Value).size]!)) (ps.map fun (q : Nat × Operand)=>(q.1,ev q.2)).toList = some out':=by
   rw [← h3']
   have er : ∀ f g : Nat → Value,(Array.range 0).map f = (Array.range 0).map g:=fun f g=>by apply Array.ext <;> simp
   rw [er _ (fun x=>z.cells[x % z.cells.size]!)]
  simp only [h3'']
  simp [newRow]
 ·rw [if_neg hzz]
  simp only [Sem.run_bind,rZ hi hz,Result.andThen_ok,Sem.run_pure,h3']
  simp [newRow]
theorem aEr (H : HR G ρ h w) {t e : TypeId} {i : TypeInfo} {z : Value} {n : Nat} {ps : Array (Nat × Operand)} {env : aZ} {ev : Operand → Value}
  (he : ∀ x,VR ρ (opr env x) (ev x)) (ht : P.underlying t = some (.slice e)) (hi : P.info? e = some i) (hz : i.zero = some z)
  (hn : n * i.size ≤ 2 ^ 24) (h0 : 0 < i.size) (hzs : z.cells.size = i.size)
  (hp : aS ((List.replicate n (pD z)).flatten) n (ps.toList.map fun (q : Nat × Operand)=>(q.1 * i.size,i.size,opr env q.2)) h = some (v,h1)) :
  SemOk P G ρ w v h1 (Instr.buildSlice t n (ps.map fun (q : Nat × Operand)=>(q.1,ev q.2))):=by
 unfold aS at hp
 split at hp
 ·rename_i cs hf
  simp only [bB,bN] at hp
  obtain ⟨rfl,rfl⟩:=hp
  obtain ⟨out',h3,h4⟩:=nH (P:=P) (w:=w) (ρ := ρ) he ht hi hz hn h0 hzs hf
  have hrow:=H.newRow .ex cs out'.toList out' e 0 h4 (fun j u hj=>by simpa using hj) (.inl ⟨rfl,rfl⟩)
  exact ⟨_,w.alloc (.cells out' e),.slice (some ⟨w.heap.size,0,none⟩) n n,h3,H.exx _,.l _ 0 n n ⟨w.heap.size,0,0,none⟩ (bW _ _ _),hrow,dB H.sz _⟩
 ·cases hp
theorem eCz (H : HR G ρ h w) {a : Act} {o : Oper} {x : Operand} {env : aZ} (ho : o.op = .nilCheck x) (he : VR ρ (opr env x) (a.eval x)) (hp : aV (opr env x) h = some (v,h1)) :
  (execOp a.eval o).run P w = .ok (.value (a.eval x)) w ∧ VR ρ v (a.eval x) ∧ h1 = h:=by
 generalize hg : opr env x = d at *
 generalize hv : a.eval x = d' at *
 rw [cJh] at hp
 unfold execOp
 simp only [ho,hv]
 split at hp <;> (try (cases hp; done)) <;> (simp only [bB,bN] at hp; obtain ⟨rfl,rfl⟩:=hp; cases he) <;> refine ⟨by simp, ?_,rfl⟩ <;> constructor <;> assumption
theorem jA {op : BinOp} {t : TypeId} {x y : Operand} {a b : Value} (h1 : a ≠ .nilIface) (h2 : ∀ cs,a ≠ .agg cs) : (eqGuard op t x y a b).run P w = .ok () w:=by
 unfold eqGuard
 cases a <;> first | (exact absurd rfl h1) | (exact absurd rfl (h2 _)) | (cases op <;> simp)
theorem eEs (H : HR G ρ h w) {op : BinOp} {t : TypeId} {x y : DV} {x' y' : Value} {ox oy : Operand} (hop : op ≠ .shl ∧ op ≠ .shr) (hx : VR ρ x x') (hy : VR ρ y y') (hp : aC op x y h = some (v,h1)) :
  SemOk P G ρ w v h1 (do eqGuard op t ox oy x' y'; binOp op t x' y'):=by
 rw [dT] at hp
 split at hp
 ·rename_i k a k' b
  cases hx
  cases hy
  split at hp
  ·rename_i hk
   subst hk
   split at hp
   ·rename_i r hr
    simp at hp
    obtain ⟨rfl,rfl⟩:=hp
    have hg:=jA (P:=P) (w:=w) (op:=op) (t:=t) (x:=ox) (y:=oy) (a:=.int k a) (b:=.int k b) (by simp) (by simp)
    cases op <;> simp [gG] at hr <;> first
     | (exact absurd rfl hop.1)
     | (exact absurd rfl hop.2)
     | (subst hr; refine SemOk.pure H (by constructor) ?_; simp only [Sem.run_bind,hg,Result.andThen_ok]; simp [binOp,Op.intArith,Op.intCmp,Op.intBits]; done)
     | (obtain ⟨hb,rfl⟩:=hr; refine SemOk.pure H (by constructor) ?_; simp only [Sem.run_bind,hg,Result.andThen_ok]; simp [binOp,Op.intDiv,hb]; done)
   ·cases hp
  ·cases hp
 ·cases hp
theorem aTl (H : HR G ρ h w) {op : BinOp} {t : TypeId} {x y : DV} {x' y' : Value} {ox oy : Operand} (hop : op = .shl ∨ op = .shr) (hx : VR ρ x x') (hy : VR ρ y y') (hp : dA op x y h = some (v,h1)) :
  SemOk P G ρ w v h1 (do eqGuard op t ox oy x' y'; binOp op t x' y'):=by
 unfold dA at hp
 split at hp
 ·rename_i k a k' b
  cases hx
  cases hy
  split at hp
  ·cases hp
  ·rename_i hb
   have hg:=jA (P:=P) (w:=w) (op:=op) (t:=t) (x:=ox) (y:=oy) (a:=.int k a) (b:=.int k' b) (by simp) (by simp)
   rcases hop with rfl | rfl
   ·simp only [bB,bN] at hp
    obtain ⟨rfl,rfl⟩:=hp
    refine SemOk.pure H (by constructor) ?_
    simp only [Sem.run_bind,hg,Result.andThen_ok]
    simp [binOp,Op.shift,hb]
   ·simp only [bB,bN] at hp
    obtain ⟨rfl,rfl⟩:=hp
    refine SemOk.pure H (by constructor) ?_
    simp only [Sem.run_bind,hg,Result.andThen_ok]
    simp [binOp,Op.shift,hb]
 ·cases hp
theorem aKi : ∀ a b : List UInt8,eqD (a.map (·.toNat)) (b.map (·.toNat)) = (a == b)
 | [],[]=>rfl
 | [],_ :: _=>rfl
 | _ :: _,[]=>rfl
 | x :: a,y :: b=>by
  simp only [List.map_cons,eqD,aKi a b,List.cons_beq_cons]
  congr 1
  rw [Bool.eq_iff_iff]
  simp [UInt8.toNat_inj]
theorem aFr : ∀ a b : List UInt8,pH (a.map (·.toNat)) (b.map (·.toNat)) = Op.bytesLess a b
 | _,[]=>by simp [pH,Op.bytesLess]
 | [],_ :: _=>by simp [pH,Op.bytesLess]
 | x :: a,y :: b=>by
  simp only [List.map_cons,pH,aFr a b,Op.bytesLess]
  congr 1
  ·rw [Bool.eq_iff_iff]
   simp [UInt8.lt_iff_toNat_lt]
  ·congr 1
   rw [Bool.eq_iff_iff]
   simp [UInt8.toNat_inj]
theorem dZg (H : HR G ρ h w) {op : BinOp} {t : TypeId} {x y : DV} {x' y' : Value} {ox oy : Operand} (hx : VR ρ x x') (hy : VR ρ y y') (hp : dX op x y h = some (v,h1)) :
  SemOk P G ρ w v h1 (do eqGuard op t ox oy x' y'; binOp op t x' y'):=by
 unfold dX at hp
 split at hp
 ·rename_i a b
  cases hx with
  | s _ a' ha =>
  cases hy with
  | s _ b' hb =>
  split at hp
  ·rename_i r hr
   simp at hp
   obtain ⟨rfl,rfl⟩:=hp
   have hg:=jA (P:=P) (w:=w) (op:=op) (t:=t) (x:=ox) (y:=oy) (a:=.string a') (b:=.string b') (by simp) (by simp)
   have ea : a'.toList = a'.data.toList:=ByteArray.toList_eq a'
   have eb : b'.toList = b'.data.toList:=ByteArray.toList_eq b'
   have e1 : eqD a b = (a'.toList == b'.toList):=by rw [← ha,← hb,aKi,ea,eb]
   have e2 : pH a b = Op.bytesLess a'.toList b'.toList:=by rw [← ha,← hb,aFr,ea,eb]
   have la : a.length = a'.size:=by rw [← ha,List.length_map,Array.length_toList]; rfl
   have lb : b.length = b'.size:=by rw [← hb,List.length_map,Array.length_toList]; rfl
   cases op <;> simp only [cIy] at hr <;> (try (cases hr; done))
   case add =>
    split at hr
    ·cases hr
    ·rename_i hle
     simp at hr; subst hr
     refine SemOk.pure H (.s _ (a' ++ b') ?_) ?_
     ·simp [ha,hb]
     ·simp only [Sem.run_bind,hg,Result.andThen_ok]
      simp only [binOp,Op.stringOp]
      rw [la,lb] at hle
      rw [if_neg hle]
      simp
   all_goals
    simp only [bB] at hr
    subst hr
    refine SemOk.pure H (by constructor) ?_
    simp only [Sem.run_bind,hg,Result.andThen_ok]
    simp [binOp,Op.stringOp,e1,e2]
  ·cases hp
 ·cases hp
theorem aZr {d : TypeDesc} {t : TypeId} {x y : DV} {x' y' : Value} {r : Bool} (ht : P.underlying t = some d) (hx : VR ρ x x') (hy : VR ρ y y') (hr : aSb d x y = some r) :
  (Op.equal t x' y').run P w = .ok r w:=by
 unfold Op.equal
 rw [show Op.maxDepth = 9999 + 1 from rfl]
 unfold Op.equalIn
 simp only [Sem.run_bind,rU ht,Result.andThen_ok]
 unfold aSb at hr
 split at hr <;> (try (cases hr; done)) <;> (simp at hr; subst hr; cases hx; cases hy; simp)
theorem dRn (H : HR G ρ h w) {op : BinOp} {pos : Bool} {d : TypeDesc} {t : TypeId} {x y : DV} {x' y' : Value} {ox oy : Operand} (ht : P.underlying t = some d) (hop : (op = .eql ∧ pos = true) ∨ (op = .neq ∧ pos = false))
  (hx : VR ρ x x') (hy : VR ρ y y') (hp : pEq d pos x y h = some (v,h1)) :
  SemOk P G ρ w v h1 (do eqGuard op t ox oy x' y'; binOp op t x' y'):=by
 unfold pEq at hp
 split at hp
 ·rename_i r hr
  simp only [bB,bN] at hp
  obtain ⟨rfl,rfl⟩:=hp
  have heq:=aZr (P:=P) (w:=w) ht hx hy hr
  have hne : x' ≠ .nilIface ∧ (∀ cs,x' ≠ .agg cs):=by
   unfold aSb at hr
   split at hr <;> (try (cases hr; done)) <;> (cases hx; simp)
  have hg:=jA (P:=P) (w:=w) (op:=op) (t:=t) (x:=ox) (y:=oy) (a:=x') (b:=y') hne.1 hne.2
  refine SemOk.pure H (by constructor) ?_
  simp only [Sem.run_bind,hg,Result.andThen_ok]
  unfold aSb at hr
  rcases hop with ⟨rfl,rfl⟩ | ⟨rfl,rfl⟩ <;> split at hr <;> (try (cases hr; done)) <;> (cases hx; cases hy; simp [binOp,heq])
 ·cases hp
theorem dYh (H : HR G ρ h w) {op : BinOp} {d : TypeDesc} {t : TypeId} {x y : DV} {x' y' : Value} {ox oy : Operand} (ht : P.underlying t = some d)
  (hx : VR ρ x x') (hy : VR ρ y y') (hp : cLh op d x y h = some (v,h1)) :
  SemOk P G ρ w v h1 (do eqGuard op t ox oy x' y'; binOp op t x' y'):=by
 unfold cLh at hp
 split at hp
 ·split at hp
  ·exact aTl H (.inl rfl) hx hy hp
  ·exact aTl H (.inr rfl) hx hy hp
  ·rename_i h1 h2; exact eEs H ⟨h1,h2⟩ hx hy hp
 ·exact dZg H hx hy hp
 ·split at hp
  ·exact dRn H ht (.inl ⟨rfl,rfl⟩) hx hy hp
  ·exact dRn H ht (.inr ⟨rfl,rfl⟩) hx hy hp
  ·cases hp
theorem pE {t : TypeId} {k : IntKind} {xs : Array Value} {j : Nat} {u : Value} (ht : P.underlying t = some (.int k)) (hx : xs[j]? = some u) : (part t xs j).run P w = .ok u w:=by
 unfold part isAgg
 simp [rU ht,hx]
theorem jR {d : Nat} {t : TypeId} {k l : IntKind} {a b : Int} (ht : P.underlying t = some (.int k)) : (Op.equalIn (d + 1) t (.int l a) (.int l b)).run P w = .ok (a == b) w:=by
 unfold Op.equalIn
 simp [rU ht]
theorem dWt (H : HR G ρ h w) {op : BinOp} {fs : Array Field} {t : TypeId} {x y : DV} {x' y' : Value} {ox oy : Operand} (ht : P.underlying t = some (.struct fs))
  (hx : VR ρ x x') (hy : VR ρ y y') (hp : bVf (aTy P t fs) op x y h = some (v,h1)) :
  SemOk P G ρ w v h1 (do eqGuard op t ox oy x' y'; binOp op t x' y'):=by
 unfold bVf at hp
 split at hp <;> (try (cases hp; done))
 rename_i k a l b k' a' l' b'
 split at hp <;> (try (cases hp; done))
 rename_i hc
 obtain ⟨hf,rfl,rfl⟩:=hc
 obtain ⟨f,g,hfs⟩ : ∃ f g,fs.toList = [f,g]:=by
  unfold aTy at hf
  split at hf
  ·rename_i f g e; exact ⟨f,g,e⟩
  ·cases hf
 unfold aTy at hf
 rw [hfs] at hf
 simp only [Bool.and_eq_true,Bool.not_eq_true'] at hf
 obtain ⟨n1,n2,o1,o2,d1,d2,st,gt⟩:=hf
 have o1:=Nat.eq_of_beq_eq_true o1
 have o2:=Nat.eq_of_beq_eq_true o2
 obtain ⟨kf,d1⟩ : ∃ kf,P.underlying f.type = some (.int kf):=by
  unfold lM at d1; split at d1
  ·rename_i k e; exact ⟨k,e⟩
  ·cases d1
 obtain ⟨kg,d2⟩ : ∃ kg,P.underlying g.type = some (.int kg):=by
  unfold lM at d2; split at d2
  ·rename_i k e; exact ⟨k,e⟩
  ·cases d2
 have efs : fs = #[f,g]:=by apply Array.toList_inj.1; exact hfs
 cases hx with | a _ xs hxs=>cases hy with | a _ ys hys =>
 have x0 : xs[0]? = some (.int k a) ∧ xs[1]? = some (.int l b):=by
  obtain ⟨u0,e0,r0⟩:=hxs.get 0 _ rfl
  obtain ⟨u1,e1,r1⟩:=hxs.get 1 _ rfl
  cases r0; cases r1
  exact ⟨by simpa using e0,by simpa using e1⟩
 have y0 : ys[0]? = some (.int k a') ∧ ys[1]? = some (.int l b'):=by
  obtain ⟨u0,e0,r0⟩:=hys.get 0 _ rfl
  obtain ⟨u1,e1,r1⟩:=hys.get 1 _ rfl
  cases r0; cases r1
  exact ⟨by simpa using e0,by simpa using e1⟩
 have hg : (eqGuard op t ox oy (.agg xs) (.agg ys)).run P w = .ok () w:=by
  unfold eqGuard
  cases op <;> simp [gt]
 have heq : (Op.equal t (.agg xs) (.agg ys)).run P w = .ok (a == a' && b == b') w:=by
  unfold Op.equal
  rw [show Op.maxDepth = 9998 + 1 + 1 from rfl]
  unfold Op.equalIn
  have p0:=pE (w:=w) (u:=.int k a) d1 (show xs[f.offset]? = _ by rw [o1]; exact x0.1)
  have p1:=pE (w:=w) (u:=.int l b) d2 (show xs[g.offset]? = _ by rw [o2]; exact x0.2)
  have q0:=pE (w:=w) (u:=.int k a') d1 (show ys[f.offset]? = _ by rw [o1]; exact y0.1)
  have q1:=pE (w:=w) (u:=.int l b') d2 (show ys[g.offset]? = _ by rw [o2]; exact y0.2)
  have m1 : f.name ≠ "_" := by simpa using n1
  have m2 : g.name ≠ "_" := by simpa using n2
  subst efs
  simp [rU ht,st,m1,m2,p0,q0,p1,q1,jR d1,jR d2]
  by_cases c1 : a = a'
  ·by_cases c2 : b = b' <;> simp [c1,c2]
  ·simp [c1]
 split at hp <;> (try (cases hp; done)) <;> (simp only [bB,bN] at hp; obtain ⟨rfl,rfl⟩:=hp; refine SemOk.pure H (by constructor) ?_; simp only [Sem.run_bind,hg,Result.andThen_ok]; simp [binOp,heq])
theorem dZo (H : HR G ρ h w) {op : BinOp} {fs : Array Field} {t : TypeId} {x y : DV} {x' y' : Value} {ox oy : Operand} (ht : P.underlying t = some (.struct fs))
  (hx : VR ρ x x') (hy : VR ρ y y') (hf : aFe P t fs = true) (hp : aUc op x y h = some (v,h1)) :
  SemOk P G ρ w v h1 (do eqGuard op t ox oy x' y'; binOp op t x' y'):=by
 unfold aUc at hp
 split at hp <;> (try (cases hp; done))
 rename_i k a l b m c k' a' l' b' m' c'
 split at hp <;> (try (cases hp; done))
 rename_i hc
 obtain ⟨rfl,rfl,rfl⟩:=hc
 obtain ⟨f,g,e,hfs⟩ : ∃ f g e,fs.toList = [f,g,e]:=by
  unfold aFe at hf
  split at hf
  ·rename_i f g e q; exact ⟨f,g,e,q⟩
  ·cases hf
 unfold aFe at hf
 rw [hfs] at hf
 simp only [Bool.and_eq_true,Bool.not_eq_true'] at hf
 obtain ⟨n1,n2,n3,o1,o2,o3,d1,d2,d3,st,gt⟩:=hf
 have o1:=Nat.eq_of_beq_eq_true o1
 have o2:=Nat.eq_of_beq_eq_true o2
 have o3:=Nat.eq_of_beq_eq_true o3
 obtain ⟨kf,d1⟩ : ∃ kf,P.underlying f.type = some (.int kf):=by
  unfold lM at d1; split at d1
  ·rename_i k e; exact ⟨k,e⟩
  ·cases d1
 obtain ⟨kg,d2⟩ : ∃ kg,P.underlying g.type = some (.int kg):=by
  unfold lM at d2; split at d2
  ·rename_i k e; exact ⟨k,e⟩
  ·cases d2
 obtain ⟨ke,d3⟩ : ∃ ke,P.underlying e.type = some (.int ke):=by
  unfold lM at d3; split at d3
  ·rename_i k e; exact ⟨k,e⟩
  ·cases d3
 have efs : fs = #[f,g,e]:=by apply Array.toList_inj.1; exact hfs
 cases hx with | a _ xs hxs=>cases hy with | a _ ys hys =>
 have x0 : xs[0]? = some (.int k a) ∧ xs[1]? = some (.int l b) ∧ xs[2]? = some (.int m c):=by
  obtain ⟨u0,e0,r0⟩:=hxs.get 0 _ rfl
  obtain ⟨u1,e1,r1⟩:=hxs.get 1 _ rfl
  obtain ⟨u2,e2,r2⟩:=hxs.get 2 _ rfl
  cases r0; cases r1; cases r2
  exact ⟨by simpa using e0,by simpa using e1,by simpa using e2⟩
 have y0 : ys[0]? = some (.int k a') ∧ ys[1]? = some (.int l b') ∧ ys[2]? = some (.int m c'):=by
  obtain ⟨u0,e0,r0⟩:=hys.get 0 _ rfl
  obtain ⟨u1,e1,r1⟩:=hys.get 1 _ rfl
  obtain ⟨u2,e2,r2⟩:=hys.get 2 _ rfl
  cases r0; cases r1; cases r2
  exact ⟨by simpa using e0,by simpa using e1,by simpa using e2⟩
 have hg : (eqGuard op t ox oy (.agg xs) (.agg ys)).run P w = .ok () w:=by
  unfold eqGuard
  cases op <;> simp [gt]
 have heq : (Op.equal t (.agg xs) (.agg ys)).run P w = .ok (a == a' && (b == b' && c == c')) w:=by
  unfold Op.equal
  rw [show Op.maxDepth = 9998 + 1 + 1 from rfl]
  unfold Op.equalIn
  have p0:=pE (w:=w) (u:=.int k a) d1 (show xs[f.offset]? = _ by rw [o1]; exact x0.1)
  have p1:=pE (w:=w) (u:=.int l b) d2 (show xs[g.offset]? = _ by rw [o2]; exact x0.2.1)
  have p2:=pE (w:=w) (u:=.int m c) d3 (show xs[e.offset]? = _ by rw [o3]; exact x0.2.2)
  have q0:=pE (w:=w) (u:=.int k a') d1 (show ys[f.offset]? = _ by rw [o1]; exact y0.1)
  have q1:=pE (w:=w) (u:=.int l b') d2 (show ys[g.offset]? = _ by rw [o2]; exact y0.2.1)
  have q2:=pE (w:=w) (u:=.int m c') d3 (show ys[e.offset]? = _ by rw [o3]; exact y0.2.2)
  have m1 : f.name ≠ "_" := by simpa using n1
  have m2 : g.name ≠ "_" := by simpa using n2
  have m3 : e.name ≠ "_" := by simpa using n3
  subst efs
  simp [rU ht,st,m1,m2,m3,p0,q0,p1,q1,p2,q2,jR d1,jR d2,jR d3]
  by_cases c1 : a = a'
  ·by_cases c2 : b = b'
   ·by_cases c3 : c = c' <;> simp [c1,c2,c3]
   ·simp [c1,c2]
  ·simp [c1]
 split at hp <;> (try (cases hp; done)) <;> (simp only [bB,bN] at hp; obtain ⟨rfl,rfl⟩:=hp; refine SemOk.pure H (by constructor) ?_; simp only [Sem.run_bind,hg,Result.andThen_ok]; simp [binOp,heq])
theorem eBc (H : HR G ρ h w) {op : BinOp} {fs : Array Field} {t : TypeId} {x y : DV} {x' y' : Value} {ox oy : Operand} (ht : P.underlying t = some (.struct fs))
  (hx : VR ρ x x') (hy : VR ρ y y') (hp : dLs (aTy P t fs) (aFe P t fs) op x y h = some (v,h1)) :
  SemOk P G ρ w v h1 (do eqGuard op t ox oy x' y'; binOp op t x' y'):=by
 unfold dLs at hp
 cases h3 : aFe P t fs with
 | true=>rw [h3] at hp; exact dZo H ht hx hy h3 hp
 | false=>rw [h3] at hp; exact dWt H ht hx hy hp
theorem eUd (H : HR G ρ h w) {op : UnOp} {x : DV} {x' : Value} (hx : VR ρ x x') (hp : eQ op x h = some (v,h1)) : SemOk P G ρ w v h1 (Op.unary op x'):=by
 unfold eQ at hp
 split at hp <;> (try (cases hp; done)) <;> (simp only [bB,bN] at hp; obtain ⟨rfl,rfl⟩:=hp; cases hx; refine SemOk.pure H (by constructor) ?_; simp [Op.unary,Op.intArith])
end
end Go.Dd

namespace Go.Dd
open Go.RowKit (Below)
section
variable {P : Program} {G : Gd} {ρ : Ren} {w : World} {h h1 : Hp} {v : DV}
theorem cNu (H : HR G ρ h w) {src dst : TypeId} {d : TypeDesc} {k : IntKind} {x : DV} {x' : Value} (hs : P.underlying src = some d) (hd : P.underlying dst = some (.int k)) (hx : VR ρ x x') (hp : cV k x h = some (v,h1)) :
  SemOk P G ρ w v h1 (convert src dst x'):=by
 unfold cV at hp
 split at hp <;> (try (cases hp; done))
 simp only [bB,bN] at hp
 obtain ⟨rfl,rfl⟩:=hp
 cases hx
 refine SemOk.pure H (by constructor) ?_
 simp only [convert,Sem.run_bind,rU hs,rU hd,Result.andThen_ok]
 simp [Conv.intToInt]
theorem cOj (H : HR G ρ h w) {src dst : TypeId} {x : DV} {x' : Value} (hs : P.underlying src = some .string) (hd : P.underlying dst = some .string) (hx : VR ρ x x') (hp : aKl x h = some (v,h1)) :
  SemOk P G ρ w v h1 (convert src dst x'):=by
 unfold aKl at hp
 split at hp <;> (try (cases hp; done))
 simp only [bB,bN] at hp
 obtain ⟨rfl,rfl⟩:=hp
 cases hx with
 | s _ bs hb =>
 refine SemOk.pure H (.s _ bs hb) ?_
 simp only [convert,Sem.run_bind,rU hs,rU hd,Result.andThen_ok]
 simp
theorem aFf {ρ : Ren} : ∀ {cs : List DV} {l : List Nat} {vs : List Value},aCn cs = some l → VRs ρ cs vs → vs = (l.map fun (n : Nat)=>(n : Int)).map (Value.int .u8) ∧ ∀ n ∈ l,n < 256
 | [],l,vs,h,hv=>by
  simp only [aCn,bB] at h
  subst h
  cases hv
  exact ⟨rfl,by simp⟩
 | x :: cs,l,vs,h,hv=>by
  unfold aCn at h
  split at h <;> (try (cases h; done))
  ·rename_i heq
   cases heq
  ·rename_i n cs' heq
   cases heq
   split at h <;> (try (cases h; done))
   rename_i hn
   obtain ⟨l',e,rfl⟩:=Option.map_eq_some_iff.1 h
   cases hv with
   | cons _ x' _ vs' hx hs =>
    cases hx
    obtain ⟨rfl,k⟩:=aFf e hs
    refine ⟨rfl,fun m hm => ?_⟩
    rcases List.mem_cons.1 hm with rfl | hm
    ·exact hn
    ·exact k m hm
theorem aCy : ∀ (l : List Nat) (b : ByteArray),(∀ n ∈ l,n < 256) → (((l.map fun (n : Nat)=>(n : Int)).foldl (fun r n=>r.push (UInt8.ofNat n.toNat)) b).data.toList.map (·.toNat)) = b.data.toList.map (·.toNat) ++ l
 | [],b,_=>by simp
 | n :: l,b,h=>by
  simp only [List.map_cons,List.foldl_cons]
  rw [aCy l _ fun m hm=>h m (by simp [hm])]
  have hn : n < 256:=h n (by simp)
  have e : (b.push (UInt8.ofNat ((n : Int)).toNat)).data.toList.map (·.toNat) = b.data.toList.map (·.toNat) ++ [n]:=by
   show ((b.data.push (UInt8.ofNat ((n : Int)).toNat)).toList.map (·.toNat)) = _
   simp
   omega
  rw [e]
  simp
theorem cIr (H : HR G ρ h w) {src dst e : TypeId} {x : DV} {x' : Value} (hs : P.underlying src = some (.slice e)) (he : P.underlying e = some (.int .u8)) (hd : P.underlying dst = some .string) (hx : VR ρ x x') (hp : nG x h = some (v,h1)) :
  SemOk P G ρ w v h1 (convert src dst x'):=by
 unfold nG at hp
 split at hp <;> (try (cases hp; done))
 ·simp only [bB,bN] at hp
  obtain ⟨rfl,rfl⟩:=hp
  cases hx
  refine SemOk.pure H (.s [] ByteArray.empty rfl) ?_
  rw [run_convert_bytes_string w src dst e _ _ _ hs he hd]
  rfl
 ·rename_i b o len cap
  split at hp <;> (try (cases hp; done))
  rename_i cs hc
  split at hp <;> (try (cases hp; done))
  rename_i l hl
  simp only [bB,bN] at hp
  obtain ⟨rfl,rfl⟩:=hp
  cases hx with
  | l _ _ _ _ L hL =>
   obtain ⟨_,_,_,vs,h4,h5,h6⟩:=dO H hc hL
   obtain ⟨rfl,hb⟩:=aFf hl h4
   have:=cK (P:=P) _ rfl h6
   rw [h5] at this
   refine SemOk.pure H (.s l ((l.map fun (n : Nat)=>(n : Int)).foldl (fun r n=>r.push (UInt8.ofNat n.toNat)) ByteArray.empty) ?_) ?_
   rotate_left
   ·rw [run_convert_bytes_string w src dst e _ _ _ hs he hd]
    exact run_bytesToString w _ len _ _ this
   ·have:=aCy l ByteArray.empty hb
    simpa using this
theorem iJ {x : DV} {x' : Value} {y n y' : Nat} {code : BoundsCode} (hx : VR ρ x x') (hn : iT x y = some n) (hy : y ≤ y') : (Instr.sliceBound x' y' code).run P w = .ok n w ∧ n ≤ y:=by
 unfold iT at hn
 split at hn <;> (try (cases hn; done))
 split at hn <;> (try (cases hn; done))
 rename_i i hi
 simp only [bB] at hn
 subst hn
 cases hx
 refine ⟨?_,by omega⟩
 simp only [Instr.sliceBound,asIntOf,Sem.run_bind,Sem.run_pure,Result.andThen_ok]
 rw [if_pos (by omega)]
 simp
inductive OR (ρ : Ren) : Option DV → Option Value → Prop
 | none : OR ρ none none
 | some (x : DV) (x' : Value) (h : VR ρ x x') : OR ρ (some x) (some x')
theorem lV {isS : Bool} {len cap cap' e s : Nat} {lo hi : Option DV} {lo' hi' : Option Value} (hl : OR ρ lo lo') (hh : OR ρ hi hi') (hc : cap ≤ cap') (h1 : hiD hi len cap = some e) (h2 : loD lo e = some s) :
  (Instr.sliceBounds isS len cap' lo' hi' none).run P w = .ok (s,e,cap') w ∧ s ≤ e ∧ e ≤ cap:=by
 unfold Instr.sliceBounds
 cases hh with
 | none =>
  simp only [hiD] at h1
  split at h1 <;> (try (cases h1; done))
  rename_i hle
  simp only [bB] at h1
  subst h1
  cases hl with
  | none=>simp only [loD,bB] at h2; subst h2; simp [hle]
  | some x x' hx =>
   obtain ⟨h3,h4⟩:=iJ (P:=P) (w:=w) (code:=if (none : Option Value).isSome then .slice3C else .sliceB) hx h2 (Nat.le_refl _)
   refine ⟨?_,h4,hle⟩
   simp only [Sem.run_bind,Sem.run_pure,Result.andThen_ok,h3]
 | some y y' hy =>
  simp only [hiD] at h1
  obtain ⟨h5,h6⟩:=iJ (P:=P) (w:=w) (code:=if isS then .sliceAcap else .sliceAlen) hy h1 hc
  cases hl with
  | none =>
   simp only [loD,bB] at h2; subst h2
   refine ⟨?_,Nat.zero_le _,h6⟩
   simp only [Sem.run_bind,Sem.run_pure,Result.andThen_ok,h5]
  | some x x' hx =>
   obtain ⟨h3,h4⟩:=iJ (P:=P) (w:=w) (code:=if (none : Option Value).isSome then .slice3C else .sliceB) hx h2 (Nat.le_refl _)
   refine ⟨?_,h4,h6⟩
   simp only [Sem.run_bind,Sem.run_pure,Result.andThen_ok,h5,h3]
theorem bRv (H : HR G ρ h w) {t : TypeId} {x : DV} {x' : Value} {lo hi : Option DV} {lo' hi' : Option Value} (ht : P.underlying t = some .string) (hx : VR ρ x x') (hl : OR ρ lo lo') (hh : OR ρ hi hi') (hp : iF x lo hi h = some (v,h1)) :
  SemOk P G ρ w v h1 (Instr.sliceAt t x' lo' hi' none):=by
 unfold iF at hp
 split at hp <;> (try (cases hp; done))
 rename_i l
 split at hp <;> (try (cases hp; done))
 rename_i e he
 split at hp <;> (try (cases hp; done))
 rename_i s hs
 simp only [bB,bN] at hp
 obtain ⟨rfl,rfl⟩:=hp
 cases hx with
 | s _ bs hb =>
  have hlen : l.length = bs.size:=by rw [← hb,List.length_map,Array.length_toList]; rfl
  rw [hlen] at he
  obtain ⟨h3,h4,h5⟩:=lV (P:=P) (w:=w) (isS:=false) hl hh (Nat.le_refl _) he hs
  refine SemOk.pure H (.s _ (bs.extract s e) ?_) ?_
  ·subst hb
   simp [List.map_drop,List.map_take,List.drop_take]
  ·simp only [Instr.sliceAt,Sem.run_bind,rU ht,Result.andThen_ok,Instr.slice]
   simp only [Option.isSome_none,Bool.false_eq_true,if_false,Sem.run_bind,Sem.run_pure,Result.andThen_ok,h3]
theorem cJx (H : HR G ρ h w) {t e : TypeId} {i : TypeInfo} {x : DV} {x' : Value} {lo hi : Option DV} {lo' hi' : Option Value} (ht : P.underlying t = some (.slice e)) (hi0 : P.info? e = some i) (hx : VR ρ x x') (hl : OR ρ lo lo') (hh : OR ρ hi hi')
  (hp : eL i.size x lo hi h = some (v,h1)) : SemOk P G ρ w v h1 (Instr.sliceAt t x' lo' hi' none):=by
 unfold eL at hp
 split at hp <;> (try (cases hp; done))
 ·rename_i b o len cap
  split at hp <;> (try (cases hp; done))
  rename_i en he
  split at hp <;> (try (cases hp; done))
  rename_i s hs
  cases hx with
  | l _ _ _ _ L hL =>
   obtain ⟨h3,h4,h5⟩:=lV (P:=P) (w:=w) (isS:=true) (cap':=cap + L.sp) hl hh (Nat.le_add_right _ _) he hs
   have hrun : (Instr.sliceAt t (.slice (some (eX L o)) len (cap + L.sp)) lo' hi' none).run P w = .ok (.slice (if cap + L.sp = s then some (eX L o) else (some (eX L o)).map (·.add (s * i.size))) (en - s) (cap + L.sp - s)) w:=by
    simp only [Instr.sliceAt,Sem.run_bind,rU ht,Result.andThen_ok,Instr.slice,h3,rS hi0,Sem.run_pure]
   have hold : ∀ k l0,h.bl.get b = some (.row k l0) → L.sp = 0 → (some ((DV.l b (if cap = s then o else o + s * i.size) (en - s) (cap - s)),h) = some (v,h1)) → SemOk P G ρ w v h1 (Instr.sliceAt t (.slice (some (eX L o)) len (cap + L.sp)) lo' hi' none):=by
    intro k l0 hb hsp hp
    simp only [bB,bN] at hp
    obtain ⟨rfl,rfl⟩:=hp
    refine SemOk.pure H (.l b _ _ _ L hL) (hrun.trans ?_)
    rw [hsp]
    simp only [Nat.add_zero]
    split <;> simp [fX]
   split at hp <;> (try (cases hp; done))
   ·rename_i l0 hb; exact hold _ _ hb (H.ex b l0 L (.inl hb) hL) hp
   ·rename_i l0 hb; exact hold _ _ hb (H.ex b l0 L (.inr hb) hL) hp
   ·rename_i k l0 _ _ hb
    split at hp
    ·rename_i hcs
     simp only [bB,bN] at hp
     obtain ⟨rfl,rfl⟩:=hp
     have hv : VR ρ .le (.slice (if cap + L.sp = s then some (eX L o) else (some (eX L o)).map (·.add (s * i.size))) (en - s) (cap + L.sp - s)):=by
      rw [show en - s = 0 from by omega]
      split
      ·exact .le _ _
      ·exact .le _ _
     exact SemOk.pure H hv hrun
    ·rename_i hcs
     simp only [bB,bN] at hp
     obtain ⟨rfl,rfl⟩:=hp
     refine SemOk.pure H (.l b _ _ _ L hL) (hrun.trans ?_)
     rw [if_neg (by omega),show cap + L.sp - s = cap - s + L.sp from by omega]
     simp [fX]
 ·rename_i b o len cap
  split at hp <;> (try (cases hp; done))
  rename_i en he
  split at hp <;> (try (cases hp; done))
  rename_i s hs
  simp only [bB,bN] at hp
  obtain ⟨rfl,rfl⟩:=hp
  cases hx with
  | lx _ _ _ _ L hL =>
   obtain ⟨h3,h4,h5⟩:=lV (P:=P) (w:=w) (isS:=true) (cap':=cap) hl hh (Nat.le_refl _) he hs
   have hrun : (Instr.sliceAt t (.slice (some (eX L o)) len cap) lo' hi' none).run P w = .ok (.slice (if cap = s then some (eX L o) else (some (eX L o)).map (·.add (s * i.size))) (en - s) (cap - s)) w:=by
    simp only [Instr.sliceAt,Sem.run_bind,rU ht,Result.andThen_ok,Instr.slice,h3,rS hi0,Sem.run_pure]
   refine SemOk.pure H (.lx b _ _ _ L hL) (hrun.trans ?_)
   split <;> simp [fX]
 ·split at hp <;> (try (cases hp; done))
  rename_i en he
  split at hp <;> (try (cases hp; done))
  rename_i s hs
  simp only [bB,bN] at hp
  obtain ⟨rfl,rfl⟩:=hp
  cases hx
  obtain ⟨h3,h4,h5⟩:=lV (P:=P) (w:=w) (isS:=true) hl hh (Nat.le_refl _) he hs
  obtain rfl : en = 0:=by omega
  obtain rfl : s = 0:=by omega
  refine SemOk.pure H .l0 ?_
  simp only [Instr.sliceAt,Sem.run_bind,rU ht,Result.andThen_ok,Instr.slice,h3,rS hi0,Sem.run_pure]
  simp
 ·split at hp <;> (try (cases hp; done))
  rename_i en he
  split at hp <;> (try (cases hp; done))
  rename_i s hs
  simp only [bB,bN] at hp
  obtain ⟨rfl,rfl⟩:=hp
  cases hx with
  | le a c =>
   obtain ⟨h3,h4,h5⟩:=lV (P:=P) (w:=w) (isS:=true) (cap':=c) hl hh (Nat.zero_le _) he hs
   have hrun : (Instr.sliceAt t (.slice (some a) 0 c) lo' hi' none).run P w = .ok (.slice (if c = s then some a else (some a).map (·.add (s * i.size))) (en - s) (c - s)) w:=by
    simp only [Instr.sliceAt,Sem.run_bind,rU ht,Result.andThen_ok,Instr.slice,h3,rS hi0,Sem.run_pure]
   have hv : VR ρ .le (.slice (if c = s then some a else (some a).map (·.add (s * i.size))) (en - s) (c - s)):=by
    rw [show en - s = 0 from by omega]
    split
    ·exact .le _ _
    ·exact .le _ _
   exact SemOk.pure H hv hrun
theorem bRp (H : HR G ρ h w) {t e : TypeId} {i : TypeInfo} {x hi mx : DV} {x' hi' mx' : Value} {lo : Option DV} {lo' : Option Value} (ht : P.underlying t = some (.slice e)) (hi0 : P.info? e = some i) (hx : VR ρ x x') (hl : OR ρ lo lo') (hh : VR ρ hi hi') (hm : VR ρ mx mx')
  (hp : oS x lo hi mx h = some (v,h1)) : SemOk P G ρ w v h1 (Instr.sliceAt t x' lo' (some hi') (some mx')):=by
 have hmain : ∀ (b : Pos) (o len cap cap' m n : Nat) (L : Loc), ρ b = some L → cap ≤ cap' → iT mx cap = some m → iT hi m = some n → lo' = none →
   SemOk P G ρ w (.lx b o n m) h (Instr.sliceAt t (.slice (some (eX L o)) len cap') lo' (some hi') (some mx')):=by
  intro b o len cap cap' m n L hL hc e1 e2 hlo
  subst hlo
  obtain ⟨h3,h4⟩:=iJ (P:=P) (w:=w) (y':=cap') (code:=.slice3Acap) hm e1 hc
  obtain ⟨h5,h6⟩:=iJ (P:=P) (w:=w) (y':=m) (code:=.slice3B) hh e2 (Nat.le_refl _)
  refine SemOk.pure H (.lx b o n m L hL) ?_
  simp only [Instr.sliceAt,Sem.run_bind,rU ht,Result.andThen_ok,Instr.slice,Instr.sliceBounds,h3,h5,rS hi0,Sem.run_pure]
  by_cases h0 : m = 0
  ·subst h0
   simp [h3,h5]
  ·simp [h0,h3,h5,fX]
 unfold oS at hp
 split at hp <;> (try (cases hp; done))
 ·rename_i b o len cap
  split at hp <;> (try (cases hp; done))
  rename_i m e1
  split at hp <;> (try (cases hp; done))
  rename_i n e2
  simp only [bB,bN] at hp
  obtain ⟨rfl,rfl⟩:=hp
  cases hx with
  | l _ _ _ _ L hL =>
   cases hl
   exact hmain b o len cap _ m n L hL (Nat.le_add_right _ _) e1 e2 rfl
 ·rename_i b o len cap
  split at hp <;> (try (cases hp; done))
  rename_i m e1
  split at hp <;> (try (cases hp; done))
  rename_i n e2
  simp only [bB,bN] at hp
  obtain ⟨rfl,rfl⟩:=hp
  cases hx with
  | lx _ _ _ _ L hL =>
   cases hl
   exact hmain b o len cap _ m n L hL (Nat.le_refl _) e1 e2 rfl
 ·split at hp <;> (try (cases hp; done))
  rename_i n1 n2 e1 e2
  simp only [bB,bN] at hp
  obtain ⟨rfl,rfl⟩:=hp
  cases hx
  cases hl
  obtain ⟨h3,h4⟩:=iJ (P:=P) (w:=w) (y':=0) (code:=.slice3Acap) hm e1 (Nat.zero_le _)
  obtain ⟨h5,h6⟩:=iJ (P:=P) (w:=w) (y':=n1) (code:=.slice3B) hh e2 (Nat.zero_le _)
  obtain rfl : n1 = 0:=by omega
  obtain rfl : n2 = 0:=by omega
  refine SemOk.pure H .l0 ?_
  simp only [Instr.sliceAt,Sem.run_bind,rU ht,Result.andThen_ok,Instr.slice,Instr.sliceBounds,h3,h5,rS hi0,Sem.run_pure,if_true]
 ·split at hp <;> (try (cases hp; done))
  rename_i n1 n2 e1 e2
  simp only [bB,bN] at hp
  obtain ⟨rfl,rfl⟩:=hp
  cases hx with
  | le a c =>
  cases hl
  obtain ⟨h3,h4⟩:=iJ (P:=P) (w:=w) (y':=c) (code:=.slice3Acap) hm e1 (Nat.zero_le _)
  obtain ⟨h5,h6⟩:=iJ (P:=P) (w:=w) (y':=n1) (code:=.slice3B) hh e2 (Nat.zero_le _)
  obtain rfl : n1 = 0:=by omega
  obtain rfl : n2 = 0:=by omega
  refine SemOk.pure H (.le a 0) ?_
  simp only [Instr.sliceAt,Sem.run_bind,rU ht,Result.andThen_ok,Instr.slice,Instr.sliceBounds,h3,h5,rS hi0,Sem.run_pure,if_true]
theorem cMp (H : HR G ρ h w) {t : TypeId} {fs : Array Field} {f : Nat} {fl : Field} {i : TypeInfo} {x : DV} {x' : Value} (ht : P.underlying t = some (.struct fs)) (hf : fs[f]? = some fl) (hi : P.info? fl.type = some i) (h0 : i.size ≠ 0) (hx : VR ρ x x')
  (hp : aB fl.offset x h = some (v,h1)) : SemOk P G ρ w v h1 (Instr.fieldAt t x' f):=by
 rw [bBn] at hp
 split at hp <;> (try (cases hp; done))
 simp only [bB,bN] at hp
 obtain ⟨rfl,rfl⟩:=hp
 cases hx with
 | p b o L hL =>
  refine SemOk.pure H (.p _ _ L hL) ?_
  simp only [Instr.fieldAt,Sem.run_bind,rU ht,Result.andThen_ok,hf,Instr.sureAddr,Sem.run_pure,fieldPlace,rS hi]
  rw [if_neg h0]
  simp [fX]
theorem bYn (H : HR G ρ h w) {t : TypeId} {fs : Array Field} {f : Nat} {fl : Field} {d : TypeDesc} {x : DV} {x' : Value} (ht : P.underlying t = some (.struct fs)) (hf : fs[f]? = some fl) (hd : P.underlying fl.type = some d) (ha : kA d = false) (hx : VR ρ x x')
  (hp : gN fl.offset x h = some (v,h1)) : SemOk P G ρ w v h1 (Instr.field t x' f):=by
 unfold gN at hp
 split at hp <;> (try (cases hp; done))
 split at hp <;> (try (cases hp; done))
 rename_i u hu
 simp only [bB,bN] at hp
 obtain ⟨rfl,rfl⟩:=hp
 cases hx with
 | a _ cs' hc =>
  obtain ⟨u',h3,h4⟩:=hc.get _ _ hu
  refine SemOk.pure H h4 ?_
  simp only [Instr.field,Sem.run_bind,rU ht,Result.andThen_ok,hf,asAgg,Sem.run_pure,part,rA hd,ha]
  simp only [Array.getElem?_toList] at h3
  simp [h3]
theorem cQo (H : HR G ρ h w) {t : TypeId} {fs : Array Field} {f : Nat} {fl : Field} {d : TypeDesc} {i : TypeInfo} {x : DV} {x' : Value} (ht : P.underlying t = some (.struct fs)) (hf : fs[f]? = some fl) (hd : P.underlying fl.type = some d) (hi : P.info? fl.type = some i) (ha : kA d = true) (hx : VR ρ x x')
  (hp : aJo fl.offset i.size x h = some (v,h1)) : SemOk P G ρ w v h1 (Instr.field t x' f):=by
 unfold aJo at hp
 split at hp <;> (try (cases hp; done))
 simp only [bB,bN] at hp
 obtain ⟨rfl,rfl⟩:=hp
 cases hx with
 | a _ cs' hc =>
  refine SemOk.pure H (.a _ (cs'.extract fl.offset (fl.offset + i.size)) ?_) ?_
  ·have:=(hc.drop fl.offset).take i.size
   simpa [List.take_drop,Nat.add_comm] using this
  ·simp only [Instr.field,Sem.run_bind,rU ht,Result.andThen_ok,hf,asAgg,Sem.run_pure,part,rA hd,ha,rS hi,if_true]
theorem aQe (H : HR G ρ h w) {t e : TypeId} {i : TypeInfo} {x ix : DV} {x' ix' : Value} (ht : P.underlying t = some (.slice e)) (hi : P.info? e = some i) (hx : VR ρ x x') (hix : VR ρ ix ix') (hp : aG i.size x ix h = some (v,h1)) :
  SemOk P G ρ w v h1 (Instr.indexAt t x' ix'):=by
 rw [eT] at hp
 split at hp <;> (try (cases hp; done))
 ·split at hp <;> (try (cases hp; done))
  rename_i hr
  simp only [bB,bN] at hp
  obtain ⟨rfl,rfl⟩:=hp
  cases hix
  cases hx with
  | l b o len cap L hL =>
   refine SemOk.pure H (.p _ _ L hL) ?_
   simp only [Instr.indexAt,asIntOf,Sem.run_bind,Sem.run_pure,Result.andThen_ok,rU ht]
   simp [hr,rS hi,fX]
 ·split at hp <;> (try (cases hp; done))
  rename_i hr
  simp only [bB,bN] at hp
  obtain ⟨rfl,rfl⟩:=hp
  cases hix
  cases hx with
  | lx b o len cap L hL =>
   refine SemOk.pure H (.p _ _ L hL) ?_
   simp only [Instr.indexAt,asIntOf,Sem.run_bind,Sem.run_pure,Result.andThen_ok,rU ht]
   simp [hr,rS hi,fX]
theorem aUa (H : HR G ρ h w) {t e : TypeId} {n : Nat} {i : TypeInfo} {x ix : DV} {x' ix' : Value} (ht : P.underlying t = some (.array n e)) (hi : P.info? e = some i) (hx : VR ρ x x') (hix : VR ρ ix ix') (hp : mE n i.size x ix h = some (v,h1)) :
  SemOk P G ρ w v h1 (Instr.indexAt t x' ix'):=by
 rw [pG] at hp
 split at hp <;> (try (cases hp; done))
 split at hp <;> (try (cases hp; done))
 rename_i hr
 simp only [bB,bN] at hp
 obtain ⟨rfl,rfl⟩:=hp
 cases hix
 cases hx with
 | p b o L hL =>
  refine SemOk.pure H (.p _ _ L hL) ?_
  simp only [Instr.indexAt,asIntOf,Sem.run_bind,Sem.run_pure,Result.andThen_ok,rU ht,Instr.sureAddr]
  simp [hr,rS hi,fX]
theorem bQo (H : HR G ρ h w) {t : TypeId} {x ix : DV} {x' ix' : Value} (ht : P.underlying t = some .string) (hx : VR ρ x x') (hix : VR ρ ix ix') (hp : cT x ix h = some (v,h1)) :
  SemOk P G ρ w v h1 (Instr.index t x' ix'):=by
 unfold cT at hp
 split at hp <;> (try (cases hp; done))
 rename_i l k n
 split at hp <;> (try (cases hp; done))
 rename_i h0
 split at hp <;> (try (cases hp; done))
 rename_i c hc
 simp only [bB,bN] at hp
 obtain ⟨rfl,rfl⟩:=hp
 cases hix
 cases hx with
 | s _ bs hb =>
  subst hb
  rw [List.getElem?_map,Array.getElem?_toList] at hc
  cases hg : bs.data[n.toNat]? with
  | none=>rw [hg] at hc; cases hc
  | some u =>
   rw [hg] at hc
   simp only [Option.map_some,bB] at hc
   subst hc
   refine SemOk.pure H (by constructor) ?_
   have hs : bs[n.toNat]? = some u:=by
    have hlt : n.toNat < bs.size:=(Array.getElem?_eq_some_iff.1 hg).1
    rw [ByteArray.getElem?_lt' bs _ hlt]
    congr 1
    exact (Array.getElem?_eq_some_iff.1 hg).2
   simp only [Instr.index,asIntOf,Sem.run_bind,Sem.run_pure,Result.andThen_ok,rU ht]
   simp [h0,hs]
theorem aZp (H : HR G ρ h w) {i : Nat} {x : DV} {x' : Value} (hx : VR ρ x x') (hp : aF i x h = some (v,h1)) : SemOk P G ρ w v h1 (Instr.extract x' i):=by
 rw [sC] at hp
 split at hp <;> (try (cases hp; done))
 split at hp <;> (try (cases hp; done))
 rename_i u hu
 simp only [bB,bN] at hp
 obtain ⟨rfl,rfl⟩:=hp
 cases hx with
 | t _ vs' hc =>
  obtain ⟨u',h3,h4⟩:=hc.get _ _ hu
  refine SemOk.pure H h4 ?_
  simp only [Array.getElem?_toList] at h3
  simp [Instr.extract,h3]
end
end Go.Dd

namespace Go.Dd
open Go.RowKit (Below)
section
variable {P : Program} {G : Gd} {ρ : Ren} {w : World} {h h1 : Hp} {v : DV}
theorem HR.kill (H : HR G ρ h w) {b : Pos} {es o : Nat} {l : List DV} (hb : h.bl.get b = some (.row (.gr es) l)) :
  HR G ρ ⟨h.next,Tr.set (.row .sp (bR o l)) b h.bl⟩ w:=by
 obtain ⟨k1,k2⟩:=lP o l
 have hroB : ¬ isRo h b:=by rintro ⟨l0,h0⟩; rw [hb] at h0; simp at h0
 have hcl : ∀ {x a},Claims ρ ⟨h.next,Tr.set (.row .sp (bR o l)) b h.bl⟩ x a → Claims ρ h x a:=by
  rintro x a ⟨k',l',L',h1,h2,h3⟩
  by_cases e : x = b
  ·subst e
   simp only [fAx,bB,Ob.row.injEq] at h1
   obtain ⟨rfl,rfl⟩:=h1
   rcases h3 with ⟨i,u,hi,hu,rfl⟩ | ⟨es,j,h4,_,_⟩
   ·exact ⟨_,l,L',hb,h2,.inl ⟨i,u,(k2 i u hi hu).2,hu,rfl⟩⟩
   ·cases h4
  ·simp only [fAw _ _ _ _ e] at h1
   exact ⟨k',l',L',h1,h2,h3⟩
 have hro : ∀ x,isRo ⟨h.next,Tr.set (.row .sp (bR o l)) b h.bl⟩ x ↔ isRo h x:=by
  intro x
  by_cases e : x = b
  ·subst e; simp [isRo,fAx,hb]
  ·simp [isRo,fAw _ _ _ _ e]
 refine { gl:=H.gl,sz:=H.sz,nx:=H.nx,ro:=fun x a hc hr=>H.ro x a (hcl hc) ((hro x).1 hr),dom := ?_,lt:=H.lt,cell := ?_,spare := ?_,free := ?_,inj := ?_,ex := ?_,grone := ?_,itr := ?_,itj := ?_ }
 ·intro x ob hx
  by_cases e : x = b
  ·subst e; exact H.dom x _ hb
  ·simp only [fAw _ _ _ _ e] at hx; exact H.dom x ob hx
 ·intro x k' l' L' i u hx hL' hi hu
  by_cases e : x = b
  ·subst e
   simp only [fAx,bB,Ob.row.injEq] at hx
   obtain ⟨rfl,rfl⟩:=hx
   exact H.cell x _ l L' i u hb hL' (k2 i u hi hu).2 hu
  ·simp only [fAw _ _ _ _ e] at hx
   exact H.cell x k' l' L' i u hx hL' hi hu
 ·intro x l' L' es j hx hL' hj
  by_cases e : x = b
  ·subst e; simp [fAx] at hx
  ·simp only [fAw _ _ _ _ e] at hx
   exact H.spare x l' L' es j hx hL' hj
 ·intro x a hc hr
  exact H.free x a (hcl hc) (fun h=>hr ((hro x).2 h))
 ·intro x x' a hc hc' hr
  exact H.inj x x' a (hcl hc) (hcl hc') (fun h=>hr ((hro x).2 h))
 ·intro x l' L' hx hL'
  by_cases e : x = b
  ·subst e; simp [fAx] at hx
  ·simp only [fAw _ _ _ _ e] at hx
   exact H.ex x l' L' hx hL'
 ·intro x es l' i u hx hi
  by_cases e : x = b
  ·subst e; simp [fAx] at hx
  ·simp only [fAw _ _ _ _ e] at hx
   exact H.grone x es l' i u hx hi
 ·intro x o L' h0 hx hL'
  by_cases e : x = b
  ·subst e; simp [fAx] at hx; subst hx; cases h0
  ·simp only [fAw _ _ _ _ e] at hx
   exact H.itr x o L' h0 hx hL'
 ·intro x o x' o' L1 L2 h0 h0' hx hx' h1 h2 he
  by_cases e : x = b
  ·subst e; simp [fAx] at hx; subst hx; cases h0
  ·by_cases e' : x' = b
   ·subst e'; simp [fAx] at hx'; subst hx'; cases h0'
   ·simp only [fAw _ _ _ _ e] at hx
    simp only [fAw _ _ _ _ e'] at hx'
    exact H.itj x o x' o' L1 L2 h0 h0' hx hx' h1 h2 he
theorem cBa (H : HR G ρ h w) {size n : Nat} {x : DV} {x' : Value} {new : List DV} (h0 : 0 < size) (hx : VR ρ x x') (hs : aCd size x h = some (n,new)) :
  ∃ new' : List Value,VRs ρ new new' ∧ new.length = n * size ∧ (∀ u ∈ new,u.one = true) ∧ (Builtin.lenOf x').run P w = .ok n w ∧
   ∀ w1 : World,w1.heap = w.heap → (Builtin.lenOf x').run P w1 = .ok n w1 ∧ (Builtin.firstCells size n x').run P w1 = .ok new'.toArray w1:=by
 unfold aCd at hs
 split at hs <;> (try (cases hs; done))
 ·simp only [bB,bN] at hs
  obtain ⟨rfl,rfl⟩:=hs
  cases hx
  exact ⟨[],.nil,by simp,by simp,by simp [Builtin.lenOf],fun w1 _=>⟨by simp [Builtin.lenOf],by simp [Builtin.firstCells]⟩⟩
 ·simp only [bB,bN] at hs
  obtain ⟨rfl,rfl⟩:=hs
  cases hx with
  | le a c =>
   refine ⟨[],.nil,by simp,by simp,by simp [Builtin.lenOf],fun w1 _=>⟨by simp [Builtin.lenOf], ?_⟩⟩
   simp [Builtin.firstCells,loadCells,loadCellsFrom]
 ·rename_i b o m cap
  split at hs <;> (try (cases hs; done))
  rename_i cs hc
  simp only [bB,bN] at hs
  obtain ⟨rfl,rfl⟩:=hs
  cases hx with
  | l _ _ _ _ L hL =>
   obtain ⟨h1,h2,_,vs,h4,h5,h6⟩:=dO H hc hL
   refine ⟨vs,h4,h1,h2,by simp [Builtin.lenOf],fun w1 hw1=>⟨by simp [Builtin.lenOf], ?_⟩⟩
   have:=cK (P:=P) (w:=w1) (a:=eX L o) vs rfl (fun j u hj=>by have:=h6 j u hj; simpa [World.cell?,hw1] using this)
   rw [h5] at this
   simpa [Builtin.firstCells] using this
 ·rename_i b o m cap
  split at hs <;> (try (cases hs; done))
  rename_i cs hc
  simp only [bB,bN] at hs
  obtain ⟨rfl,rfl⟩:=hs
  cases hx with
  | lx _ _ _ _ L hL =>
   obtain ⟨h1,h2,_,vs,h4,h5,h6⟩:=dO H hc hL
   refine ⟨vs,h4,h1,h2,by simp [Builtin.lenOf],fun w1 hw1=>⟨by simp [Builtin.lenOf], ?_⟩⟩
   have:=cK (P:=P) (w:=w1) (a:=eX L o) vs rfl (fun j u hj=>by have:=h6 j u hj; simpa [World.cell?,hw1] using this)
   rw [h5] at this
   simpa [Builtin.firstCells] using this
 ·rename_i l
  split at hs <;> (try (cases hs; done))
  rename_i h1
  simp only [bB,bN] at hs
  obtain ⟨rfl,rfl⟩:=hs
  subst h1
  cases hx with
  | s _ bs hb =>
   have hlen : l.length = bs.size:=by rw [← hb,List.length_map,Array.length_toList]; rfl
   refine ⟨bs.data.toList.map fun b=>.int .u8 b.toNat, ?_,by simp, ?_,by simp [Builtin.lenOf,hlen],fun w1 _=>⟨by simp [Builtin.lenOf,hlen], ?_⟩⟩
   ·rw [← hb,List.map_map]
    exact VRs.map _ _ (fun c=>.i _ _) _
   ·intro u hu
    simp at hu
    obtain ⟨c,_,rfl⟩:=hu
    rfl
   ·simp only [Builtin.firstCells,Sem.run_pure,hlen]
    congr 1
    have he : (bs.extract 0 bs.size).data = bs.data:=by
     rw [ByteArray.data_extract]
     exact Array.extract_size
    rw [he]
    apply Array.toList_inj.1
    simp
theorem fK {t u e : TypeId} {i : TypeInfo} {ty : TypeId} {base : Option Addr} {sLen sCap n : Nat} {x' : Value} {d : TypeDesc} {new' : Array Value}
  (ht : P.underlying t = some (.slice e)) (hu : P.underlying u = some d) (hd : ∀ k,d ≠ .int k) (hi : P.info? e = some i) (hl : (Builtin.lenOf x').run P w = .ok n w)
  (hf : (Builtin.firstCells i.size n x').run P w = .ok new' w) (hle : sLen + n ≤ sCap) :
  (Builtin.append_ #[t,u] ty #[.slice base sLen sCap,x']).run P w =
   (match base with
    | some a=>(storeCells (a.add (sLen * i.size)) new'.toList).run P w
    | none=>.ok () w).andThen fun _ w'=>.ok (.slice base (sLen + n) sCap) w':=by
 have hz : (match d with | .int _=>true | _=>false) = false:=by cases d <;> first | rfl | exact absurd rfl (hd _)
 simp only [Builtin.append_,List.getElem?_toArray,List.getElem?_cons_zero,List.getElem?_cons_succ,Sem.run_bind,rU ht,rU hu,rS hi,Result.andThen_ok,Sem.run_pure]
 simp only [hz,Bool.false_eq_true,if_false,hl,Result.andThen_ok,Bool.not_false,if_true,hle,Sem.run_bind,hf]
 cases base <;> simp
theorem vN {t u e : TypeId} {i : TypeInfo} {z : Value} {ty : TypeId} {base : Option Addr} {sLen sCap n : Nat} {x' : Value} {d : TypeDesc} {old' new' : Array Value}
  (ht : P.underlying t = some (.slice e)) (hu : P.underlying u = some d) (hd : ∀ k,d ≠ .int k) (hi : P.info? e = some i) (hz : i.zero = some z) (hl : (Builtin.lenOf x').run P w = .ok n w)
  (ho : (Builtin.firstCells i.size sLen (.slice base sLen sCap)).run P w.drew = .ok old' w.drew) (hf : (Builtin.firstCells i.size n x').run P w.drew = .ok new' w.drew) (hgt : ¬ sLen + n ≤ sCap)
  (hb0 : 0 < i.bytes) (hroom : (sLen + n) * i.bytes ≤ eB) :
  ∃ newCap,sLen + n ≤ newCap ∧ (Builtin.append_ #[t,u] ty #[.slice base sLen sCap,x']).run P w =
   .ok (.slice (some ⟨w.heap.size,0,none⟩) (sLen + n) newCap) (w.drew.alloc (.cells (old' ++ new' ++ Builtin.zeroCells z.cells (newCap - (sLen + n))) e)):=by
 have hzd : (match d with | .int _=>true | _=>false) = false:=by cases d <;> first | rfl | exact absurd rfl (hd _)
 refine ⟨(Question.appendCap (sLen + n) sCap e).cut (w.tape w.drawn (.appendCap (sLen + n) sCap e)),by simp [Question.cut], ?_⟩
 have hsmall : sLen + n ≤ eB:=Nat.le_trans (Nat.le_mul_of_pos_right _ hb0) hroom
 have hmax : ¬ ((((sLen + n : Nat) : Int) > IntKind.i64.max) ∧ (False ∨ i.bytes = 0)):=by rintro ⟨_,h | h⟩ <;> omega
 have hfit:=growslice_fits (need:=sLen + n) (old:=sCap) (bytes:=i.bytes) (by omega) (by unfold eB at hroom; omega)
 simp only [Builtin.append_,List.getElem?_toArray,List.getElem?_cons_zero,List.getElem?_cons_succ,Sem.run_bind,rU ht,rU hu,rS hi,Result.andThen_ok,Sem.run_pure]
 simp only [hzd,Bool.false_eq_true,if_false,hl,Result.andThen_ok,Bool.not_false,if_true,hgt,Sem.run_bind,rI hi]
 rw [if_neg hmax]
 simp only [Sem.run_bind,rI hi,Result.andThen_ok,Sem.run_pure]
 rw [if_neg (by omega)]
 simp only [Sem.run_bind,run_choose,Question.forced,Bool.false_eq_true,if_false,Result.andThen_ok,rI hi,run_askRoom,World.drew_eq,ho,hf,rZ hi hz,Sem.run_pure]
 simp [newRow]
 rfl
theorem bTt (H : HR G ρ h w) {t u e : TypeId} {i : TypeInfo} {z : Value} {ty : TypeId} {d : TypeDesc} {s x : DV} {s' x' : Value}
  (ht : P.underlying t = some (.slice e)) (hu : P.underlying u = some d) (hd : ∀ k,d ≠ .int k) (hi : P.info? e = some i) (hz : i.zero = some z) (h0 : 0 < i.size) (hb0 : 0 < i.bytes) (hzs : z.cells.size = i.size)
  (hs : VR ρ s s') (hx : VR ρ x x') (hp : bH i.size i.bytes s x h = some (v,h1)) :
  SemOk P G ρ w v h1 (Builtin.append_ #[t,u] ty #[s',x']):=by
 unfold bH at hp
 split at hp <;> (try (cases hp; done))
 rename_i n new hsrc
 obtain ⟨new',n1,n2,n3,n4,n5⟩:=cBa (P:=P) H h0 hx hsrc
 have hnew : ∀ (base : Option Addr) (sLen sCap : Nat) (old : List DV) (old' : List Value) (hx : Hp) (Hx : HR G ρ hx w),hx.next = h.next → VRs ρ old old' → old.length = sLen * i.size → (∀ u ∈ old,u.one = true) →
   (Builtin.firstCells i.size sLen (.slice base sLen sCap)).run P w.drew = .ok old'.toArray w.drew → ¬ sLen + n ≤ sCap → (sLen + n) * i.bytes ≤ eB →
   v = .l h.next 0 (sLen + n) (sLen + n) → h1 = ⟨h.next.succ,Tr.set (.row (.gr i.size) (old ++ new)) h.next hx.bl⟩ → SemOk P G ρ w v h1 (Builtin.append_ #[t,u] ty #[.slice base sLen sCap,x']):=by
  intro base sLen sCap old old' hx Hx hnx o1 o2 o3 o4 hgt hroom hv hh
  subst hv hh
  obtain ⟨newCap,c1,c2⟩:=vN (P:=P) (w:=w) (ty:=ty) ht hu hd hi hz n4 o4 (n5 w.drew rfl).2 hgt hb0 hroom
  have hrow:=Hx.drew.newRow (.gr i.size) (old ++ new) (old' ++ new') (old'.toArray ++ new'.toArray ++ Builtin.zeroCells z.cells (newCap - (sLen + n))) e (newCap - (sLen + n)) (o1.append n1)
   (fun j y hj=>by
    have hlt : j < (old' ++ new').length:=by
     rcases Nat.lt_or_ge j (old' ++ new').length with h | h
     ·exact h
     ·rw [List.getElem?_eq_none h] at hj; cases hj
    rw [Array.getElem?_append_left (by simpa using hlt)]
    simpa using hj)
   (.inr ⟨i.size,rfl,by simp [Builtin.zeroCells,hzs],fun y hy=>by
    simp at hy
    rcases hy with hy | hy
    ·exact o3 y hy
    ·exact n3 y hy⟩)
  rw [hnx] at hrow
  refine ⟨_,_,_,c2, ?_, ?_,hrow, ?_⟩
  ·have:=Hx.exx ⟨w.heap.size,0,newCap - (sLen + n),none⟩
   rwa [hnx] at this
  ·have hvr : VR (mG ρ h.next ⟨w.heap.size,0,newCap - (sLen + n),none⟩) (.l h.next 0 (sLen + n) (sLen + n)) (.slice (some (eX ⟨w.heap.size,0,newCap - (sLen + n),none⟩ 0)) (sLen + n) (sLen + n + (newCap - (sLen + n)))):=.l _ _ _ _ _ (bW _ _ _)
   rw [show sLen + n + (newCap - (sLen + n)) = newCap from by omega] at hvr
   exact hvr
  ·exact (Kp.refl G w).drew.trans (dB (by simpa using H.sz) _)
 split at hp <;> (try (cases hp; done))
 ·cases hs
  split at hp
  ·rename_i hn0
   subst hn0
   simp only [bB,bN] at hp
   obtain ⟨rfl,rfl⟩:=hp
   refine SemOk.pure H .l0 ?_
   rw [fK ht hu hd hi n4 (n5 w rfl).2 (by omega)]
   simp
  ·rename_i hn0
   split at hp <;> (try (cases hp; done))
   rename_i hroom
   simp only [bB,bN] at hp
   obtain ⟨rfl,rfl⟩:=hp
   exact hnew none 0 0 [] [] h H rfl .nil (by simp) (by simp) (by simp [Builtin.firstCells]) (by omega) (by simpa using hroom) (by simp) (by simp)
 ·split at hp <;> (try (cases hp; done))
  rename_i hn0
  subst hn0
  simp only [bB,bN] at hp
  obtain ⟨rfl,rfl⟩:=hp
  cases hs with
  | le a c =>
   have hnew0 : new = []:=List.eq_nil_of_length_eq_zero (by rw [n2]; simp)
   subst hnew0
   cases n1
   refine SemOk.pure H (.le a c) ?_
   rw [fK ht hu hd hi n4 (n5 w rfl).2 (by omega)]
   simp [storeCells]
 ·rename_i b o len cap
  cases hs with
  | l _ _ _ _ L hL =>
   split at hp
   ·rename_i hle
    split at hp <;> (try (cases hp; done))
    rename_i h' hst
    simp only [bB,bN] at hp
    obtain ⟨rfl,rfl⟩:=hp
    obtain ⟨w',s1,s2,s3⟩:=gA (P:=P) H hst hL n1
    refine ⟨ρ,w',_, ?_,Ex.refl G ρ,.l b o _ _ L hL,s2,s3⟩
    rw [fK ht hu hd hi n4 (n5 w rfl).2 (by omega)]
    simp only [fX]
    rw [s1]
    simp
   ·rename_i hgt
    split at hp <;> (try (cases hp; done))
    rename_i k l old hb hold
    split at hp <;> (try (cases hp; done))
    rename_i hroom
    obtain ⟨o1,o2,⟨k0,l0,hb0',o3,o4⟩,old',o5,o6,o7⟩:=dO H hold hL
    rw [hb] at hb0'
    simp only [bB,Ob.row.injEq] at hb0'
    obtain ⟨rfl,rfl⟩:=hb0'
    have hfo : (Builtin.firstCells i.size len (.slice (some (eX L o)) len (cap + L.sp))).run P w.drew = .ok old'.toArray w.drew:=by
     have:=cK (P:=P) (w:=w.drew) (a:=eX L o) old' rfl (fun j y hj=>by simpa using o7 j y hj)
     rw [o6] at this
     simpa [Builtin.firstCells] using this
    split at hp <;> (try (cases hp; done))
    ·simp only [bB,bN] at hp
     have hsp:=H.ex b l L (.inl hb) hL
     exact hnew _ _ _ old old' h H rfl o5 o1 o2 hfo (by omega) hroom hp.1.symm hp.2.symm
    ·simp only [bB,bN] at hp
     have hsp:=H.ex b l L (.inr hb) hL
     exact hnew _ _ _ old old' h H rfl o5 o1 o2 hfo (by omega) hroom hp.1.symm hp.2.symm
    ·rename_i es
     split at hp <;> (try (cases hp; done))
     rename_i hes
     obtain ⟨rfl,hend⟩:=hes
     simp only [bB,bN] at hp
     by_cases hin : len + n ≤ cap + L.sp
     ·obtain ⟨rfl,rfl⟩:=hp
      have hroB : ¬ isRo h b:=by rintro ⟨l0,h0⟩; rw [hb] at h0; simp at h0
      have hlenle : len ≤ cap:=by
       simp only [List.length_drop] at o4
       have : len * i.size ≤ cap * i.size:=by omega
       exact Nat.le_of_mul_le_mul_right this h0
      have e1 : len * i.size ≤ cap * i.size:=Nat.mul_le_mul_right _ hlenle
      have e2 : (len + n) * i.size = len * i.size + n * i.size:=Nat.add_mul _ _ _
      have e3 : (cap + L.sp) * i.size = cap * i.size + L.sp * i.size:=Nat.add_mul _ _ _
      have e4 : (len + n) * i.size ≤ (cap + L.sp) * i.size:=Nat.mul_le_mul_right _ hin
      have e6 : 1 * i.size ≤ (cap + L.sp) * i.size:=Nat.mul_le_mul_right _ (by omega)
      have hn':=n1.length
      have hOC : ∀ j,j < l.length + L.sp * i.size → Claims ρ h b (eX L j):=by
       intro j hj
       by_cases hlt : j < l.length
       ·exact ⟨_,l,L,hb,hL,.inl ⟨j,l[j],by simp [hlt],H.grone b i.size l j _ hb (by simp [hlt]),rfl⟩⟩
       ·exact ⟨_,l,L,hb,hL,.inr ⟨i.size,j - l.length,rfl,by omega,by rw [show l.length + (j - l.length) = j from by omega]⟩⟩
      obtain ⟨w',s1,s2⟩:=iE (P:=P) (L:=L) new' (o + len * i.size) 0 w (fun j hj=>by
       have hc:=hOC (o + len * i.size + 0 + j) (by omega)
       exact ⟨H.lt_cell hc,(H.free b _ hc hroB).1⟩) (n1.mem_one n3)
      rw [Nat.add_zero] at s2
      have hBL : Own G L.bl:=by
       have hc:=hOC o (by omega)
       simpa [eX] using (H.free b _ hc hroB).2
      refine ⟨_,w',.slice (some (eX L o)) (len + n) (cap + L.sp), ?_,H.exx _, ?_,H.regrow hb hL h0 hend hlenle (by omega) hin o3 n2 n3 n1 s2,s2.below hBL⟩
      ·rw [fK ht hu hd hi n4 (n5 w rfl).2 hin]
       simp only [fX]
       rw [s1]
       simp
      ·have hvr : VR (mG ρ h.next ⟨L.bl,L.of + o,cap + L.sp - (len + n),if o = 0 then L.spot else none⟩) (.l h.next 0 (len + n) (len + n)) (.slice (some (eX ⟨L.bl,L.of + o,cap + L.sp - (len + n),if o = 0 then L.spot else none⟩ 0)) (len + n) (len + n + (cap + L.sp - (len + n)))):=.l _ _ _ _ _ (bW _ _ _)
       rw [show len + n + (cap + L.sp - (len + n)) = cap + L.sp from by omega] at hvr
       exact hvr
     ·exact hnew _ _ _ old old' _ (H.kill (o:=o) hb) rfl o5 o1 o2 hfo hin hroom hp.1.symm hp.2.symm
 ·rename_i b o len cap
  cases hs with
  | lx _ _ _ _ L hL =>
   split at hp
   ·rename_i hn0
    subst hn0
    split at hp <;> (try (cases hp; done))
    rename_i hle
    simp only [bB,bN] at hp
    obtain ⟨rfl,rfl⟩:=hp
    have hnew0 : new = []:=List.eq_nil_of_length_eq_zero (by rw [n2]; simp)
    subst hnew0
    cases n1
    refine SemOk.pure H (.lx b o len cap L hL) ?_
    rw [fK ht hu hd hi n4 (n5 w rfl).2 (by omega)]
    simp [storeCells]
   ·split at hp <;> (try (cases hp; done))
    rename_i hgt
    split at hp <;> (try (cases hp; done))
    rename_i old hold
    split at hp <;> (try (cases hp; done))
    rename_i hroom
    simp only [bB,bN] at hp
    obtain ⟨o1,o2,_,old',o5,o6,o7⟩:=dO H hold hL
    have hfo : (Builtin.firstCells i.size len (.slice (some (eX L o)) len cap)).run P w.drew = .ok old'.toArray w.drew:=by
     have:=cK (P:=P) (w:=w.drew) (a:=eX L o) old' rfl (fun j y hj=>by simpa using o7 j y hj)
     rw [o6] at this
     simpa [Builtin.firstCells] using this
    exact hnew _ _ _ old old' h H rfl o5 o1 o2 hfo hgt hroom hp.1.symm hp.2.symm
theorem cUg (H : HR G ρ h w) {t : TypeId} {x : DV} {x' : Value} (ht : P.underlying t = some .string) (hx : VR ρ x x') (hp : uO x h = some (v,h1)) : SemOk P G ρ w v h1 (Instr.range t x'):=by
 unfold uO at hp
 split at hp <;> (try (cases hp; done))
 simp only [bB,bN] at hp
 obtain ⟨rfl,rfl⟩:=hp
 cases hx with
 | s l bs hb =>
  refine ⟨_,w.alloc (.stringIter bs 0),.pointer (some ⟨w.heap.size,0,none⟩), ?_,H.exx _,.p _ 0 ⟨w.heap.size,0,0,none⟩ (bW _ _ _),H.newIter _ bs hb,dB H.sz _⟩
  simp only [Instr.range,Sem.run_bind,rU ht,Result.andThen_ok,Sem.run_pure,run_newObj]
  rfl
theorem dNs (H : HR G ρ h w) {ty : TypeId} {x : DV} {x' : Value} (hx : VR ρ x x') (hp : aFh x h = some (v,h1)) : SemOk P G ρ w v h1 (Instr.next x' true ty):=by
 unfold aFh at hp
 split at hp <;> (try (cases hp; done))
 rename_i b
 split at hp <;> (try (cases hp; done))
 rename_i l pos hb
 cases hx with
 | p _ _ L hL =>
  obtain ⟨i1,i2,_,i3,bs,rfl,i4⟩:=H.itr b (.it l pos) L rfl hb hL
  have ha : eX L 0 = ⟨L.bl,0,none⟩:=by simp [eX,i2]
  have hlen : l.length = bs.size:=by rw [← i4,List.length_map,Array.length_toList]; rfl
  have hget : (getObj L.bl).run P w = .ok (.stringIter bs pos) w:=by simp [getObj,Sem.run,i3]
  rw [ha]
  split at hp
  ·rename_i c hc
   split at hp <;> (try (cases hp; done))
   rename_i hc128
   simp only [bB,bN] at hp
   obtain ⟨rfl,rfl⟩:=hp
   have hlt : pos < bs.size:=by
    rcases Nat.lt_or_ge pos l.length with h | h
    ·omega
    ·rw [List.getElem?_eq_none h] at hc; cases hc
   have hcb : c = (bs[pos]'hlt).toNat:=by
    rw [← i4,List.getElem?_map,Array.getElem?_toList] at hc
    have hg : bs.data[pos]? = some (bs[pos]'hlt):=Array.getElem?_eq_some_iff.2 ⟨hlt,rfl⟩
    rw [hg] at hc
    simpa using hc.symm
   have hdec:=decode_ascii bs pos hlt (by omega)
   obtain ⟨s1,s2⟩:=H.setSg (ob:=.it l pos) (ob1:=.it l (pos + 1)) (xo1:=.stringIter bs (pos + 1)) rfl rfl hb hL i3 trivial ⟨bs,rfl,i4⟩
   refine ⟨ρ,_,.tuple #[.bool true,goInt pos,.int .i32 c], ?_,Ex.refl G ρ, ?_,s1,s2⟩
   ·simp only [Instr.next,Sem.run_bind,hget,Result.andThen_ok]
    simp only [hlt,if_true,hdec,Sem.run_bind,Sem.run_pure]
    have hset : (setObj L.bl (.stringIter bs (pos + 1))).run P w = .ok () { w with heap:=w.heap.setIfInBounds L.bl (.stringIter bs (pos + 1)) }:=by simp [setObj,Sem.run,i3]
    rw [hset,hcb]
    rfl
   ·exact .t _ _ (.cons _ _ _ _ (.b _) (.cons _ _ _ _ (.i _ _) (.cons _ _ _ _ (.i _ _) .nil)))
  ·rename_i hc
   simp only [bB,bN] at hp
   obtain ⟨rfl,rfl⟩:=hp
   have hge : ¬ pos < bs.size:=by
    intro hlt
    rw [List.getElem?_eq_none_iff] at hc
    omega
   refine SemOk.pure H (.t [.b false] #[.bool false] (.cons _ _ _ _ (.b _) .nil)) ?_
   simp only [Instr.next,Sem.run_bind,hget,Result.andThen_ok]
   simp [hge]
end
end Go.Dd

namespace Go.Dd
open Go.RowKit (Below)
section
variable {P : Program} {G : Gd} {ρ : Ren} {w : World} {h h1 : Hp} {v : DV}
theorem vU {d : TypeDesc} {x y : DV} {x' y' : Value} {r : Bool} (hx : VR ρ x x') (hy : VR ρ y y') (h : vP d x y = some r) :
  Instr.sameNow d x' y' = some r ∧ (r = true → Instr.sameBits 10000 y' x' = true):=by
 unfold vP at h
 split at h <;> (try (cases h; done))
 ·cases hx; cases hy
  split at h <;> (try (cases h; done))
  rename_i hk
  subst hk
  simp only [bB] at h
  subst h
  refine ⟨by simp [Instr.sameNow],fun h => ?_⟩
  simp only [beq_iff_eq] at h
  subst h
  rw [show (10000 : Nat) = 9999 + 1 from rfl]
  simp [Instr.sameBits]
 ·rename_i a b
  cases hx with
  | s _ a' ha =>
  cases hy with
  | s _ b' hb =>
  simp only [bB] at h
  have ea : a'.toList = a'.data.toList:=ByteArray.toList_eq a'
  have eb : b'.toList = b'.data.toList:=ByteArray.toList_eq b'
  have e1 : eqD a b = (a'.data.toList == b'.data.toList):=by rw [← ha,← hb,aKi]
  have e2 : (a'.data.toList == b'.data.toList) = (a' == b'):=by
   rw [Bool.eq_iff_iff,MapKept.bytes_beq]
   simp only [beq_iff_eq]
   constructor
   ·intro h
    cases a'; cases b'
    simp only [ByteArray.mk.injEq]
    exact Array.toList_inj.1 h
   ·intro h; rw [h]
  refine ⟨by simp [Instr.sameNow,← h,e1,e2],fun hr => ?_⟩
  rw [← h,e1,e2,MapKept.bytes_beq] at hr
  subst hr
  rw [show (10000 : Nat) = 9999 + 1 from rfl]
  simp [Instr.sameBits,MapKept.bytes_beq]
theorem sH {d : TypeDesc} {k : DV} {k' : Value} (hk : VR ρ k k') (nv : DV) : ∀ (es : List (DV × DV)) (l : List MapEntry) (i0 : Nat) (r : Option DV),
  VRs ρ (es.map (·.1)) (l.map (·.key)) → VRs ρ (es.map (·.2)) (l.map (·.val)) → gW d k es = some r →
  (r = none ∧ Instr.findNow d k' l i0 = some none ∧ tL d k nv es = es ++ [(k,nv)]) ∨
  (∃ v j v' e,r = some v ∧ Instr.findNow d k' l i0 = some (some (i0 + j,v')) ∧ VR ρ v v' ∧ l[j]? = some e ∧ Instr.sameBits 10000 e.key k' = true ∧ tL d k nv es = es.set j (k,nv))
 | [],[],i0,r,_,_,h=>by
  simp only [gW,bB] at h
  exact .inl ⟨h.symm,rfl,rfl⟩
 | [],_ :: _,_,_,h,_,_=>by cases h
 | _ :: _,[],_,_,h,_,_=>by cases h
 | e :: es,m :: l,i0,r,h1,h2,h=>by
  simp only [List.map_cons] at h1 h2
  cases h1 with
  | cons _ _ _ _ hk1 hs1 =>
  cases h2 with
  | cons _ _ _ _ hv1 hs2 =>
  simp only [gW] at h
  split at h
  ·rename_i hkd
   simp only [bB] at h
   obtain ⟨a1,a2⟩:=vU hk hk1 hkd
   refine .inr ⟨e.2,0,m.val,m,h.symm, ?_,hv1,rfl,a2 rfl, ?_⟩
   ·simp [Instr.findNow,a1]
   ·simp [tL,hkd]
  ·rename_i hkd
   obtain ⟨a1,a2⟩:=vU hk hk1 hkd
   rcases sH hk nv es l (i0 + 1) r hs1 hs2 h with ⟨b1,b2,b3⟩ | ⟨v,j,v',e',b1,b2,b3,b4,b5,b6⟩
   ·exact .inl ⟨b1,by simp [Instr.findNow,a1,b2],by simp [tL,hkd,b3]⟩
   ·exact .inr ⟨v,j + 1,v',e',b1,by simp [Instr.findNow,a1,b2]; omega,b3,by simpa using b4,b5,by simp [tL,hkd,b6]⟩
  ·cases h
theorem hZ {kt : TypeId} {d : TypeDesc} {k' : Value} {em : Bool} (ht : P.underlying kt = some d) (hd : iS d = true) : (Instr.checkKey em 10000 kt k').run P w = .ok () w:=by
 rw [show (10000 : Nat) = 9999 + 1 from rfl]
 unfold Instr.checkKey
 simp only [Sem.run_bind,rU ht,Result.andThen_ok]
 cases d <;> simp [iS] at hd <;> simp
theorem aZl {t : TypeId} {v : Value} {em : Bool} {n : Nat} (ht : uI P t = true) : (Instr.checkKey em (n + 1) t v).run P w = .ok () w:=by
 unfold uI at ht
 unfold Instr.checkKey
 split at ht
 ·rename_i hu
  simp only [Sem.run_bind,rU hu,Result.andThen_ok]
  simp
 ·rename_i hu
  simp only [Sem.run_bind,rU hu,Result.andThen_ok]
  simp
 ·cases ht
theorem bUc {t : TypeId} {cs : Array Value} {off : Nat} (ht : uI P t = true) (ho : off < cs.size) : ∃ v,(part t cs off).run P w = .ok v w:=by
 unfold uI at ht
 refine ⟨cs[off], ?_⟩
 unfold part isAgg
 split at ht
 ·rename_i hu
  simp only [Sem.run_bind,rU hu,Result.andThen_ok]
  simp [Array.getElem?_eq_getElem ho]
 ·rename_i hu
  simp only [Sem.run_bind,rU hu,Result.andThen_ok]
  simp [Array.getElem?_eq_getElem ho]
 ·cases ht
theorem bDc {kt : TypeId} {d : TypeDesc} {k : DV} {k' : Value} {em : Bool} (ht : P.underlying kt = some d) (hd : uJ P d = true) (hk : VR ρ k k') (ho : bTa d k = true) : (Instr.checkKey em 10000 kt k').run P w = .ok () w:=by
 cases d with
 | struct fs =>
  cases k with
  | a cs =>
   cases hk with
   | a _ x' hx =>
   have hl:=VRs.length hx
   change (fs.toList.all fun f=>uI P f.type) = true at hd
   change (fs.toList.all fun f=>Nat.blt f.offset cs.length) = true at ho
   rw [List.all_eq_true] at hd ho
   rw [show (10000 : Nat) = 9998 + 1 + 1 from rfl]
   unfold Instr.checkKey
   simp only [Sem.run_bind,rU ht,Result.andThen_ok]
   rw [← Array.forIn_toList]
   have key : ∀ l : List Field,(∀ f ∈ l,f ∈ fs.toList) → (forIn (m:=Sem) l PUnit.unit fun f _=>do
     if f.name ≠ "_" then
      Instr.checkKey em (9998 + 1) f.type (← part f.type x' f.offset)
      pure (ForInStep.yield PUnit.unit)
     else pure (ForInStep.yield PUnit.unit)).run P w = .ok PUnit.unit w:=by
    intro l hl'
    induction l with
    | nil=>rfl
    | cons f l ih =>
     have hf:=hl' f List.mem_cons_self
     have h1:=hd f hf
     have h2:=ho f hf
     have h3 : f.offset < x'.size:=by
      have : f.offset < cs.length:=by simpa using h2
      rw [hl] at this
      simpa using this
     obtain ⟨v,hv⟩:=bUc (w:=w) h1 h3
     have ih':=ih fun g hg=>hl' g (List.mem_cons_of_mem _ hg)
     rw [List.forIn_cons]
     by_cases hn : f.name ≠ "_"
     ·simp only [if_pos hn,Sem.run_bind,hv,Result.andThen_ok,aZl h1,Sem.run_pure]
      exact ih'
     ·simp only [if_neg hn,Sem.run_bind,Sem.run_pure,Result.andThen_ok]
      exact ih'
   have:=key fs.toList fun f hf=>hf
   simp at this ⊢
   rw [this]
   rfl
  | _=>cases ho
 | _=>cases hd
theorem aDx (H : HR G ρ h w) {x : DV} {x' : Value} {es : List (DV × DV)} (hx : VR ρ x x') (he : kL x h = some es) :
  ∃ l : List MapEntry,VRs ρ (es.map (·.1)) (l.map (·.key)) ∧ VRs ρ (es.map (·.2)) (l.map (·.val)) ∧
   ((x' = .map none ∧ l = []) ∨ (∃ r arr clock,x' = .map (some r) ∧ arr.toList = l ∧ w.heap[r]? = some (.map arr clock))):=by
 unfold kL at he
 split at he <;> (try (cases he; done))
 ·simp only [bB] at he
  subst he
  cases hx
  exact ⟨[],.nil,.nil,.inl ⟨rfl,rfl⟩⟩
 ·split at he <;> (try (cases he; done))
  rename_i b _ es' hb
  simp only [bB] at he
  subst he
  cases hx with
  | m _ L hL =>
   obtain ⟨_,_,xo,h3,arr,cl,rfl,h4,h5,_⟩:=H.itr b _ L rfl hb hL
   exact ⟨arr.toList,h4,h5,.inr ⟨_,_,_,rfl,rfl,h3⟩⟩
theorem sL {fs : Array Field} {k : DV} : ∀ {es : List (DV × DV)} {r : Option DV},gW (.struct fs) k es = some r → es = [] ∧ r = none
 | [],r,h=>by
  simp only [gW,bB] at h
  exact ⟨rfl,h.symm⟩
 | e :: es,r,h=>by
  simp only [gW,vP] at h
  cases h
theorem bDw (H : HR G ρ h w) {t kt et : TypeId} {d : TypeDesc} {i : TypeInfo} {z : Value} {ok : Bool} {x k : DV} {x' k' : Value} (ht : P.underlying t = some (.map kt et))
  (hd : P.underlying kt = some d) (hi : P.info? et = some i) (hz : i.zero = some z) (hkt : uJ P d = true) (hks : bTa d k = true) (hx : VR ρ x x') (hk : VR ρ k k') (hp : dV d (zvD z) ok x k h = some (v,h1)) :
  SemOk P G ρ w v h1 (Instr.lookup t x' k' ok):=by
 cases d with
 | struct fs =>
  unfold dV at hp
  split at hp <;> (try (cases hp; done))
  rename_i es he
  obtain ⟨l,l1,l2,l3⟩:=aDx H hx he
  split at hp <;> (try (cases hp; done))
  ·rename_i hf
   obtain ⟨_,e⟩:=sL hf
   cases e
  ·rename_i hf
   obtain ⟨e,_⟩:=sL hf
   subst e
   have hl : l = []:=by
    cases l with
    | nil=>rfl
    | cons _ _=>cases l1
   subst hl
   simp only [bB,bN] at hp
   obtain ⟨rfl,rfl⟩:=hp
   have hck:=fun em=>bDc (w:=w) (em:=em) hd hkt hk hks
   have hrun : (Instr.lookup t x' k' ok).run P w = .ok (if ok then .tuple #[z,.bool false] else z) w:=by
    have hf : (Instr.findKey kt k' []).run P w = .ok none w:=by
     simp only [Instr.findKey,Sem.run_bind,rU hd,Result.andThen_ok,Instr.findNow,Sem.run_pure]
    rcases l3 with ⟨rfl,_⟩ | ⟨r0,arr,cl,rfl,h2,h3⟩
    ·simp only [Instr.lookup,Sem.run_bind,rU ht,Result.andThen_ok,Sem.run_pure,hck,hf,rZ hi hz]
    ·have hg : (getObj r0).run P w = .ok (.map arr cl) w:=by simp [getObj,Sem.run,h3]
     simp only [Instr.lookup,Sem.run_bind,rU ht,Result.andThen_ok,Sem.run_pure,hg,hck,h2,hf,rZ hi hz]
   refine SemOk.pure H ?_ hrun
   cases ok
   ·exact fCl ρ z
   ·exact .t _ _ (.cons _ _ _ _ (fCl ρ z) (.cons _ _ _ _ (.b false) .nil))
 | _=>cases hkt
theorem bVb (H : HR G ρ h w) {t kt et : TypeId} {d : TypeDesc} {i : TypeInfo} {z : Value} {ok : Bool} {x k : DV} {x' k' : Value} (ht : P.underlying t = some (.map kt et))
  (hd : P.underlying kt = some d) (hi : P.info? et = some i) (hz : i.zero = some z) (hkt : iS d = true) (hx : VR ρ x x') (hk : VR ρ k k') (hp : dV d (zvD z) ok x k h = some (v,h1)) :
  SemOk P G ρ w v h1 (Instr.lookup t x' k' ok):=by
 unfold dV at hp
 split at hp <;> (try (cases hp; done))
 rename_i es he
 obtain ⟨l,l1,l2,l3⟩:=aDx H hx he
 have hrun : ∀ (r : Option (Nat × Value)) (v' : Value) (b : Bool),Instr.findNow d k' l 0 = some r → (match r with
   | some (_,v)=>v' = v ∧ b = true
   | none=>v' = z ∧ b = false) → (Instr.lookup t x' k' ok).run P w = .ok (if ok then .tuple #[v',.bool b] else v') w:=by
  intro r v' b hr hv
  have hf : ∀ es : List MapEntry,es = l → (Instr.findKey kt k' es).run P w = .ok r w:=by
   intro es hes
   simp only [Instr.findKey,Sem.run_bind,rU hd,Result.andThen_ok,hes,hr,Sem.run_pure]
  rcases l3 with ⟨rfl,rfl⟩ | ⟨r0,arr,cl,rfl,h2,h3⟩
  ·simp only [Instr.lookup,Sem.run_bind,rU ht,Result.andThen_ok,Sem.run_pure,hZ hd hkt,hf _ rfl]
   cases r with
   | none=>obtain ⟨rfl,rfl⟩:=hv; simp [rZ hi hz]
   | some p=>obtain ⟨rfl,rfl⟩:=hv; simp
  ·have hg : (getObj r0).run P w = .ok (.map arr cl) w:=by simp [getObj,Sem.run,h3]
   simp only [Instr.lookup,Sem.run_bind,rU ht,Result.andThen_ok,Sem.run_pure,hg,hZ hd hkt,hf _ h2]
   cases r with
   | none=>obtain ⟨rfl,rfl⟩:=hv; simp [rZ hi hz]
   | some p=>obtain ⟨rfl,rfl⟩:=hv; simp
 have hvr : ∀ (u : DV) (u' : Value) (b : Bool),VR ρ u u' → VR ρ (bif ok then .t [u,.b b] else u) (if ok then .tuple #[u',.bool b] else u'):=by
  intro u u' b hu
  cases ok
  ·exact hu
  ·exact .t _ _ (.cons _ _ _ _ hu (.cons _ _ _ _ (.b b) .nil))
 split at hp <;> (try (cases hp; done))
 ·rename_i u hf
  simp only [bB,bN] at hp
  obtain ⟨rfl,rfl⟩:=hp
  rcases sH hk .u es l 0 _ l1 l2 hf with ⟨b1,_⟩ | ⟨v,j,v',e',b1,b2,b3,_⟩
  ·cases b1
  ·simp only [bB] at b1
   subst b1
   exact SemOk.pure H (hvr _ _ true b3) (hrun _ v' true b2 ⟨rfl,rfl⟩)
 ·rename_i hf
  simp only [bB,bN] at hp
  obtain ⟨rfl,rfl⟩:=hp
  rcases sH hk .u es l 0 _ l1 l2 hf with ⟨b1,b2,_⟩ | ⟨v,j,v',e',b1,b2,b3,_⟩
  ·exact SemOk.pure H (hvr _ _ false (fCl ρ z)) (hrun _ z false b2 ⟨rfl,rfl⟩)
  ·cases b1
theorem VRs.set {ρ : Ren} : ∀ {x : List DV} {x' : List Value} (j : Nat) {u : DV} {u' : Value},VRs ρ x x' → VR ρ u u' → VRs ρ (x.set j u) (x'.set j u')
 | _,_,_,_,_,.nil,_=>.nil
 | _,_,0,_,_,.cons x x' l l' h hs,hu=>.cons _ _ _ _ hu hs
 | _,_,j + 1,_,_,.cons x x' l l' h hs,hu=>.cons _ _ _ _ h (VRs.set j hs hu)
theorem mB {α β : Type} (f : α → β) (l : List α) (j : Nat) (x : α) : (l.set j x).map f = (l.map f).set j (f x):=by
 simp [List.map_set]
theorem nN {arr : Array MapEntry} {j : Nat} {f : MapEntry → MapEntry} (hf : ∀ e,(f e).born = e.born) (h : ∀ (i : Nat) (e : MapEntry),arr[i]? = some e → e.born = i) : ∀ (i : Nat) (e : MapEntry),(arr.modify j f)[i]? = some e → e.born = i:=by
 intro i e he
 rw [Array.getElem?_modify] at he
 split at he
 ·cases hg : arr[i]? with
  | none=>rw [hg] at he; cases he
  | some e0=>rw [hg] at he; simp at he; rw [← he,hf]; exact h i e0 hg
 ·exact h i e he
theorem aFk {arr : Array MapEntry} {x : MapEntry} (hx : x.born = arr.size) (h : ∀ (i : Nat) (e : MapEntry),arr[i]? = some e → e.born = i) : ∀ (i : Nat) (e : MapEntry),(arr.push x)[i]? = some e → e.born = i:=by
 intro i e he
 rw [Array.getElem?_push] at he
 split at he
 ·rename_i hi
  simp only [bB] at he
  rw [← he,hx,hi]
 ·exact h i e he
theorem aDl {α : Type} {x : α} : ∀ {l : List α} {j : Nat},l[j]? = some x → l.set j x = l
 | [],_,h=>by simp at h
 | y :: l,0,h=>by simp at h; subst h; rfl
 | y :: l,j + 1,h=>by simp at h; simp [aDl h]
theorem aZy (H : HR G ρ h w) {t : TypeId} (hp : eE h = some (v,h1)) : SemOk P G ρ w v h1 (Instr.makeMap t none):=by
 simp only [eE,bB,bN] at hp
 obtain ⟨rfl,rfl⟩:=hp
 refine ⟨_,w.alloc (.map #[] 0),.map (some w.heap.size), ?_,H.exx _,.m _ ⟨w.heap.size,0,0,none⟩ (bW _ _ _),H.newSg _ rfl _ ⟨#[],0,rfl,.nil,.nil,rfl,by simp⟩,dB H.sz _⟩
 simp only [Instr.makeMap,Sem.run_bind,Sem.run_pure,Result.andThen_ok,run_newObj]
 rfl
theorem aFm (H : HR G ρ h w) {t kt et : TypeId} {d : TypeDesc} {x k u : DV} {x' k' u' : Value} (ht : P.underlying t = some (.map kt et))
  (hd : P.underlying kt = some d) (hkt : iS d = true) (hx : VR ρ x x') (hk : VR ρ k k') (hu : VR ρ u u') (hp : fW d x k u h = some (v,h1)) :
  ∃ w',(Instr.mapUpdate t x' k' u').run P w = .ok () w' ∧ HR G ρ h1 w' ∧ Kp G w w' ∧ v = aT:=by
 unfold fW at hp
 split at hp <;> (try (cases hp; done))
 rename_i b
 split at hp <;> (try (cases hp; done))
 rename_i es hb
 split at hp <;> (try (cases hp; done))
 rename_i r hf
 simp only [bB,bN] at hp
 obtain ⟨rfl,rfl⟩:=hp
 cases hx with
 | m _ L hL =>
  obtain ⟨o1,o2,xo,h3,arr,cl,rfl,h4,h5,h6,h7⟩:=H.itr b _ L rfl hb hL
  have hg : (getObj L.bl).run P w = .ok (.map arr cl) w:=by simp [getObj,Sem.run,h3]
  have hset : ∀ xo1,(setObj L.bl xo1).run P w = .ok () { w with heap:=w.heap.setIfInBounds L.bl xo1 }:=by intro xo1; simp [setObj,Sem.run,h3]
  have hlen : es.length = arr.toList.length:=by have:=h4.length; simpa using this
  rcases sH hk u es arr.toList 0 r h4 h5 hf with ⟨b1,b2,b3⟩ | ⟨v0,j,v',e',b1,b2,b3,b4,b5,b6⟩
  ·obtain ⟨s1,s2⟩:=H.setSg (ob:=.mp es) (ob1:=.mp (tL d k u es)) (xo1:=.map (arr.push { key:=k',val:=u',born:=cl }) (cl + 1)) rfl rfl hb hL h3 trivial
    ⟨_,_,rfl,by rw [b3]; simpa using h4.append (.cons _ _ _ _ hk .nil),by rw [b3]; simpa using h5.append (.cons _ _ _ _ hu .nil),by simp [h6],aFk h6 h7⟩
   refine ⟨_, ?_,s1,s2,rfl⟩
   have hfk : (Instr.findKey kt k' arr.toList).run P w = .ok none w:=by
    simp only [Instr.findKey,Sem.run_bind,rU hd,Result.andThen_ok,b2,Sem.run_pure]
   simp only [Instr.mapUpdate,Sem.run_bind,rU ht,Result.andThen_ok,hg,hZ hd hkt,hfk,hset]
  ·obtain ⟨s1,s2⟩:=H.setSg (ob:=.mp es) (ob1:=.mp (tL d k u es)) (xo1:=.map (arr.modify j fun e=>{ e with key:=k',val:=u' }) cl) rfl rfl hb hL h3 trivial
    ⟨_,_,rfl,by
     rw [b6,mB]
     have e : (arr.modify j fun e=>{ e with key:=k',val:=u' }).toList.map (·.key) = (arr.toList.map (·.key)).set j k':=by
      simp [Array.toList_modify,List.modify_eq_set,b4]
     rw [e]; exact h4.set j hk,by
     rw [b6,mB]
     have e : (arr.modify j fun e=>{ e with key:=k',val:=u' }).toList.map (·.val) = (arr.toList.map (·.val)).set j u':=by
      simp [Array.toList_modify,List.modify_eq_set,b4]
     rw [e]; exact h5.set j hu,by simpa using h6,nN (fun _=>rfl) h7⟩
   refine ⟨_, ?_,s1,s2,rfl⟩
   rw [Nat.zero_add] at b2
   have hfk : (Instr.findKey kt k' arr.toList).run P w = .ok (some (j,v')) w:=by
    simp only [Instr.findKey,Sem.run_bind,rU hd,Result.andThen_ok,b2,Sem.run_pure]
   have hkey : ((arr[j]?).map (·.key)).getD k' = e'.key:=by
    rw [← Array.getElem?_toList,b4]; rfl
   simp only [Instr.mapUpdate,Sem.run_bind,rU ht,Result.andThen_ok,hg,hZ hd hkt,hfk,hkey,Instr.keyThatStays,b5,if_true,Sem.run_pure,hset]
theorem aMx (H : HR G ρ h w) {t e : TypeId} {i : TypeInfo} {z : Value} {n c : DV} {n' c' : Value} (ht : P.underlying t = some (.slice e)) (hi : P.info? e = some i) (hz : i.zero = some z)
  (h0 : 0 < i.size) (hzs : z.cells.size = i.size) (hn : VR ρ n n') (hc : VR ρ c c') (hp : cI i.size i.bytes (pD z) n c h = some (v,h1)) :
  SemOk P G ρ w v h1 (Instr.makeSlice t n' c'):=by
 unfold cI at hp
 split at hp <;> (try (cases hp; done))
 rename_i n c
 split at hp <;> (try (cases hp; done))
 rename_i hb
 obtain ⟨b1,b2,b3,b4,b5⟩:=hb
 simp only [bB,bN] at hp
 obtain ⟨rfl,rfl⟩:=hp
 cases hn
 cases hc
 have hw : ∀ m : Int,0 ≤ m → m < 2 ^ 32 → IntKind.i64.wrap m = m:=by
  intro m h1 h2
  simp [IntKind.wrap,IntKind.signed,IntKind.bits,Int.bmod]
  omega
 have hwc:=hw c (by omega) b5
 have hwn:=hw n b1 (by omega)
 obtain ⟨m,rfl⟩:=Int.eq_ofNat_of_zero_le (show 0 ≤ c by omega)
 obtain ⟨k,rfl⟩:=Int.eq_ofNat_of_zero_le b1
 simp only [Int.toNat_natCast] at b3 b4 ⊢
 have hbig : ∀ j : Nat,j ≤ m → ((decide ((j : Int) < 0) || decide ((i.bytes : Int) * j > 2 ^ 48)) = false):=by
  intro j hj
  have h1 : j * i.bytes ≤ m * i.bytes:=Nat.mul_le_mul_right _ hj
  have h2 : ((i.bytes : Int) * j) = ((j * i.bytes : Nat) : Int):=by rw [Nat.mul_comm]; simp
  rw [h2]
  simp
  omega
 have hroom : ¬ (m * i.bytes > roomBytes):=by unfold roomBytes; omega
 obtain ⟨out',hout,hcells⟩ : ∃ out' : Array Value,out' = (Array.range (m * i.size)).map ((if m * i.size = 0 then (#[] : Array Value) else z.cells)[· % (if m * i.size = 0 then (#[] : Array Value) else z.cells).size]!) ∧
   VRs ρ (List.replicate m (pD z)).flatten out'.toList:=by
  refine ⟨_,rfl, ?_⟩
  by_cases h : m * i.size = 0
  ·have : m = 0:=by rcases Nat.mul_eq_zero.1 h with e | e <;> omega
   subst this
   simp
   exact .nil
  ·rw [if_neg h,← hzs,nI z.cells m (by omega)]
   exact fBe (fCf ρ z) m
 have hrow:=H.newRow .ex (List.replicate m (pD z)).flatten out'.toList out' e 0 hcells (fun j u hj=>by simpa using hj) (.inl ⟨rfl,rfl⟩)
 refine ⟨_,w.alloc (.cells out' e),.slice (some ⟨w.heap.size,0,none⟩) k m, ?_,H.exx _,.l _ 0 k m ⟨w.heap.size,0,0,none⟩ (bW _ _ _),hrow,dB H.sz _⟩
 have ha : ∀ (q : Nat),(asInt (.int .i64 (q : Int))).run P w = .ok (q : Int) w:=by intro q; simp [asInt,asIntOf]
 have hkm : ¬ ((k : Int) < 0):=by omega
 have hkm2 : ¬ ((k : Int) > (m : Int)):=by omega
 simp only [Instr.makeSlice,Sem.run_bind,rU ht,rI hi,Result.andThen_ok,ha,hwc,hwn]
 have hb1:=hbig m (Nat.le_refl _)
 simp only [hb1,Bool.false_or,hkm,hkm2,decide_false,Bool.or_self,Bool.false_eq_true,if_false]
 simp only [Int.toNat_natCast,askRoom,hroom,if_false,Sem.run_bind,Sem.run_pure,Result.andThen_ok,rS hi]
 by_cases h : m * i.size = 0
 ·simp only [h,if_true,Sem.run_pure,Result.andThen_ok] at hout ⊢
  simp only [Sem.run_bind,Sem.run_pure,Result.andThen_ok]
  rw [← hout]
  simp [newRow]
 ·simp only [h,if_false,Sem.run_bind,Sem.run_pure,Result.andThen_ok,rZ hi hz] at hout ⊢
  rw [← hout]
  simp [newRow]
theorem cNt (H : HR G ρ h w) {t e : TypeId} {i : TypeInfo} {z : Value} {ty : TypeId} {x : DV} {x' : Value}
  (ht : P.underlying t = some (.slice e)) (hi : P.info? e = some i) (hz : i.zero = some z) (h0 : 0 < z.cells.size)
  (hx : VR ρ x x') (hp : kY (pD z) x h = some (v,h1)) : SemOk P G ρ w v h1 (Builtin.clear_ #[t] ty #[x']):=by
 unfold kY at hp
 split at hp <;> (try (cases hp; done))
 ·simp only [bB,bN] at hp
  obtain ⟨rfl,rfl⟩:=hp
  cases hx
  refine SemOk.pure H (.t [] #[] .nil) ?_
  simp only [Builtin.clear_,List.getElem?_toArray,List.getElem?_cons_zero,Sem.run_bind,rU ht,Result.andThen_ok]
  simp
 ·simp only [bB,bN] at hp
  obtain ⟨rfl,rfl⟩:=hp
  cases hx
  refine SemOk.pure H (.t [] #[] .nil) ?_
  simp only [Builtin.clear_,List.getElem?_toArray,List.getElem?_cons_zero,Sem.run_bind,rU ht,Result.andThen_ok]
  simp
 ·rename_i b o n cap
  split at hp
  ·rename_i hn
   subst hn
   simp only [bB,bN] at hp
   obtain ⟨rfl,rfl⟩:=hp
   cases hx
   refine SemOk.pure H (.t [] #[] .nil) ?_
   simp only [Builtin.clear_,List.getElem?_toArray,List.getElem?_cons_zero,Sem.run_bind,rU ht,Result.andThen_ok]
   simp
  ·rename_i hn
   split at hp <;> (try (cases hp; done))
   rename_i h' hst
   simp only [bB,bN] at hp
   obtain ⟨rfl,rfl⟩:=hp
   cases hx with
   | l _ _ _ _ L hL =>
    have hvs : VRs ρ (List.replicate n (pD z)).flatten (Builtin.zeroCells z.cells n).toList:=by
     unfold Builtin.zeroCells
     rw [nI z.cells n h0]
     exact fBe (fCf ρ z) n
    obtain ⟨w',s1,s2,s3⟩:=gA (P:=P) H hst hL hvs
    refine ⟨ρ,w',.tuple #[], ?_,Ex.refl G ρ,.t [] #[] .nil,s2,s3⟩
    obtain ⟨n,rfl⟩ : ∃ m,n = m + 1:=⟨n - 1,by omega⟩
    simp only [Builtin.clear_,List.getElem?_toArray,List.getElem?_cons_zero,Sem.run_bind,rU ht,Result.andThen_ok,rZ hi hz,s1,Sem.run_pure]
theorem zH {d : TypeDesc} {k : DV} {k' : Value} (hk : VR ρ k k') : ∀ (es : List (DV × DV)) (l : List MapEntry) (i0 : Nat) (r : Option (Nat × DV)),
  VRs ρ (es.map (·.1)) (l.map (·.key)) → VRs ρ (es.map (·.2)) (l.map (·.val)) → aSl d k es i0 = some r →
  (r = none ∧ Instr.findNow d k' l i0 = some none) ∨
  (∃ v j v' e,r = some (i0 + j,v) ∧ Instr.findNow d k' l i0 = some (some (i0 + j,v')) ∧ VR ρ v v' ∧ l[j]? = some e ∧ e.val = v' ∧ Instr.sameBits 10000 e.key k' = true)
 | [],[],i0,r,_,_,h=>by
  simp only [aSl,bB] at h
  exact .inl ⟨h.symm,rfl⟩
 | [],_ :: _,_,_,h,_,_=>by cases h
 | _ :: _,[],_,_,h,_,_=>by cases h
 | e :: es,m :: l,i0,r,h1,h2,h=>by
  simp only [List.map_cons] at h1 h2
  cases h1 with
  | cons _ _ _ _ hk1 hs1 =>
  cases h2 with
  | cons _ _ _ _ hv1 hs2 =>
  simp only [aSl] at h
  split at h
  ·rename_i hkd
   simp only [bB] at h
   obtain ⟨a1,a2⟩:=vU hk hk1 hkd
   exact .inr ⟨e.2,0,m.val,m,by simpa using h.symm,by simp [Instr.findNow,a1],hv1,rfl,rfl,a2 rfl⟩
  ·rename_i hkd
   obtain ⟨a1,a2⟩:=vU hk hk1 hkd
   rcases zH hk es l (i0 + 1) r hs1 hs2 h with ⟨b1,b2⟩ | ⟨v,j,v',e',b1,b2,b3,b4,b5,b6⟩
   ·exact .inl ⟨b1,by simp [Instr.findNow,a1,b2]⟩
   ·exact .inr ⟨v,j + 1,v',e',by rw [b1]; congr 2; omega,by simp [Instr.findNow,a1,b2]; omega,b3,by simpa using b4,b5,b6⟩
  ·cases h
theorem aUe (H : HR G ρ h w) {t kt et : TypeId} {d : TypeDesc} {i : TypeInfo} {z : Value} {x k : DV} {x' k' : Value} (ht : P.underlying t = some (.map kt et))
  (hd : P.underlying kt = some d) (hi : P.info? et = some i) (hz : i.zero = some z) (hkt : iS d = true) (hx : VR ρ x x') (hk : VR ρ k k') (hp : jE d (zvD z) x k h = some (v,h1)) :
  SemOk P G ρ w v h1 (Instr.mapEntry t x' k'):=by
 unfold jE at hp
 split at hp <;> (try (cases hp; done))
 rename_i b
 split at hp <;> (try (cases hp; done))
 rename_i es hb
 cases hx with
 | m _ L hL =>
  obtain ⟨o1,o2,xo,h3,arr,cl,rfl,h4,h5,h6,h7⟩:=H.itr b _ L rfl hb hL
  have hg : (getObj L.bl).run P w = .ok (.map arr cl) w:=by simp [getObj,Sem.run,h3]
  have hset : ∀ xo1,(setObj L.bl xo1).run P w = .ok () { w with heap:=w.heap.setIfInBounds L.bl xo1 }:=by intro xo1; simp [setObj,Sem.run,h3]
  have hlen : es.length = arr.size:=by have:=h4.length; simpa using this
  split at hp <;> (try (cases hp; done))
  ·rename_i j u hf
   simp only [bB,bN] at hp
   obtain ⟨rfl,rfl⟩:=hp
   rcases zH hk es arr.toList 0 _ h4 h5 hf with ⟨b1,_⟩ | ⟨v0,j0,v',e',b1,b2,b3,b4,b5,b6⟩
   ·cases b1
   ·simp only [bB,bN,Nat.zero_add] at b1
    obtain ⟨rfl,rfl⟩:=b1
    rw [Nat.zero_add] at b2
    have b4' : arr[j]? = some e':=by rw [← Array.getElem?_toList]; exact b4
    obtain ⟨s1,s2⟩:=H.setSg (ob:=.mp es) (ob1:=.mp (es.set j (k,u))) (xo1:=.map (arr.modify j fun e=>{ e with key:=k' }) cl) rfl rfl hb hL h3 trivial
     ⟨_,_,rfl,by
      rw [mB]
      have e : (arr.modify j fun e=>{ e with key:=k' }).toList.map (·.key) = (arr.toList.map (·.key)).set j k':=by
       simp [Array.toList_modify,List.modify_eq_set,b4]
      rw [e]; exact h4.set j hk,by
      rw [mB]
      have e : (arr.modify j fun e=>{ e with key:=k' }).toList.map (·.val) = (arr.toList.map (·.val)).set j v':=by
       simp [Array.toList_modify,List.modify_eq_set,b4,b5]
      rw [e]; exact h5.set j b3,by simpa using h6,nN (fun _=>rfl) h7⟩
    refine ⟨ρ,_,.tuple #[v',goInt j], ?_,Ex.refl G ρ,.t _ _ (.cons _ _ _ _ b3 (.cons _ _ _ _ (.i _ _) .nil)),s1,s2⟩
    have hfk : (Instr.findKey kt k' arr.toList).run P w = .ok (some (j,v')) w:=by
     simp only [Instr.findKey,Sem.run_bind,rU hd,Result.andThen_ok,b2,Sem.run_pure]
    have hkey : ((arr[j]?).map (·.key)).getD k' = e'.key:=by rw [b4']; rfl
    have hborn : ((arr[j]?).map (fun x=>(x.born : Int))).getD 0 = (j : Int):=by rw [b4']; show ((e'.born : Int)) = j; rw [h7 j e' b4']
    simp only [Instr.mapEntry,Sem.run_bind,rU ht,Result.andThen_ok,hg,hZ hd hkt,hfk,hkey,hborn,Instr.keyThatStays,b6,if_true,Sem.run_pure,hset]
  ·rename_i hf
   simp only [bB,bN] at hp
   obtain ⟨rfl,rfl⟩:=hp
   rcases zH hk es arr.toList 0 _ h4 h5 hf with ⟨b1,b2⟩ | ⟨v0,j0,v',e',b1,_⟩
   ·obtain ⟨s1,s2⟩:=H.setSg (ob:=.mp es) (ob1:=.mp (es ++ [(k,zvD z)])) (xo1:=.map (arr.push { key:=k',val:=z,born:=cl }) (cl + 1)) rfl rfl hb hL h3 trivial
     ⟨_,_,rfl,by simpa using h4.append (.cons _ _ _ _ hk .nil),by simpa using h5.append (.cons _ _ _ _ (fCl ρ z) .nil),by simp [h6],aFk h6 h7⟩
    refine ⟨ρ,_,.tuple #[z,goInt cl], ?_,Ex.refl G ρ,.t _ _ (.cons _ _ _ _ (fCl ρ z) (.cons _ _ _ _ (by rw [hlen,← h6]; exact .i _ _) .nil)),s1,s2⟩
    have hfk : (Instr.findKey kt k' arr.toList).run P w = .ok none w:=by
     simp only [Instr.findKey,Sem.run_bind,rU hd,Result.andThen_ok,b2,Sem.run_pure]
    simp only [Instr.mapEntry,Sem.run_bind,rU ht,Result.andThen_ok,hg,hZ hd hkt,hfk,rZ hi hz,Sem.run_pure,hset]
   ·cases b1
theorem aEl (H : HR G ρ h w) {t : TypeId} {x s u : DV} {x' s' u' : Value} (hx : VR ρ x x') (hs : VR ρ s s') (hu : VR ρ u u') (hp : gH x s u h = some (v,h1)) :
  ∃ w',(Instr.entryStore t x' s' u').run P w = .ok () w' ∧ HR G ρ h1 w' ∧ Kp G w w' ∧ v = aT:=by
 unfold gH at hp
 split at hp <;> (try (cases hp; done))
 rename_i b j
 split at hp <;> (try (cases hp; done))
 rename_i es hb
 split at hp <;> (try (cases hp; done))
 rename_i e hj
 simp only [bB,bN] at hp
 obtain ⟨rfl,rfl⟩:=hp
 cases hs
 cases hx with
 | m _ L hL =>
  obtain ⟨o1,o2,xo,h3,arr,cl,rfl,h4,h5,h6,h7⟩:=H.itr b _ L rfl hb hL
  have hg : (getObj L.bl).run P w = .ok (.map arr cl) w:=by simp [getObj,Sem.run,h3]
  have hset : ∀ xo1,(setObj L.bl xo1).run P w = .ok () { w with heap:=w.heap.setIfInBounds L.bl xo1 }:=by intro xo1; simp [setObj,Sem.run,h3]
  have hlen : es.length = arr.size:=by have:=h4.length; simpa using this
  have hjl : j < es.length:=by
   rcases Nat.lt_or_ge j es.length with h | h
   ·exact h
   ·rw [List.getElem?_eq_none h] at hj; cases hj
  have hja : arr[j]? = some (arr[j]'(by omega)):=Array.getElem?_eq_getElem (by omega)
  have hji : arr.toList[j]? = some (arr[j]'(by omega)):=by rw [Array.getElem?_toList]; exact hja
  obtain ⟨s1,s2⟩:=H.setSg (ob:=.mp es) (ob1:=.mp (es.set j (e.1,u))) (xo1:=.map (arr.modify j fun e=>{ e with val:=u' }) cl) rfl rfl hb hL h3 trivial
   ⟨_,_,rfl,by
    rw [mB]
    have e1 : (arr.modify j fun e=>{ e with val:=u' }).toList.map (·.key) = arr.toList.map (·.key):=by
     simp [Array.toList_modify,List.modify_eq_set,hji]
     exact aDl (by simp [hji])
    have e2 : (es.map (·.1)).set j e.1 = es.map (·.1):=aDl (by simp [hj])
    rw [e1,e2]; exact h4,by
    rw [mB]
    have e : (arr.modify j fun e=>{ e with val:=u' }).toList.map (·.val) = (arr.toList.map (·.val)).set j u':=by
     simp [Array.toList_modify,List.modify_eq_set,hji]
    rw [e]; exact h5.set j hu,by simpa using h6,nN (fun _=>rfl) h7⟩
  refine ⟨_, ?_,s1,s2,rfl⟩
  have hfi : arr.findIdx? (fun e=>(e.born : Int) == (j : Int)) = some j:=by
   rw [Array.findIdx?_eq_some_iff_getElem]
   refine ⟨by omega, ?_, ?_⟩
   ·simp [h7 j _ hja]
   ·intro m hm
    have : arr[m]? = some (arr[m]'(by omega)):=Array.getElem?_eq_getElem (by omega)
    simp [h7 m _ this]
    omega
  have hai : ∀ q : Int,(asInt (.int .i64 q)).run P w = .ok q w:=by intro q; simp [asInt,asIntOf]
  have hfi' : arr.findIdx? (fun e=>(e.born : Int) == Int.ofNat j) = some j:=hfi
  simp only [Instr.entryStore,Sem.run_bind,Result.andThen_ok,hg,Sem.run_pure,hai,hfi',hset]
end
end Go.Dd

namespace Go.Dd
open Go.RowKit (Below)
section
variable {P : Program} {G : Gd} {ρ : Ren} {w : World} {h h1 : Hp} {v : DV}
theorem oH (w : World) (o : Obj) : (w.alloc o).heap = w.heap.push o:=rfl
theorem vG (w : World) (arr : Array Value) (t : TypeId) (fr : Nat × Nat) (a : Addr) : (w.alloc (.cells arr t fr)).cell? a = (w.alloc (.cells arr t)).cell? a:=by
 obtain ⟨bl,off,sp⟩:=a
 unfold World.cell?
 simp only [oH,Array.getElem?_push]
 by_cases e : bl = w.heap.size
 ·simp [e]
 ·simp [e]
theorem fCm (arr : Array Value) (t : TypeId) (m n : Nat) (hm : arr.size ≤ m) (hB : G.B ≤ w.heap.size) (H : HR G ρ h (w.alloc (.cells arr t))) : HR G ρ h (w.alloc (.cells arr t (m,n))):=by
 have hp : ∀ k,k ≠ w.heap.size → (w.alloc (.cells arr t (m,n))).heap[k]? = (w.alloc (.cells arr t)).heap[k]? := by
  intro k hk
  simp only [oH,Array.getElem?_push]
  rw [if_neg hk,if_neg hk]
 have hs : (w.alloc (.cells arr t (m,n))).heap.size = (w.alloc (.cells arr t)).heap.size:=by simp
 exact {
  gl:=fun k hk=>by rw [hp k (by omega)]; exact H.gl k hk
  sz:=by rw [hs]; exact H.sz
  nx:=H.nx
  ro:=H.ro
  dom:=H.dom
  lt:=H.lt
  cell:=fun b k l L i v h1 h2 h3 h4=>by rw [vG]; exact H.cell b k l L i v h1 h2 h3 h4
  spare:=fun b l L es j h1 h2 h3=>by rw [vG]; exact H.spare b l L es j h1 h2 h3
  free:=fun b a h1 h2=>by
   refine ⟨?_,(H.free b a h1 h2).2⟩
   obtain ⟨v,hv⟩:=H.lt_cell h1
   by_cases e : a.block = w.heap.size
   ·have hlt : a.off < arr.size:=by
     obtain ⟨bl,off,sp⟩:=a
     simp only at e
     subst e
     unfold World.cell? at hv
     simp only [oH,Array.getElem?_push_size] at hv
     cases sp with
     | none =>
      rcases Nat.lt_or_ge off arr.size with h | h
      ·exact h
      ·simp [Array.getElem?_eq_none h] at hv
     | some s=>simp at hv
    unfold World.frozen?
    rw [e]
    simp only [oH,Array.getElem?_push_size]
    have : ¬ m ≤ a.off:=by omega
    simp [this]
   ·have:=(H.free b a h1 h2).1
    unfold World.frozen? at this ⊢
    rw [hp _ e]
    exact this
  inj:=H.inj
  ex:=H.ex
  grone:=H.grone
  itr:=fun b o L h1 h2 h3=>by
   obtain ⟨a1,a2,x,a3,a4⟩:=H.itr b o L h1 h2 h3
   refine ⟨a1,a2,x, ?_,a4⟩
   by_cases e : L.bl = w.heap.size
   ·exfalso
    rw [e] at a3
    simp only [oH,Array.getElem?_push_size,bB] at a3
    subst a3
    cases o with
    | row k l=>exact a4
    | big n t=>exact a4
    | mi t=>exact a4
    | it s pos=>obtain ⟨bs,q,_⟩:=a4; cases q
    | mp es=>obtain ⟨arr,cl,q,_⟩:=a4; cases q
   ·rw [hp _ e]; exact a3
  itj:=H.itj }
theorem bSu (H : HR G ρ h w) {src dst e : TypeId} {x : DV} {x' : Value} (hs : P.underlying src = some .string) (hd : P.underlying dst = some (.slice e)) (he : P.underlying e = some (.int .u8)) (hx : VR ρ x x') (hp : oV x h = some (v,h1)) :
  SemOk P G ρ w v h1 (convert src dst x'):=by
 unfold oV at hp
 split at hp <;> (try (cases hp; done))
 rename_i l
 simp only [bB,bN] at hp
 obtain ⟨rfl,rfl⟩:=hp
 cases hx with
 | s _ bs hb =>
 subst hb
 have hlen : (bs.data.toList.map (·.toNat)).length = bs.size:=by rw [List.length_map,Array.length_toList]; rfl
 have hge:=grownCap_ge w bs.size 0 e
 have hcs : VRs ρ ((bs.data.toList.map (·.toNat)).map fun (c : Nat)=>DV.i .u8 (c : Int)) (bs.data.toList.map fun b=>Value.int .u8 b.toNat):=by
  rw [List.map_map]
  exact VRs.map _ _ (fun c=>.i _ _) _
 have hrow:=H.drew.newRow (.gr 1) _ _ (bytesRow bs (grownCap w bs.size 0 e)) e (grownCap w bs.size 0 e - bs.size) hcs
  (fun j y hj=>by
   have hlt : j < bs.data.size:=by
    rcases Nat.lt_or_ge j (bs.data.toList.map fun b=>Value.int .u8 b.toNat).length with h | h
    ·simpa using h
    ·rw [List.getElem?_eq_none h] at hj; cases hj
   rw [bytesRow_at bs _ j hlt]
   simp only [List.getElem?_map,Array.getElem?_toList,Array.getElem?_eq_getElem hlt,Option.map_some,bB] at hj
   rw [← hj])
  (.inr ⟨1,rfl,by
   simp only [bytesRow,List.length_map,Array.length_toList,Array.size_append,Array.size_map,Array.size_replicate,Nat.mul_one]
   exact Nat.le_refl _,fun y hy=>by
    simp only [List.mem_map] at hy
    obtain ⟨c,_,rfl⟩:=hy
    rfl⟩)
 have hrow2:=fCm (w:=w.drew) (bytesRow bs (grownCap w bs.size 0 e)) e (bytesRow bs (grownCap w bs.size 0 e)).size ((bytesRow bs (grownCap w bs.size 0 e)).size + 1) (Nat.le_refl _) H.drew.sz.1 hrow
 refine ⟨_,_,_,run_bytes_of_string w src dst e bs hs hd he, ?_, ?_,hrow2, ?_⟩
 ·exact H.drew.exx _
 ·have hvr : VR (mG ρ h.next ⟨w.drew.heap.size,0,grownCap w bs.size 0 e - bs.size,none⟩) (.l h.next 0 bs.size bs.size) (.slice (some (eX ⟨w.drew.heap.size,0,grownCap w bs.size 0 e - bs.size,none⟩ 0)) bs.size (bs.size + (grownCap w bs.size 0 e - bs.size))):=.l _ _ _ _ _ (bW _ _ _)
  rw [show bs.size + (grownCap w bs.size 0 e - bs.size) = grownCap w bs.size 0 e by omega] at hvr
  rw [hlen]
  exact hvr
 ·exact (Kp.refl G w).drew.trans (dB (by simpa using H.sz) _)
theorem dQl (H : HR G ρ h w) {t u e : TypeId} {i : TypeInfo} {ty : TypeId} {x y : DV} {x' y' : Value} (ht : P.underlying t = some (.slice e)) (hi : P.info? e = some i) (h0 : 0 < i.size)
  (hx : VR ρ x x') (hy : VR ρ y y') (hp : aGg i.size x y h = some (v,h1)) : SemOk P G ρ w v h1 (Builtin.copy_ #[t,u] ty #[x',y']):=by
 unfold aGg at hp
 split at hp <;> (try (cases hp; done))
 rename_i b o len cap
 split at hp <;> (try (cases hp; done))
 rename_i n new hsrc
 split at hp <;> (try (cases hp; done))
 rename_i hn
 split at hp <;> (try (cases hp; done))
 rename_i h' hst
 simp only [bB,bN] at hp
 obtain ⟨rfl,rfl⟩:=hp
 obtain ⟨new',n1,n2,n3,n4,n5⟩:=cBa (P:=P) H h0 hy hsrc
 cases hx with
 | l _ _ _ _ L hL =>
  obtain ⟨w',s1,s2,s3⟩:=gA (P:=P) H hst hL n1
  refine ⟨ρ,w',.int .i64 n, ?_,Ex.refl G ρ,.i _ _,s2,s3⟩
  have hmin : Nat.min n len = n:=Nat.min_eq_left hn
  simp only [Builtin.copy_,List.getElem?_toArray,List.getElem?_cons_zero,List.getElem?_cons_succ,Sem.run_bind,rU ht,Result.andThen_ok,n4,rS hi,hmin,(n5 w rfl).2,s1,Sem.run_pure,goInt]
theorem dYb (H : HR G ρ h w) {op : BinOp} {t : TypeId} {x y : DV} {x' y' : Value} {ox oy : Operand} (ht : ∃ ms,P.underlying t = some (.interface ms))
  (hx : VR ρ x x') (hy : VR ρ y y') (hp : bXe op (bIb oy) x y h = some (v,h1)) :
  SemOk P G ρ w v h1 (do eqGuard op t ox oy x' y'; binOp op t x' y'):=by
 obtain ⟨ms,ht⟩:=ht
 unfold bXe at hp
 split at hp <;> (try (cases hp; done))
 ·split at hp <;> (try (cases hp; done))
  rename_i hc
  simp only [bB,bN] at hp
  obtain ⟨rfl,rfl⟩:=hp
  cases hx
  cases hy
  obtain ⟨k,rfl⟩ : ∃ k,oy = .const k:=by cases oy <;> first | exact ⟨_,rfl⟩ | cases hc
  refine SemOk.pure H (.b _) ?_
  have hg : (eqGuard .eql t ox (.const k) .nilIface .nilIface).run P w = .ok () w:=by unfold eqGuard; simp
  simp only [Sem.run_bind,hg,Result.andThen_ok]
  have he : ∀ d,(Op.equalIn (d + 1) t .nilIface .nilIface).run P w = .ok true w:=fun d=>by simp [Op.equalIn,rU ht]
  have hq : (Op.equal t .nilIface .nilIface).run P w = .ok true w:=he 9999
  simp [binOp,hq]
 ·split at hp <;> (try (cases hp; done))
  rename_i hc
  simp only [bB,bN] at hp
  obtain ⟨rfl,rfl⟩:=hp
  cases hx
  cases hy
  obtain ⟨k,rfl⟩ : ∃ k,oy = .const k:=by cases oy <;> first | exact ⟨_,rfl⟩ | cases hc
  refine SemOk.pure H (.b _) ?_
  have hg : (eqGuard .neq t ox (.const k) .nilIface .nilIface).run P w = .ok () w:=by unfold eqGuard; simp
  simp only [Sem.run_bind,hg,Result.andThen_ok]
  have he : ∀ d,(Op.equalIn (d + 1) t .nilIface .nilIface).run P w = .ok true w:=fun d=>by simp [Op.equalIn,rU ht]
  have hq : (Op.equal t .nilIface .nilIface).run P w = .ok true w:=he 9999
  simp [binOp,hq]
 ·simp only [bB,bN] at hp
  obtain ⟨rfl,rfl⟩:=hp
  cases hy
  cases hx
  rename_i t1 v1 v2 hv1
  refine SemOk.pure H (.b _) ?_
  have hg:=jA (P:=P) (w:=w) (op:=.eql) (t:=t) (x:=ox) (y:=oy) (a:=.iface t1 v2) (b:=.nilIface) (by simp) (by simp)
  simp only [Sem.run_bind,hg,Result.andThen_ok]
  have he : ∀ d,(Op.equalIn (d + 1) t (.iface t1 v2) .nilIface).run P w = .ok false w:=fun d=>by simp [Op.equalIn,rU ht]
  have hq : (Op.equal t (.iface t1 v2) .nilIface).run P w = .ok false w:=he 9999
  simp [binOp,hq]
 ·simp only [bB,bN] at hp
  obtain ⟨rfl,rfl⟩:=hp
  cases hy
  cases hx
  rename_i t1 v1 v2 hv1
  refine SemOk.pure H (.b _) ?_
  have hg:=jA (P:=P) (w:=w) (op:=.neq) (t:=t) (x:=ox) (y:=oy) (a:=.iface t1 v2) (b:=.nilIface) (by simp) (by simp)
  simp only [Sem.run_bind,hg,Result.andThen_ok]
  have he : ∀ d,(Op.equalIn (d + 1) t (.iface t1 v2) .nilIface).run P w = .ok false w:=fun d=>by simp [Op.equalIn,rU ht]
  have hq : (Op.equal t (.iface t1 v2) .nilIface).run P w = .ok false w:=he 9999
  simp [binOp,hq]
theorem aXi {t : TypeId} {name : String} {f : FuncId} (hf : dAy P t name = some f) (v' : Value) (k : Nat) : (method (k + 1) t v' name).run P w = .ok (f,v') w:=by
 unfold dAy at hf
 split at hf <;> (try (cases hf; done))
 rename_i i hi
 split at hf <;> (try (cases hf; done))
 rename_i m hm
 split at hf <;> (try (cases hf; done))
 rename_i e ht hpth hfn
 simp only [bB] at hf
 subst hf
 simp only [method,Sem.run_bind,rI hi,Result.andThen_ok,hm,Sem.run_pure,hpth,follow,hfn,receiverAt,rU ht,Place.get]
end
end Go.Dd

namespace Go.Dd
open Go
section
variable {P : Program} {w : World}
theorem aCg (n : Nat) (h : n ≤ eB) : IntKind.i64.wrap (n : Int) = n:=by
 unfold eB at h
 unfold IntKind.wrap
 simp [IntKind.bits,IntKind.signed,IntKind.min,IntKind.max]
 omega
theorem eU {t u e : TypeId} {i : TypeInfo} {z : Value} {ty : TypeId} {base : Option Addr} {sLen sCap n : Nat} {k : IntKind} {k2 : IntKind}
  (ht : P.underlying t = some (.slice e)) (hu : P.underlying u = some (.int k2)) (hi : P.info? e = some i) (hz : i.zero = some z) (hb : n * i.bytes ≤ eB) (hn : n ≤ eB) (hle : sLen + n ≤ sCap) (h0 : 0 < i.size) :
  (Builtin.append_ #[t,u] ty #[.slice base sLen sCap,.int k (n : Int)]).run P w =
   (match base with
    | some a=>(storeCells (a.add (sLen * i.size)) (Builtin.zeroCells z.cells n).toList).run P w
    | none=>.ok () w).andThen fun _ w'=>.ok (.slice base (sLen + n) sCap) w':=by
 have hw:=aCg n hn
 have hlt : ¬ ((n : Int) < 0):=by omega
 have hbig : ¬ ((n : Int) * (i.bytes : Int) > 2 ^ 48):=by
  unfold eB at hb
  have : ((n * i.bytes : Nat) : Int) ≤ 70368744177664:=by omega
  push_cast at this
  omega
 simp only [Builtin.append_,List.getElem?_toArray,List.getElem?_cons_zero,List.getElem?_cons_succ,Sem.run_bind,rU ht,rU hu,rS hi,Result.andThen_ok,Sem.run_pure]
 simp only [if_true,Sem.run_bind,asInt,asIntOf,Sem.run_pure,Result.andThen_ok,hw]
 rw [if_neg hlt]
 simp only [Sem.run_bind,rI hi,Sem.run_pure,Result.andThen_ok]
 rw [if_neg hbig]
 simp only [Sem.run_bind,Sem.run_pure,Result.andThen_ok,Int.toNat_natCast]
 rw [if_pos hle]
 by_cases hc : n * i.size = 0
 ·have : n = 0:=by
   rcases Nat.mul_eq_zero.1 hc with h | h
   ·exact h
   ·omega
  subst this
  rw [if_neg (by simp),if_pos hc]
  cases base <;> simp [Builtin.zeroCells]
 ·rw [if_neg (by simp),if_neg hc]
  simp only [Sem.run_bind,rZ hi hz,Result.andThen_ok,Sem.run_pure]
  cases base <;> simp [rZ hi hz]
theorem tP {t u e : TypeId} {i : TypeInfo} {z : Value} {ty : TypeId} {base : Option Addr} {sLen sCap n : Nat} {k : IntKind} {k2 : IntKind} {old' : Array Value}
  (ht : P.underlying t = some (.slice e)) (hu : P.underlying u = some (.int k2)) (hi : P.info? e = some i) (hz : i.zero = some z) (hn : n ≤ eB) (h0 : 0 < i.size)
  (ho : (Builtin.firstCells i.size sLen (.slice base sLen sCap)).run P w.drew = .ok old' w.drew) (hgt : ¬ sLen + n ≤ sCap)
  (hb0 : 0 < i.bytes) (hroom : (sLen + n) * i.bytes ≤ eB) :
  ∃ newCap,sLen + n ≤ newCap ∧ (Builtin.append_ #[t,u] ty #[.slice base sLen sCap,.int k (n : Int)]).run P w =
   .ok (.slice (some ⟨w.heap.size,0,none⟩) (sLen + n) newCap) (w.drew.alloc (.cells (old' ++ Builtin.zeroCells z.cells n ++ Builtin.zeroCells z.cells (newCap - (sLen + n))) e)):=by
 refine ⟨(Question.appendCap (sLen + n) sCap e).cut (w.tape w.drawn (.appendCap (sLen + n) sCap e)),by simp [Question.cut], ?_⟩
 have hsmall : sLen + n ≤ eB:=Nat.le_trans (Nat.le_mul_of_pos_right _ hb0) hroom
 have hmax : ¬ ((((sLen + n : Nat) : Int) > IntKind.i64.max) ∧ (True ∨ i.bytes = 0)):=by
  rintro ⟨h,_⟩
  unfold eB at hsmall
  simp [IntKind.max,IntKind.bits,IntKind.signed] at h
  omega
 have hfit:=growslice_fits (need:=sLen + n) (old:=sCap) (bytes:=i.bytes) (by omega) (by unfold eB at hroom; omega)
 have hw:=aCg n hn
 have hlt : ¬ ((n : Int) < 0):=by omega
 have hb : n * i.bytes ≤ eB:=Nat.le_trans (Nat.mul_le_mul_right _ (by omega)) hroom
 have hbig : ¬ ((n : Int) * (i.bytes : Int) > 2 ^ 48):=by
  unfold eB at hb
  have : ((n * i.bytes : Nat) : Int) ≤ 70368744177664:=by omega
  push_cast at this
  omega
 simp only [Builtin.append_,List.getElem?_toArray,List.getElem?_cons_zero,List.getElem?_cons_succ,Sem.run_bind,rU ht,rU hu,rS hi,Result.andThen_ok,Sem.run_pure]
 simp only [if_true,Sem.run_bind,asInt,asIntOf,Sem.run_pure,Result.andThen_ok,hw]
 rw [if_neg hlt]
 simp only [Sem.run_bind,rI hi,Sem.run_pure,Result.andThen_ok]
 rw [if_neg hbig]
 simp only [Sem.run_bind,Sem.run_pure,Result.andThen_ok,Int.toNat_natCast]
 rw [if_neg hgt]
 simp only [Sem.run_bind,rI hi,Sem.run_pure,Result.andThen_ok]
 rw [if_neg hmax]
 simp only [Sem.run_bind,rI hi,Result.andThen_ok,Sem.run_pure]
 rw [if_neg (by omega)]
 simp only [Sem.run_bind,run_choose,Question.forced,Bool.false_eq_true,if_false,Result.andThen_ok,rI hi,run_askRoom,World.drew_eq,ho]
 by_cases hc : n * i.size = 0
 ·have : n = 0:=by
   rcases Nat.mul_eq_zero.1 hc with h | h
   ·exact h
   ·omega
  subst this
  rw [if_neg (by simp),if_pos hc]
  have hz0 : Builtin.zeroCells z.cells 0 = #[]:=by
   apply Array.toList_inj.1
   simp [Builtin.zeroCells]
  rw [hz0]
  simp [rZ hi hz,newRow]
 ·rw [if_neg (by simp),if_neg hc]
  simp only [Sem.run_bind,rZ hi hz,Result.andThen_ok,Sem.run_pure]
  simp [newRow]
  rfl
variable {G : Gd} {ρ : Ren} {h h1 : Hp} {v : DV}
theorem bAt (H : HR G ρ h w) {t u e : TypeId} {i : TypeInfo} {z : Value} {ty : TypeId} {k k2 : IntKind} {n : Nat} {s : DV} {s' : Value}
  (ht : P.underlying t = some (.slice e)) (hu : P.underlying u = some (.int k2)) (hi : P.info? e = some i) (hz : i.zero = some z) (h0 : 0 < i.size) (hb0 : 0 < i.bytes) (hzs : z.cells.size = i.size)
  (hnb : n * i.bytes ≤ eB) (hn : n ≤ eB) (hone : ∀ u ∈ pD z,u.one = true) (hs : VR ρ s s') (hp : lX i.size i.bytes s n (List.replicate n (pD z)).flatten h = some (v,h1)) :
  SemOk P G ρ w v h1 (Builtin.append_ #[t,u] ty #[s',.int k (n : Int)]):=by
 unfold lX at hp
 obtain ⟨new,hnewd⟩ : ∃ l,l = (List.replicate n (pD z)).flatten:=⟨_,rfl⟩
 rw [← hnewd] at hp
 obtain ⟨new',hnew'⟩ : ∃ l,l = (Builtin.zeroCells z.cells n).toList:=⟨_,rfl⟩
 have hza : Builtin.zeroCells z.cells n = new'.toArray:=by rw [hnew']
 have n1 : VRs ρ new new':=by
  rw [hnewd,hnew']
  unfold Builtin.zeroCells
  rw [nI z.cells n (by omega)]
  exact fBe (fCf ρ z) n
 have n2 : new.length = n * i.size:=by
  rw [hnewd,List.length_flatten]
  simp [pD,hzs]
 have n3 : ∀ u ∈ new,u.one = true:=fun u hu=>by
  rw [hnewd,List.mem_flatten] at hu
  obtain ⟨l,hl,hul⟩:=hu
  rw [(List.mem_replicate.1 hl).2] at hul
  exact hone u hul
 have hnew : ∀ (base : Option Addr) (sLen sCap : Nat) (old : List DV) (old' : List Value) (hx : Hp) (Hx : HR G ρ hx w),hx.next = h.next → VRs ρ old old' → old.length = sLen * i.size → (∀ u ∈ old,u.one = true) →
   (Builtin.firstCells i.size sLen (.slice base sLen sCap)).run P w.drew = .ok old'.toArray w.drew → ¬ sLen + n ≤ sCap → (sLen + n) * i.bytes ≤ eB →
   v = .l h.next 0 (sLen + n) (sLen + n) → h1 = ⟨h.next.succ,Tr.set (.row (.gr i.size) (old ++ new)) h.next hx.bl⟩ → SemOk P G ρ w v h1 (Builtin.append_ #[t,u] ty #[.slice base sLen sCap,.int k (n : Int)]):=by
  intro base sLen sCap old old' hx Hx hnx o1 o2 o3 o4 hgt hroom hv hh
  subst hv hh
  obtain ⟨newCap,c1,c2⟩:=tP (P:=P) (w:=w) (ty:=ty) (k:=k) ht hu hi hz hn h0 o4 hgt hb0 hroom
  rw [hza] at c2
  have hrow:=Hx.drew.newRow (.gr i.size) (old ++ new) (old' ++ new') (old'.toArray ++ new'.toArray ++ Builtin.zeroCells z.cells (newCap - (sLen + n))) e (newCap - (sLen + n)) (o1.append n1)
   (fun j y hj=>by
    have hlt : j < (old' ++ new').length:=by
     rcases Nat.lt_or_ge j (old' ++ new').length with h | h
     ·exact h
     ·rw [List.getElem?_eq_none h] at hj; cases hj
    rw [Array.getElem?_append_left (by simpa using hlt)]
    simpa using hj)
   (.inr ⟨i.size,rfl,by simp [Builtin.zeroCells,hzs],fun y hy=>by
    simp at hy
    rcases hy with hy | hy
    ·exact o3 y hy
    ·exact n3 y hy⟩)
  rw [hnx] at hrow
  refine ⟨_,_,_,c2, ?_, ?_,hrow, ?_⟩
  ·have:=Hx.exx ⟨w.heap.size,0,newCap - (sLen + n),none⟩
   rwa [hnx] at this
  ·have hvr : VR (mG ρ h.next ⟨w.heap.size,0,newCap - (sLen + n),none⟩) (.l h.next 0 (sLen + n) (sLen + n)) (.slice (some (eX ⟨w.heap.size,0,newCap - (sLen + n),none⟩ 0)) (sLen + n) (sLen + n + (newCap - (sLen + n)))):=.l _ _ _ _ _ (bW _ _ _)
   rw [show sLen + n + (newCap - (sLen + n)) = newCap from by omega] at hvr
   exact hvr
  ·exact (Kp.refl G w).drew.trans (dB (by simpa using H.sz) _)
 split at hp <;> (try (cases hp; done))
 ·cases hs
  split at hp
  ·rename_i hn0
   subst hn0
   simp only [bB,bN] at hp
   obtain ⟨rfl,rfl⟩:=hp
   refine SemOk.pure H .l0 ?_
   rw [eU (k:=k) ht hu hi hz hnb hn (by omega) h0]
   try rw [← hnew']
   simp
  ·rename_i hn0
   simp only [bB,bN] at hp
   obtain ⟨rfl,rfl⟩:=hp
   exact hnew none 0 0 [] [] h H rfl .nil (by simp) (by simp) (by simp [Builtin.firstCells]) (by omega) (by simpa using hnb) (by simp) (by simp)
 ·split at hp <;> (try (cases hp; done))
  rename_i hn0
  subst hn0
  simp only [bB,bN] at hp
  obtain ⟨rfl,rfl⟩:=hp
  cases hs with
  | le a c =>
   have hnew0 : new = []:=List.eq_nil_of_length_eq_zero (by rw [n2]; simp)
   subst hnew0
   cases n1
   refine SemOk.pure H (.le a c) ?_
   rw [eU (k:=k) ht hu hi hz hnb hn (by omega) h0]
   try rw [← hnew']
   simp [storeCells]
 ·rename_i b o len cap
  cases hs with
  | l _ _ _ _ L hL =>
   split at hp
   ·rename_i hle
    split at hp <;> (try (cases hp; done))
    rename_i h' hst
    simp only [bB,bN] at hp
    obtain ⟨rfl,rfl⟩:=hp
    obtain ⟨w',s1,s2,s3⟩:=gA (P:=P) H hst hL n1
    refine ⟨ρ,w',_, ?_,Ex.refl G ρ,.l b o _ _ L hL,s2,s3⟩
    rw [eU (k:=k) ht hu hi hz hnb hn (by omega) h0]
    try rw [← hnew']
    simp only [fX]
    rw [s1]
    simp
   ·rename_i hgt
    split at hp <;> (try (cases hp; done))
    rename_i k l old hb hold
    split at hp <;> (try (cases hp; done))
    rename_i hroom
    obtain ⟨o1,o2,⟨k0,l0,hb0',o3,o4⟩,old',o5,o6,o7⟩:=dO H hold hL
    rw [hb] at hb0'
    simp only [bB,Ob.row.injEq] at hb0'
    obtain ⟨rfl,rfl⟩:=hb0'
    have hfo : (Builtin.firstCells i.size len (.slice (some (eX L o)) len (cap + L.sp))).run P w.drew = .ok old'.toArray w.drew:=by
     have:=cK (P:=P) (w:=w.drew) (a:=eX L o) old' rfl (fun j y hj=>by simpa using o7 j y hj)
     rw [o6] at this
     simpa [Builtin.firstCells] using this
    split at hp <;> (try (cases hp; done))
    ·simp only [bB,bN] at hp
     have hsp:=H.ex b l L (.inl hb) hL
     exact hnew _ _ _ old old' h H rfl o5 o1 o2 hfo (by omega) hroom hp.1.symm hp.2.symm
    ·simp only [bB,bN] at hp
     have hsp:=H.ex b l L (.inr hb) hL
     exact hnew _ _ _ old old' h H rfl o5 o1 o2 hfo (by omega) hroom hp.1.symm hp.2.symm
    ·rename_i es
     split at hp <;> (try (cases hp; done))
     rename_i hes
     obtain ⟨rfl,hend⟩:=hes
     simp only [bB,bN] at hp
     by_cases hin : len + n ≤ cap + L.sp
     ·obtain ⟨rfl,rfl⟩:=hp
      have hroB : ¬ isRo h b:=by rintro ⟨l0,h0⟩; rw [hb] at h0; simp at h0
      have hlenle : len ≤ cap:=by
       simp only [List.length_drop] at o4
       have : len * i.size ≤ cap * i.size:=by omega
       exact Nat.le_of_mul_le_mul_right this h0
      have e1 : len * i.size ≤ cap * i.size:=Nat.mul_le_mul_right _ hlenle
      have e2 : (len + n) * i.size = len * i.size + n * i.size:=Nat.add_mul _ _ _
      have e3 : (cap + L.sp) * i.size = cap * i.size + L.sp * i.size:=Nat.add_mul _ _ _
      have e4 : (len + n) * i.size ≤ (cap + L.sp) * i.size:=Nat.mul_le_mul_right _ hin
      have e6 : 1 * i.size ≤ (cap + L.sp) * i.size:=Nat.mul_le_mul_right _ (by omega)
      have hn':=n1.length
      have hOC : ∀ j,j < l.length + L.sp * i.size → Claims ρ h b (eX L j):=by
       intro j hj
       by_cases hlt : j < l.length
       ·exact ⟨_,l,L,hb,hL,.inl ⟨j,l[j],by simp [hlt],H.grone b i.size l j _ hb (by simp [hlt]),rfl⟩⟩
       ·exact ⟨_,l,L,hb,hL,.inr ⟨i.size,j - l.length,rfl,by omega,by rw [show l.length + (j - l.length) = j from by omega]⟩⟩
      obtain ⟨w',s1,s2⟩:=iE (P:=P) (L:=L) new' (o + len * i.size) 0 w (fun j hj=>by
       have hc:=hOC (o + len * i.size + 0 + j) (by omega)
       exact ⟨H.lt_cell hc,(H.free b _ hc hroB).1⟩) (n1.mem_one n3)
      rw [Nat.add_zero] at s2
      have hBL : Own G L.bl:=by
       have hc:=hOC o (by omega)
       simpa [eX] using (H.free b _ hc hroB).2
      refine ⟨_,w',.slice (some (eX L o)) (len + n) (cap + L.sp), ?_,H.exx _, ?_,H.regrow hb hL h0 hend hlenle (by omega) hin o3 n2 n3 n1 s2,s2.below hBL⟩
      ·rw [eU (k:=k) ht hu hi hz hnb hn hin h0]
       try rw [← hnew']
       simp only [fX]
       rw [s1]
       simp
      ·have hvr : VR (mG ρ h.next ⟨L.bl,L.of + o,cap + L.sp - (len + n),if o = 0 then L.spot else none⟩) (.l h.next 0 (len + n) (len + n)) (.slice (some (eX ⟨L.bl,L.of + o,cap + L.sp - (len + n),if o = 0 then L.spot else none⟩ 0)) (len + n) (len + n + (cap + L.sp - (len + n)))):=.l _ _ _ _ _ (bW _ _ _)
       rw [show len + n + (cap + L.sp - (len + n)) = cap + L.sp from by omega] at hvr
       exact hvr
     ·exact hnew _ _ _ old old' _ (H.kill (o:=o) hb) rfl o5 o1 o2 hfo hin hroom hp.1.symm hp.2.symm
 ·rename_i b o len cap
  cases hs with
  | lx _ _ _ _ L hL =>
   split at hp
   ·rename_i hn0
    subst hn0
    split at hp <;> (try (cases hp; done))
    rename_i hle
    simp only [bB,bN] at hp
    obtain ⟨rfl,rfl⟩:=hp
    have hnew0 : new = []:=List.eq_nil_of_length_eq_zero (by rw [n2]; simp)
    subst hnew0
    cases n1
    refine SemOk.pure H (.lx b o len cap L hL) ?_
    rw [eU (k:=k) ht hu hi hz hnb hn (by omega) h0]
    try rw [← hnew']
    simp [storeCells]
   ·split at hp <;> (try (cases hp; done))
    rename_i hgt
    split at hp <;> (try (cases hp; done))
    rename_i old hold
    split at hp <;> (try (cases hp; done))
    rename_i hroom
    simp only [bB,bN] at hp
    obtain ⟨o1,o2,_,old',o5,o6,o7⟩:=dO H hold hL
    have hfo : (Builtin.firstCells i.size len (.slice (some (eX L o)) len cap)).run P w.drew = .ok old'.toArray w.drew:=by
     have:=cK (P:=P) (w:=w.drew) (a:=eX L o) old' rfl (fun j y hj=>by simpa using o7 j y hj)
     rw [o6] at this
     simpa [Builtin.firstCells] using this
    exact hnew _ _ _ old old' h H rfl o5 o1 o2 hfo hgt hroom hp.1.symm hp.2.symm
end
end Go.Dd

namespace Go.Dd
open Go.RowKit (Below)
def EnvR (ρ : Ren) (env : aZ) (a : Act) : Prop:=∀ t,VR ρ (env t) (a.tmps.getD t undef)
theorem bD {ρ : Ren} {env : aZ} {a : Act} (he : EnvR ρ env a) (x : Operand) : VR ρ (opr env x) (a.eval x):=by
 cases x with
 | tmp t=>exact he t
 | const v=>exact fCl ρ v
 | global g=>exact .u _
 | func f=>exact .f f [] [] #[] #[] .nil .nil
def bS (G : Gd) (ρ : Ren) (w : World) (v : DV) (h1 : Hp) : Ending → World → Prop:=fun e w' =>
 ∃ ρ' v',e = .returned v' ∧ Ex G ρ ρ' ∧ VR ρ' v v' ∧ HR G ρ' h1 w' ∧ Kp G w w'
def CallFn (P : Program) (G : Gd) (ρ : Ren) (w : World) (v : DV) (h1 : Hp) (g : FuncId) (args : Array Value) : Prop :=
 ((callFunc g args).run P w = .ok (.enter g args) w ∧ Calls P g args w (bS G ρ w v h1)) ∨
 (∃ ρ' w' v',(callFunc g args).run P w = .ok (.value v') w' ∧ Ex G ρ ρ' ∧ VR ρ' v v' ∧ HR G ρ' h1 w' ∧ Kp G w w')
def jV (P : Program) (G : Gd) (g : FuncId) (F : List DV → Hp → aH) : Prop :=
 ∀ args h v h1,F args h = some (v,h1) → ∀ ρ w (args' : Array Value),HR G ρ h w → VRs ρ args args'.toList → CallFn P G ρ w v h1 g args'
structure OkC (C : Cfg) (rec : FuncId → List DV → Hp → aH) : Prop where
 own : ∀ G g F,C.I g = some F → jV C.P G g F
 fns : ∀ G g,jV C.P G g (rec g)
def OpOk (P : Program) (G : Gd) (ρ : Ren) (w : World) (v : DV) (h1 : Hp) (a : Act) (o : Oper) : Prop :=
 (∃ ρ' w' v',((execOp a.eval o).run P w = .ok (.value v') w' ∨ ((execOp a.eval o).run P w = .ok .skip w' ∧ v' = undef)) ∧ Ex G ρ ρ' ∧ VR ρ' v v' ∧ HR G ρ' h1 w' ∧ Kp G w w') ∨
 (∃ g args,(execOp a.eval o).run P w = .ok (.enter g args) w ∧ Calls P g args w (bS G ρ w v h1))
theorem fAy {P : Program} {G : Gd} {ρ : Ren} {w : World} {v : DV} {h1 : Hp} {a : Act} {o : Oper} {s : Sem Value} (he : execOp a.eval o = (do pure (.value (← s)))) (hs : SemOk P G ρ w v h1 s) : OpOk P G ρ w v h1 a o:=by
 obtain ⟨ρ',w',v',r,h2,h3,h4,h5⟩:=hs
 refine .inl ⟨ρ',w',v',.inl ?_,h2,h3,h4,h5⟩
 rw [he]
 simp [r]
theorem OR.map {ρ : Ren} {env : aZ} {a : Act} (he : EnvR ρ env a) (x : Option Operand) : OR ρ (x.map (opr env)) (x.map a.eval):=by
 cases x with
 | none=>exact .none
 | some y=>exact .some _ _ (bD he y)
theorem fBy {ρ : Ren} {env : aZ} {a : Act} (he : EnvR ρ env a) : ∀ l : List Operand,VRs ρ (l.map (opr env)) (l.map a.eval)
 | []=>.nil
 | x :: l=>.cons _ _ _ _ (bD he x) (fBy he l)
section
variable {C : Cfg} {G : Gd} {rec : FuncId → List DV → Hp → aH} {ρ : Ren} {w : World} {h h1 : Hp} {v : DV} {a : Act} {env : aZ}
theorem bEf (H : HR G ρ h w) (he : EnvR ρ env a) {o : Oper} {c : Call} {b : Builtin} (ho : o.op = .call c) (hc : c.callee = .builtin b)
  (hp : kN C b c.argTypes.toList (c.args.toList.map (opr env)) h = some (v,h1)) : OpOk C.P G ρ w v h1 a o:=by
 have hrun : ∀ s : Sem Value,(∀ cons : Array Bool,builtin b c.argTypes o.type cons (c.args.map a.eval) = (do pure (.value (← s)) : Sem Next)) → execOp a.eval o = (do pure (.value (← s)) : Sem Next):=by
  intro s hs
  unfold execOp
  simp only [ho,resolve,hc,pure_bind,invoke]
  exact hs _
 unfold kN at hp
 split at hp <;> (try (cases hp; done))
 ·
  split at hp <;> (try (cases hp; done))
  rename_i t x hts hxs
  have hat : c.argTypes = #[t]:=Array.toList_inj.1 (by simpa using hts)
  obtain ⟨ox,hca,hox⟩ : ∃ ox,c.args = #[ox] ∧ opr env ox = x:=by
   rcases c with ⟨callee,args,ats⟩
   simp only at hxs ⊢
   have:=congrArg List.length hxs
   match args,this with
   | ⟨[y]⟩,_=>simp at hxs; exact ⟨y,rfl,hxs⟩
  have hx:=bD he ox
  rw [hox] at hx
  refine fAy (hrun (Builtin.len_ #[t] o.type #[a.eval ox]) (by intro cons; rw [hat,hca]; simp [builtin])) ?_
  split at hp <;> (try (cases hp; done))
  ·rename_i ht
   unfold fS at hp
   split at hp <;> (try (cases hp; done))
   rename_i l
   simp only [bB,bN] at hp
   obtain ⟨rfl,rfl⟩:=hp
   generalize a.eval ox = xv at hx ⊢
   cases hx with
   | s _ bs hb =>
    have hlen : l.length = bs.size:=by rw [← hb,List.length_map,Array.length_toList]; rfl
    refine SemOk.pure H (by constructor) ?_
    simp only [Builtin.len_,Sem.run_bind,List.getElem?_toArray,List.getElem?_cons_zero,rU ht,Result.andThen_ok,goInt,Sem.run_pure,hlen]
  ·rename_i e ht
   rw [cSr] at hp
   split at hp <;> (try (cases hp; done))
   ·simp only [bB,bN] at hp
    obtain ⟨rfl,rfl⟩:=hp
    generalize a.eval ox = xv at hx ⊢
    cases hx with
    | l _ _ _ _ L hL =>
     refine SemOk.pure H (by constructor) ?_
     simp only [Builtin.len_,Sem.run_bind,List.getElem?_toArray,List.getElem?_cons_zero,rU ht,Result.andThen_ok,goInt,Sem.run_pure]
   ·simp only [bB,bN] at hp
    obtain ⟨rfl,rfl⟩:=hp
    generalize a.eval ox = xv at hx ⊢
    cases hx with
    | lx _ _ _ _ L hL =>
     refine SemOk.pure H (by constructor) ?_
     simp only [Builtin.len_,Sem.run_bind,List.getElem?_toArray,List.getElem?_cons_zero,rU ht,Result.andThen_ok,goInt,Sem.run_pure]
   ·simp only [bB,bN] at hp
    obtain ⟨rfl,rfl⟩:=hp
    generalize a.eval ox = xv at hx ⊢
    cases hx
    refine SemOk.pure H (by constructor) ?_
    simp only [Builtin.len_,Sem.run_bind,List.getElem?_toArray,List.getElem?_cons_zero,rU ht,Result.andThen_ok,goInt,Sem.run_pure]
    simp
   ·simp only [bB,bN] at hp
    obtain ⟨rfl,rfl⟩:=hp
    generalize a.eval ox = xv at hx ⊢
    cases hx
    refine SemOk.pure H (by constructor) ?_
    simp only [Builtin.len_,Sem.run_bind,List.getElem?_toArray,List.getElem?_cons_zero,rU ht,Result.andThen_ok,goInt,Sem.run_pure]
    simp
 ·
  unfold tN at hp
  split at hp <;> (try (cases hp; done))
  rename_i x y hxs
  obtain ⟨ox,oy,hca,hox,hoy⟩ : ∃ ox oy,c.args = #[ox,oy] ∧ opr env ox = x ∧ opr env oy = y:=by
   rcases c with ⟨callee,args,ats⟩
   simp only at hxs ⊢
   have:=congrArg List.length hxs
   match args,this with
   | ⟨[y1,y2]⟩,_=>simp at hxs; exact ⟨y1,y2,rfl,hxs.1,hxs.2⟩
  have hx:=bD he ox
  have hy:=bD he oy
  rw [hox] at hx
  rw [hoy] at hy
  refine fAy (hrun (Builtin.min_ c.argTypes o.type #[a.eval ox,a.eval oy]) (by intro cons; rw [hca]; simp [builtin])) ?_
  unfold bXy at hp
  split at hp <;> (try (cases hp; done))
  simp only [bB,bN] at hp
  obtain ⟨rfl,rfl⟩:=hp
  generalize a.eval ox = xv at hx ⊢
  generalize a.eval oy = yv at hy ⊢
  cases hx
  cases hy
  refine SemOk.pure H (by constructor) ?_
  simp [Builtin.min_,Builtin.min2]
 ·
  unfold tY at hp
  split at hp <;> (try (cases hp; done))
  rename_i x y hxs
  obtain ⟨ox,oy,hca,hox,hoy⟩ : ∃ ox oy,c.args = #[ox,oy] ∧ opr env ox = x ∧ opr env oy = y:=by
   rcases c with ⟨callee,args,ats⟩
   simp only at hxs ⊢
   have:=congrArg List.length hxs
   match args,this with
   | ⟨[y1,y2]⟩,_=>simp at hxs; exact ⟨y1,y2,rfl,hxs.1,hxs.2⟩
  have hx:=bD he ox
  have hy:=bD he oy
  rw [hox] at hx
  rw [hoy] at hy
  refine fAy (hrun (Builtin.max_ c.argTypes o.type #[a.eval ox,a.eval oy]) (by intro cons; rw [hca]; simp [builtin])) ?_
  unfold bXc at hp
  split at hp <;> (try (cases hp; done))
  simp only [bB,bN] at hp
  obtain ⟨rfl,rfl⟩:=hp
  generalize a.eval ox = xv at hx ⊢
  generalize a.eval oy = yv at hy ⊢
  cases hx
  cases hy
  refine SemOk.pure H (by constructor) ?_
  simp [Builtin.max_,Builtin.max2]
 ·
  split at hp <;> (try (cases hp; done))
  rename_i t x hts hxs
  have hat : c.argTypes = #[t]:=Array.toList_inj.1 (by simpa using hts)
  obtain ⟨ox,hca,hox⟩ : ∃ ox,c.args = #[ox] ∧ opr env ox = x:=by
   rcases c with ⟨callee,args,ats⟩
   simp only at hxs ⊢
   have:=congrArg List.length hxs
   match args,this with
   | ⟨[y]⟩,_=>simp at hxs; exact ⟨y,rfl,hxs⟩
  have hx:=bD he ox
  rw [hox] at hx
  refine fAy (hrun (Builtin.clear_ #[t] o.type #[a.eval ox]) (by intro cons; rw [hat,hca]; simp [builtin])) ?_
  split at hp <;> (try (cases hp; done))
  ·rename_i e ht
   split at hp <;> (try (cases hp; done))
   rename_i i hi
   split at hp <;> (try (cases hp; done))
   rename_i z hz
   split at hp <;> (try (cases hp; done))
   rename_i h0
   exact cNt H ht hi hz h0 hx hp
 ·
  split at hp <;> (try (cases hp; done))
  rename_i t u s x hts hxs
  have hat : c.argTypes = #[t,u]:=Array.toList_inj.1 (by simpa using hts)
  obtain ⟨ox,oy,hca,hox,hoy⟩ : ∃ ox oy,c.args = #[ox,oy] ∧ opr env ox = s ∧ opr env oy = x:=by
   rcases c with ⟨callee,args,ats⟩
   simp only at hxs ⊢
   have:=congrArg List.length hxs
   match args,this with
   | ⟨[y1,y2]⟩,_=>simp at hxs; exact ⟨y1,y2,rfl,hxs.1,hxs.2⟩
  have hx:=bD he ox
  have hy:=bD he oy
  rw [hox] at hx
  rw [hoy] at hy
  refine fAy (hrun (Builtin.append_ #[t,u] o.type #[a.eval ox,a.eval oy]) (by intro cons; rw [hat,hca]; simp [builtin])) ?_
  have hmain : ∀ e d,C.P.underlying t = some (.slice e) → C.P.underlying u = some d → (∀ k,d ≠ .int k) → (match C.P.info? e with
    | some i=>match i.zero with
     | some z=>if 0 < i.size ∧ 0 < i.bytes ∧ z.cells.size = i.size then bH i.size i.bytes s x h else none
     | none=>none
    | none=>none) = some (v,h1) → SemOk C.P G ρ w v h1 (Builtin.append_ #[t,u] o.type #[a.eval ox,a.eval oy]):=by
   intro e d ht hu hd hp
   split at hp <;> (try (cases hp; done))
   rename_i i hi
   split at hp <;> (try (cases hp; done))
   rename_i z hz
   split at hp <;> (try (cases hp; done))
   rename_i hc3
   exact bTt H ht hu hd hi hz hc3.1 hc3.2.1 hc3.2.2 hx hy hp
  split at hp <;> (try (cases hp; done))
  ·rename_i e u0 ht hu
   exact hmain e _ ht hu (by simp) hp
  ·rename_i e ht hu
   exact hmain e _ ht hu (by simp) hp
  ·rename_i e k2 ht hu
   split at hp <;> (try (cases hp; done))
   rename_i i hi
   split at hp <;> (try (cases hp; done))
   rename_i z hz
   split at hp <;> (try (cases hp; done))
   rename_i hc3
   unfold jL at hp
   split at hp <;> (try (cases hp; done))
   rename_i k n
   split at hp <;> (try (cases hp; done))
   rename_i hr
   generalize a.eval oy = y' at hy ⊢
   cases hy
   exact bAt H ht hu hi hz hc3.1.1 hc3.1.2.1 hc3.1.2.2 hr.1 (by unfold eB; omega) (fun u hu=>List.all_eq_true.1 hc3.2 u hu) hx hp
 ·
  split at hp <;> (try (cases hp; done))
  rename_i t u x y hts hxs
  have hat : c.argTypes = #[t,u]:=Array.toList_inj.1 (by simpa using hts)
  obtain ⟨ox,oy,hca,hox,hoy⟩ : ∃ ox oy,c.args = #[ox,oy] ∧ opr env ox = x ∧ opr env oy = y:=by
   rcases c with ⟨callee,args,ats⟩
   simp only at hxs ⊢
   have:=congrArg List.length hxs
   match args,this with
   | ⟨[y1,y2]⟩,_=>simp at hxs; exact ⟨y1,y2,rfl,hxs.1,hxs.2⟩
  have hx:=bD he ox
  have hy:=bD he oy
  rw [hox] at hx
  rw [hoy] at hy
  refine fAy (hrun (Builtin.copy_ #[t,u] o.type #[a.eval ox,a.eval oy]) (by intro cons; rw [hat,hca]; simp [builtin])) ?_
  split at hp <;> (try (cases hp; done))
  rename_i e ht
  split at hp <;> (try (cases hp; done))
  rename_i i hi
  split at hp <;> (try (cases hp; done))
  rename_i h0
  exact dQl H ht hi h0 hx hy hp
theorem aTf (K : OkC C rec) (H : HR G ρ h w) (he : EnvR ρ env a) {o : Oper} (hp : jY C rec o env h = some (v,h1)) : OpOk C.P G ρ w v h1 a o:=by
 unfold jY at hp
 split at hp <;> (try (cases hp; done))
 ·rename_i x ho
  simp only [bB,bN] at hp
  obtain ⟨rfl,rfl⟩:=hp
  exact .inl ⟨ρ,w,a.eval x,.inl (by unfold execOp; simp [ho]),Ex.refl G ρ,bD he x,H,Kp.refl G w⟩
 ·rename_i x ho
  simp only [bB,bN] at hp
  obtain ⟨rfl,rfl⟩:=hp
  exact .inl ⟨ρ,w,a.eval x,.inl (by unfold execOp; simp [ho]),Ex.refl G ρ,bD he x,H,Kp.refl G w⟩
 ·rename_i c x y ho
  have hc:=bD he c
  rw [aFw] at hp
  split at hp <;> (try (cases hp; done))
  all_goals
   rename_i hcb
   simp only [bB,bN] at hp
   obtain ⟨rfl,rfl⟩:=hp
   rw [hcb] at hc
   generalize hcv : a.eval c = cv at hc
   cases hc
  ·exact .inl ⟨ρ,w,a.eval x,.inl (by unfold execOp; simp [ho,hcv,asBool]),Ex.refl G ρ,bD he x,H,Kp.refl G w⟩
  ·exact .inl ⟨ρ,w,a.eval y,.inl (by unfold execOp; simp [ho,hcv,asBool]),Ex.refl G ρ,bD he y,H,Kp.refl G w⟩
 ·rename_i t ho
  split at hp <;> (try (cases hp; done))
  rename_i i hi
  split at hp <;> (try (cases hp; done))
  rename_i z hz
  exact fAy (by unfold execOp; simp [ho]) (cEp H hi hz hp)
 ·rename_i t x ho
  exact fAy (s:=Instr.box t (a.eval x)) (by unfold execOp; simp [ho]) (eDx H (bD he x) hp)
 ·rename_i t ps ho
  split at hp <;> (try (cases hp; done))
  ·rename_i fs i ht hi
   split at hp <;> (try (cases hp; done))
   rename_i z pl hz hpl
   split at hp <;> (try (cases hp; done))
   rename_i l hl
   exact fAy (by unfold execOp; simp only [ho]) (cVg H (bD he) ht hi hz hpl hl hp)
  ·rename_i n e i ht hi
   split at hp <;> (try (cases hp; done))
   rename_i z ei hz hps he'
   exact fAy (by unfold execOp; simp only [ho]) (bTr (ev:=a.eval) H ht hi hz hps he' hp)
 ·rename_i t n ps ho
  split at hp <;> (try (cases hp; done))
  rename_i e ht
  split at hp <;> (try (cases hp; done))
  rename_i i hi
  split at hp <;> (try (cases hp; done))
  rename_i z hz
  split at hp <;> (try (cases hp; done))
  rename_i hc
  exact fAy (by unfold execOp; simp only [ho]) (aEr H (bD he) ht hi hz hc.1 hc.2.1 hc.2.2 hp)
 ·rename_i t x ho
  split at hp <;> (try (cases hp; done))
  rename_i d i ht hi
  cases hd : kA d with
  | true=>rw [hd] at hp; exact fAy (by unfold execOp; simp [ho]) (cTk H ht hi hd (bD he x) hp)
  | false=>rw [hd] at hp; exact fAy (by unfold execOp; simp [ho]) (cDu H ht hd (bD he x) hp)
 ·rename_i t x y ho
  split at hp <;> (try (cases hp; done))
  rename_i i hi
  obtain ⟨rfl,w',s1,s2,s3⟩:=cVd (P:=C.P) H hi (bD he x) (bD he y) hp
  refine .inl ⟨ρ,w',undef,.inr ⟨?_,rfl⟩,Ex.refl G ρ,.t [] #[] .nil,s2,s3⟩
  unfold execOp
  simp [ho,s1]
 ·rename_i x ho
  obtain ⟨h2,h3,h4⟩:=eCz (P:=C.P) H ho (bD he x) hp
  subst h4
  exact .inl ⟨ρ,w,_,.inl h2,Ex.refl G ρ,h3,H,Kp.refl G w⟩
 ·rename_i op t x y yt ho
  split at hp <;> (try (cases hp; done))
  ·rename_i fs ht
   exact fAy (by unfold execOp; simp only [ho]) (eBc (ox:=x) (oy:=y) H ht (bD he x) (bD he y) hp)
  ·rename_i ms ht
   exact fAy (by unfold execOp; simp only [ho]) (dYb (ox:=x) (oy:=y) H ⟨ms,ht⟩ (bD he x) (bD he y) hp)
  rename_i d _ _ ht
  exact fAy (by unfold execOp; simp only [ho]) (dYh (ox:=x) (oy:=y) H ht (bD he x) (bD he y) hp)
 ·rename_i op t x ho
  exact fAy (by unfold execOp; simp [ho]) (eUd H (bD he x) hp)
 ·rename_i src dst x ho
  split at hp <;> (try (cases hp; done))
  ·rename_i d k hs hd
   exact fAy (by unfold execOp; simp [ho]) (cNu H hs hd (bD he x) hp)
  ·rename_i hs hd
   exact fAy (by unfold execOp; simp [ho]) (cOj H hs hd (bD he x) hp)
  ·rename_i e hs hd
   split at hp <;> (try (cases hp; done))
   rename_i hu
   exact fAy (by unfold execOp; simp [ho]) (cIr H hs hu hd (bD he x) hp)
  ·rename_i e hs hd
   split at hp <;> (try (cases hp; done))
   rename_i hu
   exact fAy (by unfold execOp; simp [ho]) (bSu H hs hd hu (bD he x) hp)
 ·rename_i t x ho
  split at hp <;> (try (cases hp; done))
  rename_i d hni hd
  simp only [bB,bN] at hp
  obtain ⟨rfl,rfl⟩:=hp
  refine .inl ⟨ρ,w,.iface t (a.eval x),.inl ?_,Ex.refl G ρ,.c t _ _ (bD he x),H,Kp.refl G w⟩
  unfold execOp
  simp only [ho,Instr.makeInterface,Sem.run_bind,rU hd,Result.andThen_ok]
  cases d <;> first | rfl | exact absurd rfl (hni _)
 ·rename_i fn first captured ho
  split at hp <;> (try (cases hp; done))
  rename_i g
  simp only [bB,bN] at hp
  obtain ⟨rfl,rfl⟩:=hp
  refine .inl ⟨ρ,w,.func (.func g) (first.map a.eval) (captured.map a.eval),.inl ?_,Ex.refl G ρ, ?_,H,Kp.refl G w⟩
  ·unfold execOp; simp [ho,Instr.makeFunc]
  ·exact .f g _ _ _ _ (by simpa using fBy he first.toList) (by simpa using fBy he captured.toList)
 ·rename_i t x lo hi mx ho
  split at hp <;> (try (cases hp; done))
  ·rename_i ht
   exact fAy (by unfold execOp; simp [ho]) (bRv H ht (bD he x) (OR.map he lo) (OR.map he hi) hp)
  ·rename_i e ht
   split at hp <;> (try (cases hp; done))
   rename_i i hi0
   exact fAy (by unfold execOp; simp [ho]) (cJx H ht hi0 (bD he x) (OR.map he lo) (OR.map he hi) hp)
  ·rename_i e m ht
   split at hp <;> (try (cases hp; done))
   rename_i i hv hi0
   exact fAy (by unfold execOp; simp [ho]) (bRp H ht hi0 (bD he x) (OR.map he lo) (bD he hv) (bD he m) hp)
 ·rename_i t x f ho
  split at hp <;> (try (cases hp; done))
  rename_i fs ht
  split at hp <;> (try (cases hp; done))
  rename_i fl hf
  split at hp <;> (try (cases hp; done))
  rename_i i hi
  split at hp <;> (try (cases hp; done))
  rename_i h0
  exact fAy (by unfold execOp; simp [ho]) (cMp H ht hf hi h0 (bD he x) hp)
 ·rename_i t x f ho
  split at hp <;> (try (cases hp; done))
  rename_i fs ht
  split at hp <;> (try (cases hp; done))
  rename_i fl hf
  split at hp <;> (try (cases hp; done))
  rename_i d i hd hi
  cases ha : kA d with
  | true=>rw [ha] at hp; exact fAy (by unfold execOp; simp [ho]) (cQo H ht hf hd hi ha (bD he x) hp)
  | false=>rw [ha] at hp; exact fAy (by unfold execOp; simp [ho]) (bYn H ht hf hd ha (bD he x) hp)
 ·rename_i t x ix ho
  split at hp <;> (try (cases hp; done))
  ·rename_i e ht
   split at hp <;> (try (cases hp; done))
   rename_i i hi
   exact fAy (by unfold execOp; simp [ho]) (aQe H ht hi (bD he x) (bD he ix) hp)
  ·rename_i n e ht
   split at hp <;> (try (cases hp; done))
   rename_i i hi
   exact fAy (by unfold execOp; simp [ho]) (aUa H ht hi (bD he x) (bD he ix) hp)
 ·rename_i t x ix ho
  split at hp <;> (try (cases hp; done))
  rename_i ht
  exact fAy (by unfold execOp; simp [ho]) (bQo H ht (bD he x) (bD he ix) hp)
 ·rename_i t ho
  exact fAy (s:=Instr.makeMap t none) (by unfold execOp; simp [ho]) (aZy H hp)
 ·rename_i t x k ok ho
  split at hp <;> (try (cases hp; done))
  rename_i kt et ht
  split at hp <;> (try (cases hp; done))
  rename_i d i hd hi
  split at hp <;> (try (cases hp; done))
  rename_i z hz
  cases hkt : iS d with
  | false =>
   rw [hkt] at hp
   simp only [cond_false] at hp
   cases hks : (uJ C.P d && bTa d (opr env k)) with
   | false=>rw [hks] at hp; cases hp
   | true =>
    rw [hks] at hp
    simp only [Bool.and_eq_true] at hks
    exact fAy (s:=Instr.lookup t (a.eval x) (a.eval k) ok) (by unfold execOp; simp [ho]) (bDw H ht hd hi hz hks.1 hks.2 (bD he x) (bD he k) hp)
  | true =>
   rw [hkt] at hp
   exact fAy (s:=Instr.lookup t (a.eval x) (a.eval k) ok) (by unfold execOp; simp [ho]) (bVb H ht hd hi hz hkt (bD he x) (bD he k) hp)
 ·rename_i t m k x ho
  split at hp <;> (try (cases hp; done))
  rename_i kt et ht
  split at hp <;> (try (cases hp; done))
  rename_i d hd
  cases hkt : iS d with
  | false=>rw [hkt] at hp; cases hp
  | true =>
   rw [hkt] at hp
   obtain ⟨w',s1,s2,s3,rfl⟩:=aFm (P:=C.P) H ht hd hkt (bD he m) (bD he k) (bD he x) hp
   refine .inl ⟨ρ,w',undef,.inr ⟨?_,rfl⟩,Ex.refl G ρ,.t [] #[] .nil,s2,s3⟩
   unfold execOp
   simp [ho,s1]
 ·rename_i t m k x ho
  split at hp <;> (try (cases hp; done))
  rename_i kt et ht
  split at hp <;> (try (cases hp; done))
  rename_i d hd
  cases hkt : iS d with
  | false=>rw [hkt] at hp; cases hp
  | true =>
   rw [hkt] at hp
   obtain ⟨w',s1,s2,s3,rfl⟩:=aFm (P:=C.P) H ht hd hkt (bD he m) (bD he k) (bD he x) hp
   refine .inl ⟨ρ,w',undef,.inr ⟨?_,rfl⟩,Ex.refl G ρ,.t [] #[] .nil,s2,s3⟩
   unfold execOp
   simp [ho,s1]
 ·rename_i t m k ho
  split at hp <;> (try (cases hp; done))
  rename_i kt et ht
  split at hp <;> (try (cases hp; done))
  rename_i d i hd hi
  split at hp <;> (try (cases hp; done))
  rename_i z hz
  cases hkt : iS d with
  | false=>rw [hkt] at hp; cases hp
  | true =>
   rw [hkt] at hp
   exact fAy (s:=Instr.mapEntry t (a.eval m) (a.eval k)) (by unfold execOp; simp [ho]) (aUe H ht hd hi hz hkt (bD he m) (bD he k) hp)
 ·rename_i t m s x ho
  obtain ⟨w',s1,s2,s3,rfl⟩:=aEl (P:=C.P) (t:=t) H (bD he m) (bD he s) (bD he x) hp
  refine .inl ⟨ρ,w',undef,.inr ⟨?_,rfl⟩,Ex.refl G ρ,.t [] #[] .nil,s2,s3⟩
  unfold execOp
  simp [ho,s1]
 ·rename_i t n c ho
  split at hp <;> (try (cases hp; done))
  rename_i e ht
  split at hp <;> (try (cases hp; done))
  rename_i i hi
  split at hp <;> (try (cases hp; done))
  rename_i z hz
  split at hp <;> (try (cases hp; done))
  rename_i hc
  exact fAy (s:=Instr.makeSlice t (a.eval n) (a.eval c)) (by unfold execOp; simp [ho]) (aMx H ht hi hz hc.1 hc.2 (bD he n) (bD he c) hp)
 ·rename_i x i ho
  exact fAy (by unfold execOp; simp [ho]) (aZp H (bD he x) hp)
 ·rename_i t x ho
  split at hp <;> (try (cases hp; done))
  rename_i ht
  exact fAy (by unfold execOp; simp [ho]) (cUg H ht (bD he x) hp)
 ·rename_i x str ho
  split at hp <;> (try (cases hp; done))
  rename_i hs
  subst hs
  exact fAy (by unfold execOp; simp [ho]) (dNs (ty:=o.type) H (bD he x) hp)
 ·rename_i c ho
  split at hp <;> (try (cases hp; done))
  ·rename_i b hb
   exact bEf H he ho hb hp
  ·rename_i f hf
   have hfv:=bD he f
   unfold iA at hp
   split at hp <;> (try (cases hp; done))
   rename_i g first cap hg
   rw [hg] at hfv
   generalize hfe : a.eval f = fv at hfv
   cases hfv with
   | f _ _ _ x' y' hx hy =>
    have hargs : VRs ρ (first ++ c.args.toList.map (opr env) ++ cap) (x' ++ c.args.map a.eval ++ y').toList:=by
     simpa using (hx.append (fBy he c.args.toList)).append hy
    have hex : execOp a.eval o = callFunc g (x' ++ c.args.map a.eval ++ y'):=by
     unfold execOp
     simp only [ho,resolve,hf,hfe,Deferred.ofValue,pure_bind,invoke]
    have hcf : CallFn C.P G ρ w v h1 g (x' ++ c.args.map a.eval ++ y'):=by
     unfold cA at hp
     split at hp
     ·rename_i F hF
      exact K.own G g F hF _ _ _ _ hp ρ w _ H hargs
     ·exact K.fns G g _ _ _ _ hp ρ w _ H hargs
    rcases hcf with ⟨c1,c2⟩ | ⟨ρ',w',v',c1,c2,c3,c4,c5⟩
    ·exact .inr ⟨g,_,by rw [hex]; exact c1,c2⟩
    ·exact .inl ⟨ρ',w',v',.inl (by rw [hex]; exact c1),c2,c3,c4,c5⟩
  ·rename_i r m hf
   have hrv:=bD he r
   unfold eBs at hp
   split at hp <;> (try (cases hp; done))
   rename_i t v0 hr
   split at hp <;> (try (cases hp; done))
   rename_i g hg
   rw [hr] at hrv
   generalize hre : a.eval r = rv at hrv
   cases hrv with
   | c _ _ v0' hv0 =>
    have hargs : VRs ρ ([] ++ (v0 :: c.args.toList.map (opr env)) ++ []) (#[v0'] ++ c.args.map a.eval).toList:=by
     simpa using VRs.cons _ _ _ _ hv0 (fBy he c.args.toList)
    have hex : (execOp a.eval o).run C.P w = (callFunc g (#[v0'] ++ c.args.map a.eval)).run C.P w:=by
     unfold execOp
     have hk0 : ∀ a b : Nat,0 < b → ∃ k,a + b = k + 1:=fun a b hb=>⟨a + b - 1,by omega⟩
     obtain ⟨k,hk⟩:=hk0 C.P.types.size Made.depth (by decide)
     simp only [ho,resolve,hf,hre,pure_bind,invoke]
     have e0 : (#[Value.iface t v0'] ++ Array.map a.eval c.args)[0]? = some (Value.iface t v0'):=by
      rw [Array.getElem?_append_left (by simp)]
      rfl
     have e1 : (Array.map a.eval c.args).extract 0 c.args.size = Array.map a.eval c.args:=by
      have : c.args.size = (Array.map a.eval c.args).size:=by simp
      rw [this]
      exact Array.extract_size
     simp [callMethod]
     rw [e0]
     simp [hk,aXi hg,e1]
    have hcf : CallFn C.P G ρ w v h1 g (#[v0'] ++ c.args.map a.eval):=by
     unfold iA cA at hp
     dsimp only at hp
     split at hp
     ·rename_i F hF
      exact K.own G g F hF _ _ _ _ hp ρ w _ H hargs
     ·exact K.fns G g _ _ _ _ hp ρ w _ H hargs
    rcases hcf with ⟨c1,c2⟩ | ⟨ρ',w',v',c1,c2,c3,c4,c5⟩
    ·exact .inr ⟨g,_,by rw [hex]; exact c1,c2⟩
    ·exact .inl ⟨ρ',w',v',.inl (by rw [hex]; exact c1),c2,c3,c4,c5⟩
end
end Go.Dd

namespace Go.Dd
open Go.RowKit (Below)
section
variable {C : Cfg} {G : Gd} {rec : FuncId → List DV → Hp → aH} {ρ : Ren} {w : World} {h h1 : Hp} {v : DV} {a : Act} {env : aZ} {ops : Array Oper}
def cPe (P : Program) (G : Gd) (ρ : Ren) (w : World) (v : DV) (h h1 : Hp) (a : Act) (ops : Array Oper) (o : Oper) : Prop :=
 (Region.wanted o (yielded ops a.tmps) = true ∧ OpOk P G ρ w v h1 a o) ∨ (Region.wanted o (yielded ops a.tmps) = false ∧ v = aT ∧ h1 = h)
theorem wS (K : OkC C rec) (H : HR G ρ h w) (he : EnvR ρ env a) {o : Oper} (hp : bA C rec ops o env h = some (v,h1)) : cPe C.P G ρ w v h h1 a ops o:=by
 unfold bA at hp
 split at hp
 ·rename_i hg
  exact .inl ⟨by simp [Region.wanted,hg],aTf K H he hp⟩
 ·rename_i j want hg
  have hw : Region.wanted o (yielded ops a.tmps) = (yielded ops a.tmps j == some want):=by simp [Region.wanted,hg]
  have hy : ∀ d,(ops[j]?).bind (·.dst) = some d → ∀ x,a.tmps.getD d undef = .bool x → yielded ops a.tmps j = some x:=by
   intro d hd x hx
   unfold yielded
   rw [hd]
   simp only [Option.bind_some]
   have hx' : a.tmps[d]? = some (.bool x):=by
    cases ht : a.tmps[d]? with
    | none=>simp [ht,undef] at hx
    | some y=>simp [ht] at hx; rw [hx]
   rw [hx']
  unfold bHs at hp
  rw [qQ] at hp
  cases hd : (ops[j]?).bind (·.dst) with
  | none =>
   simp only [hd,aT] at hp
   simp only [bB,bN] at hp
   refine .inr ⟨?_,hp.1.symm,hp.2.symm⟩
   rw [hw]
   unfold yielded
   rw [hd]
   rfl
  | some d =>
   simp only [hd] at hp
   have hv:=he d
   split at hp <;> (try (cases hp; done))
   ·rename_i x hx
    rw [hx] at hv
    generalize hvv : a.tmps.getD d undef = vv at hv
    cases hv
    have hyy:=hy d hd x hvv
    split at hp
    ·rename_i hxw
     refine .inl ⟨?_,aTf K H he hp⟩
     rw [hw,hyy]
     simpa using hxw
    ·rename_i hxw
     simp only [bB,bN] at hp
     refine .inr ⟨?_,hp.1.symm,hp.2.symm⟩
     rw [hw,hyy]
     simpa using hxw
   ·rename_i hx
    rw [hx] at hv
    simp only [bB,bN] at hp
    refine .inr ⟨?_,hp.1.symm,hp.2.symm⟩
    rw [hw]
    generalize hvv : a.tmps.getD d undef = vv at hv
    cases hv with
    | t _ x' hx' =>
     unfold yielded
     rw [hd]
     simp only [Option.bind_some]
     cases ht : a.tmps[d]? with
     | none=>rfl
     | some y=>simp [ht] at hvv; subst hvv; rfl
theorem xN {o' : Oper} (hs : cPe C.P G ρ w v h h1 a ops o') {o : Oper} (ho : o' = o) {i : Nat} (hi : ops[i]? = some o) (H : HR G ρ h w) {Kc : Act → World → Prop} {Q : Exit → Act → World → Prop}
  (hn : ∀ ρ' w' v',Ex G ρ ρ' → VR ρ' v v' → HR G ρ' h1 w' → Kp G w w' → Kc (a.put o.dst v') w') : wpOp C.P ops Q i Kc a w:=by
 subst ho
 unfold wpOp
 simp only [hi]
 rcases hs with ⟨hw,hok⟩ | ⟨hw,rfl,rfl⟩
 ·rw [if_pos hw]
  refine .inl ?_
  unfold Oper.wp
  rcases hok with ⟨ρ',w',v',hr | ⟨hr,rfl⟩,h2,h3,h4,h5⟩ | ⟨g,args,hr,hc⟩
  ·rw [hr]; exact hn ρ' w' v' h2 h3 h4 h5
  ·rw [hr]; exact hn ρ' w' _ h2 h3 h4 h5
  ·rw [hr]
   refine hc.mono fun e w'' he => ?_
   obtain ⟨ρ',v',rfl,h2,h3,h4,h5⟩:=he
   exact hn ρ' w'' v' h2 h3 h4 h5
 ·rw [if_neg (by rw [hw]; simp)]
  exact hn ρ w undef (Ex.refl G ρ) (.t [] #[] .nil) H (Kp.refl G w)
theorem mD (a : Act) (d : Option Tmp) (x : Value) : (a.put d x).tmps.size = a.tmps.size:=by
 cases d <;> simp [Act.put]
theorem iU (a : Act) (d : Option Tmp) (x : Value) : (a.put d x).defers = a.defers:=by
 cases d <;> rfl
theorem EnvR.put {ρ' : Ren} (he : EnvR ρ env a) (hext : Ext ρ ρ') {d : Option Tmp} {v' : Value} (hv : VR ρ' v v') {nt : Nat} (hf : cX nt d = true) (hnt : nt ≤ a.tmps.size) : EnvR ρ' (bJ env d v) (a.put d v'):=by
 intro t
 cases d with
 | none=>exact (he t).mono hext
 | some d =>
  simp only [cX] at hf
  have hlt : d < a.tmps.size:=Nat.lt_of_lt_of_le (Nat.le_of_ble_eq_true hf) hnt
  simp only [bJ,Act.put]
  by_cases e : t = d
  ·subst e
   simp [hlt,hv]
  ·have e' : Nat.beq t d = false:=by
    cases hb : Nat.beq t d with
    | false=>rfl
    | true=>exact absurd (Nat.eq_of_beq_eq_true hb) e
   rw [e']
   have h0:=(he t).mono hext
   simpa [Array.getElem?_setIfInBounds_ne (Ne.symm e)] using h0
theorem EnvR.mono {ρ' : Ren} (he : EnvR ρ env a) (hext : Ext ρ ρ') : EnvR ρ' env a:=fun t=>(he t).mono hext
def aCe (C : Cfg) (rec : FuncId → List DV → Hp → aH) (nt : Nat) (ops : Array Oper) : List Oper → aZ → Hp → aZ → Hp → Prop
 | [],e,h,e',h'=>e = e' ∧ h = h'
 | o :: os,e,h,e',h'=>cX nt o.dst = true ∧ ∃ v h1,bA C rec ops o e h = some (v,h1) ∧ aCe C rec nt ops os (bJ e o.dst v) h1 e' h'
theorem cS {r : aH} {k : DV → Hp → aH} {z : DV × Hp} (hb : bnd r k = some z) : ∃ v h,r = some (v,h) ∧ k v h = some z:=by
 rw [bLe] at hb
 split at hb
 ·rename_i v h; exact ⟨v,h,rfl,hb⟩
 ·cases hb
theorem nL {nt : Nat} : ∀ (l : List Oper) (k : K) (env : aZ) (h : Hp) (r : DV × Hp),fY C rec nt ops l k env h = some r → ∃ env' h',aCe C rec nt ops l env h env' h' ∧ k env' h' = some r
 | [],k,env,h,r,hp=>⟨env,h,⟨rfl,rfl⟩,hp⟩
 | o :: os,k,env,h,r,hp=>by
  change cnd (cX nt o.dst) (bnd (bA C rec ops o env h) fun v h'=>fY C rec nt ops os k (bJ env o.dst v) h') = some r at hp
  cases hf : cX nt o.dst with
  | false=>rw [hf] at hp; cases hp
  | true =>
   rw [hf] at hp
   obtain ⟨v,h1,h2,h3⟩:=cS hp
   obtain ⟨env',h',h4,h5⟩:=nL os k _ _ r h3
   exact ⟨env',h',⟨hf,v,h1,h2,h4⟩,h5⟩
theorem aPs (K : OkC C rec) {nt : Nat} {DD : List Deferred} {Q : Exit → Act → World → Prop} {env' : aZ} {h' : Hp} : ∀ (l : List Oper) (i : Nat) (ρ : Ren) (env : aZ) (h : Hp) (a : Act) (w : World),
  (∀ j : Nat,l[j]? = ops[i + j]?) → aCe C rec nt ops l env h env' h' → HR G ρ h w → EnvR ρ env a → nt ≤ a.tmps.size → a.defers = DD →
  (∀ ρ' a' w',Ex G ρ ρ' → HR G ρ' h' w' → EnvR ρ' env' a' → Kp G w w' → nt ≤ a'.tmps.size → a'.defers = DD → Q .normal a' w') → wpOps C.P ops Q (List.range' i l.length) a w
 | [],i, ρ,env,h,a,w,_,hr,H,he,hnt,hd,hQ=>by
  obtain ⟨rfl,rfl⟩:=hr
  exact hQ ρ a w (Ex.refl G ρ) H he (Kp.refl G w) hnt hd
 | o :: os,i, ρ,env,h,a,w,hl,hr,H,he,hnt,hd,hQ=>by
  obtain ⟨hf,v,h1,hs,hr'⟩:=hr
  have hi : ops[i]? = some o:=by simpa using (hl 0).symm
  simp only [List.length_cons,List.range'_succ]
  rw [wpOps_cons]
  refine xN (wS K H he hs) rfl hi H fun ρ' w' v' h2 h3 h4 h5 => ?_
  refine aPs (DD:=DD) K os (i + 1) ρ' _ h1 _ w' (fun j => ?_) hr' h4 (he.put h2.ext h3 hf hnt) (by rw [mD]; exact hnt) (by rw [iU]; exact hd) fun ρ2 a2 w2 e1 e2 e3 e4 e5 e6 => ?_
  ·have:=hl (j + 1)
   simpa [Nat.add_assoc,Nat.add_comm 1 j] using this
  ·exact hQ ρ2 a2 w2 (h2.trans e1) e2 e3 (h5.trans e4) e5 e6
end
end Go.Dd

end
