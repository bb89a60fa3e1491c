/- A part of the proof: A B C0 C D E F G H I I2 I3 J K L M: each text has a comment of its own. -/
import Derived.Orders
import Derived.Below
import Derived.Lib.LaidTab
import Derived.Lib.ItoaNum
import Derived.Laws.Tables
import Derived.Laws.Append
import Derived.Laws.Strings
import Derived.Laws.Slices
import Derived.Laws.BytesString
import Derived.Laws.RangeString
import Derived.MapKept
import Derived.Laws.IdiomStrings
import Derived.Laws.AppendOwn
set_option linter.unusedVariables false
set_option linter.unusedSimpArgs false
set_option linter.constructorNameAsVariable false
set_option maxRecDepth 100000
noncomputable section
namespace Go.Dd
theorem dA0 {α : Type} {l r : List α} {i : Nat} {x : α} (h : l.drop i = x :: r) : l[i]? = some x:=by
 have:=congrArg (fun l=>l[0]?) h
 simpa using this
theorem dA1 {α : Type} {l r : List α} {i : Nat} {x : α} (h : l.drop i = x :: r) : l.drop (i + 1) = r:=by
 have:=congrArg (List.drop 1) h
 simpa [List.drop_drop] using this
theorem gLt {α : Type} {l : List α} {i : Nat} {x : α} (h : l[i]? = some x) : i < l.length:=(List.getElem?_eq_some_iff.1 h).1
theorem mH0 {α : Type} {a : α} {l : List α} : a ∈ a :: l:=List.Mem.head _
theorem mH1 {α : Type} {a b : α} {l : List α} : a ∈ b :: a :: l:=List.Mem.tail _ (List.Mem.head _)
theorem laE {α : Type} {a b : List α} : (a ++ b).length = a.length + b.length:=List.length_append
theorem lcE {α : Type} {a : α} {b : List α} : (a :: b).length = b.length + 1:=List.length_cons
theorem lnE {α : Type} : ([] : List α).length = 0:=List.length_nil
theorem aU {α : Type} (a b : α) : (some a = some b) = (a = b):=Option.some.injEq a b
theorem bG {α β : Type} (a c : α) (b d : β) : ((a,b) = (c,d)) = (a = c ∧ b = d):=Prod.mk.injEq a b c d
theorem obs {α β : Type} {o : Option α} {f : α → Option β} {b : β} (h : o.bind f = some b) : ∃ a,o = some a ∧ f a = some b:=Option.bind_eq_some_iff.1 h
noncomputable section
inductive Pos where
 | h
 | o (p : Pos)
 | i (p : Pos)
 deriving DecidableEq
def Pos.toNat : Pos → Nat
 | .h=>1
 | .o p=>2 * p.toNat
 | .i p=>2 * p.toNat + 1
def Pos.succ (p : Pos) : Pos:=Pos.rec (motive:=fun _=>Pos) (.o .h) (fun p _=>.i p) (fun _ ih=>.o ih) p
theorem dZs : Pos.h.succ = .o .h:=rfl
theorem dZt (p : Pos) : (Pos.o p).succ = .i p:=rfl
theorem dZu (p : Pos) : (Pos.i p).succ = .o p.succ:=rfl
inductive Tr (α : Type) where
 | e
 | n (l : Tr α) (v : Option α) (r : Tr α)
def Tr.get {α : Type} (t : Tr α) : Pos → Option α :=
 Tr.rec (motive:=fun _=>Pos → Option α) (fun _=>none)
  (fun _ v _ ihl ihr p=>Pos.rec (motive:=fun _=>Option α) v (fun q _=>ihl q) (fun q _=>ihr q) p) t
def Tr.set {α : Type} (x : α) (p : Pos) : Tr α → Tr α :=
 Pos.rec (motive:=fun _=>Tr α → Tr α)
  (fun t=>Tr.rec (motive:=fun _=>Tr α) (.n .e (some x) .e) (fun l _ r _ _=>.n l (some x) r) t)
  (fun _ ih t=>Tr.rec (motive:=fun _=>Tr α) (.n (ih .e) none .e) (fun l v r _ _=>.n (ih l) v r) t)
  (fun _ ih t=>Tr.rec (motive:=fun _=>Tr α) (.n .e none (ih .e)) (fun l v r _ _=>.n l v (ih r)) t) p
theorem dYd {α : Type} (p : Pos) : (Tr.e : Tr α).get p = none:=rfl
theorem dYk {α : Type} (l : Tr α) (v : Option α) (r : Tr α) : (Tr.n l v r).get .h = v:=rfl
theorem dYl {α : Type} (l : Tr α) (v : Option α) (r : Tr α) (p : Pos) : (Tr.n l v r).get (.o p) = l.get p:=rfl
theorem dYm {α : Type} (l : Tr α) (v : Option α) (r : Tr α) (p : Pos) : (Tr.n l v r).get (.i p) = r.get p:=rfl
theorem dYe {α : Type} (x : α) : Tr.set x .h .e = .n .e (some x) .e:=rfl
theorem dYf {α : Type} (x : α) (l : Tr α) (v : Option α) (r : Tr α) : Tr.set x .h (.n l v r) = .n l (some x) r:=rfl
theorem dYg {α : Type} (x : α) (p : Pos) : Tr.set x (.o p) .e = .n (Tr.set x p .e) none .e:=rfl
theorem dYh {α : Type} (x : α) (p : Pos) (l : Tr α) (v : Option α) (r : Tr α) : Tr.set x (.o p) (.n l v r) = .n (Tr.set x p l) v r:=rfl
theorem dYi {α : Type} (x : α) (p : Pos) : Tr.set x (.i p) .e = .n .e none (Tr.set x p .e):=rfl
theorem dYj {α : Type} (x : α) (p : Pos) (l : Tr α) (v : Option α) (r : Tr α) : Tr.set x (.i p) (.n l v r) = .n l v (Tr.set x p r):=rfl
inductive DV where
 | u
 | b (x : Bool)
 | i (k : IntKind) (n : Int)
 | s (l : List Nat)
 | p0
 | p (b : Pos) (o : Nat)
 | l0
 | l (b : Pos) (o len cap : Nat)
 | lx (b : Pos) (o len cap : Nat)
 | le
 | m0
 | m (b : Pos)
 | f0
 | f (g : FuncId) (first cap : List DV)
 | n0
 | c (t : TypeId) (v : DV)
 | a (cs : List DV)
 | t (vs : List DV)
 | yl (b : Pos)
inductive Kind where
 | ro
 | ex
 | gr (es : Nat)
 | sp
 deriving DecidableEq
inductive WT where
 | e
 | n (l : WT) (v : Int) (r : WT)
inductive Ob where
 | row (k : Kind) (l : List DV)
 | it (s : List Nat) (pos : Nat)
 | mp (es : List (DV × DV))
 | big (n : Nat) (t : WT)
 | mi (t : WT)
def Ob.sg : Ob → Bool
 | .it _ _=>true
 | .mp _=>true
 | _=>false
structure Hp where
 next : Pos
 bl : Tr Ob
abbrev aH:=Option (DV × Hp)
abbrev bA:=Nat → DV
abbrev K:=bA → Hp → aH
def DV.one : DV → Bool
 | .u | .a _ | .t _=>false
 | _=>true
def aS : DV:=.t []
def dD : DV → Option (List DV)
 | .u=>none
 | .t _=>none
 | .a cs=>some cs
 | v=>some [v]
def cv : Value → DV
 | .bool x=>.b x
 | .int k n=>.i k n
 | .string s=>.s (s.data.toList.map (·.toNat))
 | .pointer none=>.p0
 | .slice none 0 0=>.l0
 | .map none=>.m0
 | .nilFunc=>.f0
 | .nilIface=>.n0
 | _=>.u
def zvD (z : Value) : DV :=
 match z with
 | .agg cs=>.a (cs.toList.map cv)
 | v=>cv v
def zsD (v : Value) : List DV:=v.cells.toList.map cv
def Hp.new (h : Hp) (o : Ob) : Pos × Hp:=(h.next,⟨h.next.succ,Tr.set o h.next h.bl⟩)
def bY (cs : List DV) (h : Hp) : aH:=some (.p h.next 0,⟨h.next.succ,Tr.set (.row .ex cs) h.next h.bl⟩)
def mW (b : Pos) (cs : List DV) (h : Hp) : aH:=some (.p b 0,⟨h.next,Tr.set (.row .ex cs) b h.bl⟩)
def yY (b : Pos) (v : DV) (h : Hp) : aH :=
 match dD v with
 | some cs=>mW b cs h
 | none=>none
def dA (v : DV) (h : Hp) : aH :=
 match dD v with
 | some cs=>bY cs h
 | none=>none
def jJ : Nat → List DV → Option (List DV)
 | 0,_=>some []
 | n + 1,x :: xs=>if x.one then (jJ n xs).map (x :: ·) else none
 | _ + 1,[]=>none
def rowOf (b : Pos) (h : Hp) : Option (List DV) :=
 match h.bl.get b with
 | some (.row _ l)=>some l
 | _=>none
def cellD (b : Pos) (o : Nat) (h : Hp) : Option DV :=
 match rowOf b h with
 | some l=>match l[o]? with
  | some v=>if v.one then some v else none
  | none=>none
 | none=>none
def cellsAt (b : Pos) (o n : Nat) (h : Hp) : Option (List DV) :=
 match rowOf b h with
 | some l=>jJ n (l.drop o)
 | none=>none
def aA (x : DV) (h : Hp) : aH :=
 match x with
 | .p b o=>match cellD b o h with
  | some v=>some (v,h)
  | none=>none
 | _=>none
def aK (n : Nat) (x : DV) (h : Hp) : aH :=
 match x with
 | .p b o=>match cellsAt b o n h with
  | some cs=>some (.a cs,h)
  | none=>none
 | _=>none
def jS : List DV → List DV → Option (List DV)
 | l,[]=>some l
 | x :: l,v :: vs=>if x.one && v.one then (jS l vs).map (v :: ·) else none
 | [],_ :: _=>none
def fR : Nat → List DV → List DV → Option (List DV)
 | 0,l,vs=>jS l vs
 | n + 1,x :: l,vs=>(fR n l vs).map (x :: ·)
 | _ + 1,[],vs=>if vs.isEmpty then some [] else none
def Kind.writable : Kind → Bool
 | .ro=>false
 | _=>true
def cE (b : Pos) (o : Nat) (vs : List DV) (h : Hp) : Option Hp :=
 match h.bl.get b with
 | some (.row k l)=>if k.writable then (match fR o l vs with
  | some l'=>some ⟨h.next,Tr.set (.row k l') b h.bl⟩
  | none=>none) else none
 | _=>none
def aG (n : Nat) (x v : DV) (h : Hp) : aH :=
 match x,dD v with
 | .p b o,some cs=>if cs.length = n then (match cE b o cs h with
  | some h'=>some (aS,h')
  | none=>none) else none
 | _,_=>none
def aY (x : DV) (h : Hp) : aH :=
 match x with
 | .p b o=>some (.p b o,h)
 | .f g a c=>some (.f g a c,h)
 | .c t v=>some (.c t v,h)
 | _=>none
def pI : List Nat → List Nat → Bool
 | _,[]=>false
 | [],_ :: _=>true
 | a :: x,b :: y=>Nat.blt a b || (Nat.beq a b && pI x y)
def uL : List Nat → List Nat → Bool
 | [],[]=>true
 | a :: x,b :: y=>Nat.beq a b && uL x y
 | _,_=>false
def fF (op : BinOp) (k : IntKind) (a b : Int) : Option DV :=
 match op with
 | .add=>some (.i k (k.wrap (a + b)))
 | .sub=>some (.i k (k.wrap (a - b)))
 | .mul=>some (.i k (k.wrap (a * b)))
 | .quo=>if b = 0 then none else some (.i k (k.wrap (a.tdiv b)))
 | .rem=>if b = 0 then none else some (.i k (a.tmod b))
 | .eql=>some (.b (a == b))
 | .neq=>some (.b (a != b))
 | .lss=>some (.b (a < b))
 | .leq=>some (.b (a ≤ b))
 | .gtr=>some (.b (a > b))
 | .geq=>some (.b (a ≥ b))
 | .and=>some (.i k (k.wrap ((BitVec.ofInt k.bits a &&& BitVec.ofInt k.bits b).toNat)))
 | .or=>some (.i k (k.wrap ((BitVec.ofInt k.bits a ||| BitVec.ofInt k.bits b).toNat)))
 | .xor=>some (.i k (k.wrap ((BitVec.ofInt k.bits a ^^^ BitVec.ofInt k.bits b).toNat)))
 | _=>none
def aVd (op : BinOp) (a b : List Nat) : Option DV :=
 match op with
 | .add=>if ((a.length + b.length : Nat) : Int) > IntKind.i64.max then none else some (.s (a ++ b))
 | .eql=>some (.b (uL a b))
 | .neq=>some (.b (!uL a b))
 | .lss=>some (.b (pI a b))
 | .leq=>some (.b (pI a b || uL a b))
 | .gtr=>some (.b (!(pI a b || uL a b)))
 | .geq=>some (.b (!pI a b))
 | _=>none
def aMf (d : TypeDesc) (x y : DV) : Option Bool :=
 match d,x,y with
 | .bool,.b a,.b b=>some (a == b)
 | .pointer _,.p0,.p0=>some true
 | .pointer _,.p0,.p _ _=>some false
 | .pointer _,.p _ _,.p0=>some false
 | .slice _,.l0,.l0=>some true
 | .slice _,.l0,.l _ _ _ _=>some false
 | .slice _,.l _ _ _ _,.l0=>some false
 | .slice _,.l0,.lx _ _ _ _=>some false
 | .slice _,.lx _ _ _ _,.l0=>some false
 | .slice _,.l0,.le=>some false
 | .slice _,.le,.l0=>some false
 | .func _ _ _,.f0,.f0=>some true
 | .func _ _ _,.f0,.f _ _ _=>some false
 | .func _ _ _,.f _ _ _,.f0=>some false
 | .map _ _,.m0,.m0=>some true
 | .map _ _,.m0,.m _=>some false
 | .map _ _,.m _,.m0=>some false
 | _,_,_=>none
def aD (op : BinOp) (x y : DV) (h : Hp) : aH :=
 match x,y with
 | .i k a,.i k' b=>if k = k' then (match fF op k a b with
  | some v=>some (v,h)
  | none=>none) else none
 | _,_=>none
def bI (op : BinOp) (x y : DV) (h : Hp) : aH :=
 match x,y with
 | .s a,.s b=>match aVd op a b with
  | some v=>some (v,h)
  | none=>none
 | _,_=>none
def dZ (op : BinOp) (x y : DV) (h : Hp) : aH :=
 match x,y with
 | .i k a,.i _ b =>
  if b < 0 then none else
  match op with
  | .shl=>some (.i k (k.wrap (a * 2 ^ (min b.toNat k.bits))),h)
  | .shr=>some (.i k (a.fdiv (2 ^ (min b.toNat k.bits))),h)
  | _=>none
 | _,_=>none
def lG (d : Option TypeDesc) : Bool :=
 match d with
 | some (.int _)=>true
 | _=>false
def pEq (d : TypeDesc) (pos : Bool) (x y : DV) (h : Hp) : aH :=
 match aMf d x y with
 | some r=>some (.b (if pos then r else !r),h)
 | none=>none
def aMy (P : Program) (t : TypeId) (fs : Array Field) : Bool :=
 match fs.toList with
 | [f,g]=>(f.name != "_") && ((g.name != "_") && (Nat.beq f.offset 0 && (Nat.beq g.offset 1 && (lG (P.underlying f.type) && (lG (P.underlying g.type) && (!(P.stoodInHeld t) && !(P.eqGuardType P.depth t)))))))
 | _=>false
def aCq (P : Program) (t : TypeId) (fs : Array Field) : Bool :=
 match fs.toList with
 | [f,g,e]=>(f.name != "_") && ((g.name != "_") && ((e.name != "_") && (Nat.beq f.offset 0 && (Nat.beq g.offset 1 && (Nat.beq e.offset 2 && (lG (P.underlying f.type) && (lG (P.underlying g.type) && (lG (P.underlying e.type) && (!(P.stoodInHeld t) && !(P.eqGuardType P.depth t))))))))))
 | _=>false
def cBb (ok : Bool) (op : BinOp) (x y : DV) (h : Hp) : aH :=
 match x,y with
 | .a [.i k a,.i l b],.a [.i k' a',.i l' b'] =>
  if ok = true ∧ k = k' ∧ l = l' then (match op with
   | .eql=>some (.b (a == a' && b == b'),h)
   | .neq=>some (.b (!(a == a' && b == b')),h)
   | _=>none) else none
 | _,_=>none
def bLg (op : BinOp) (x y : DV) (h : Hp) : aH :=
 match x,y with
 | .a [.i k a,.i l b,.i m c],.a [.i k' a',.i l' b',.i m' c'] =>
  if k = k' ∧ l = l' ∧ m = m' then (match op with
   | .eql=>some (.b (a == a' && (b == b' && c == c')),h)
   | .neq=>some (.b (!(a == a' && (b == b' && c == c'))),h)
   | _=>none) else none
 | _,_=>none
def cKb (o2 o3 : Bool) (op : BinOp) (x y : DV) (h : Hp) : aH:=bif o3 then bLg op x y h else cBb o2 op x y h
def bKt (op : BinOp) (d : TypeDesc) (x y : DV) (h : Hp) : aH :=
 match d with
 | .int _=>match op with
  | .shl=>dZ .shl x y h
  | .shr=>dZ .shr x y h
  | op=>aD op x y h
 | .string=>bI op x y h
 | d=>match op with
  | .eql=>pEq d true x y h
  | .neq=>pEq d false x y h
  | _=>none
def gQ (op : UnOp) (x : DV) (h : Hp) : aH :=
 match op,x with
 | .neg,.i k n=>some (.i k (k.wrap (0 - n)),h)
 | .not,.b b=>some (.b (!b),h)
 | _,_=>none
def dV (k : IntKind) (x : DV) (h : Hp) : aH :=
 match x with
 | .i _ n=>some (.i k (k.wrap n),h)
 | _=>none
def aDz (x : DV) (h : Hp) : aH :=
 match x with
 | .s l=>some (.s l,h)
 | _=>none
def qX : List DV → Option (List Nat)
 | []=>some []
 | .i .u8 (.ofNat n) :: l=>if n < 256 then (qX l).map (n :: ·) else none
 | _ :: _=>none
def eZ (x : DV) (h : Hp) : aH :=
 match x with
 | .l0=>some (.s [],h)
 | .l b o len _=>match cellsAt b o len h with
  | some cs=>match qX cs with
   | some l=>some (.s l,h)
   | none=>none
  | none=>none
 | _=>none
def fL (x : DV) (y : Nat) : Option Nat :=
 match x with
 | .i _ i=>if 0 ≤ i ∧ i ≤ (y : Int) then some i.toNat else none
 | _=>none
def loD (lo : Option DV) (y : Nat) : Option Nat :=
 match lo with
 | none=>some 0
 | some v=>fL v y
def hiD (hi : Option DV) (len cap : Nat) : Option Nat :=
 match hi with
 | none=>if len ≤ cap then some len else none
 | some v=>fL v cap
def cK (x : DV) (lo hi : Option DV) (h : Hp) : aH :=
 match x with
 | .s l=>match hiD hi l.length l.length with
  | some e=>match loD lo e with
   | some b=>some (.s ((l.take e).drop b),h)
   | none=>none
  | none=>none
 | _=>none
def dF (size : Nat) (x : DV) (lo hi : Option DV) (h : Hp) : aH :=
 match x with
 | .l b o len cap=>match hiD hi len cap with
  | some e=>match loD lo e with
   | some s =>
    match h.bl.get b with
    | some (.row .ro _) | some (.row .ex _)=>some (.l b (if cap = s then o else o + s * size) (e - s) (cap - s),h)
    | some (.row _ _)=>if cap = s then some (.le,h) else some (.l b (o + s * size) (e - s) (cap - s),h)
    | _=>none
   | none=>none
  | none=>none
 | .lx b o len cap=>match hiD hi len cap with
  | some e=>match loD lo e with
   | some s=>some (.lx b (if cap = s then o else o + s * size) (e - s) (cap - s),h)
   | none=>none
  | none=>none
 | .l0=>match hiD hi 0 0 with
  | some e=>match loD lo e with
   | some _=>some (.l0,h)
   | none=>none
  | none=>none
 | .le=>match hiD hi 0 0 with
  | some e=>match loD lo e with
   | some _=>some (.le,h)
   | none=>none
  | none=>none
 | _=>none
def oU (x : DV) (lo : Option DV) (hi mx : DV) (h : Hp) : aH :=
 match x,lo with
 | .l b o _ cap,none=>match fL mx cap with
  | some m=>match fL hi m with
   | some n=>some (.lx b o n m,h)
   | none=>none
  | none=>none
 | .lx b o _ cap,none=>match fL mx cap with
  | some m=>match fL hi m with
   | some n=>some (.lx b o n m,h)
   | none=>none
  | none=>none
 | .l0,none=>match fL mx 0,fL hi 0 with
  | some _,some _=>some (.l0,h)
  | _,_=>none
 | .le,none=>match fL mx 0,fL hi 0 with
  | some _,some _=>some (.le,h)
  | _,_=>none
 | _,_=>none
def aB (off : Nat) (x : DV) (h : Hp) : aH :=
 match x with
 | .p b o=>some (.p b (o + off),h)
 | _=>none
def uF (off : Nat) (x : DV) (h : Hp) : aH :=
 match x with
 | .a cs=>match cs[off]? with
  | some v=>some (v,h)
  | none=>none
 | _=>none
def aFw (off size : Nat) (x : DV) (h : Hp) : aH :=
 match x with
 | .a cs=>some (.a ((cs.drop off).take size),h)
 | _=>none
def aE (size : Nat) (x ix : DV) (h : Hp) : aH :=
 match x,ix with
 | .l b o len _,.i _ i=>if 0 ≤ i ∧ i < (len : Int) then some (.p b (o + i.toNat * size),h) else none
 | .lx b o len _,.i _ i=>if 0 ≤ i ∧ i < (len : Int) then some (.p b (o + i.toNat * size),h) else none
 | _,_=>none
def eL (n size : Nat) (x ix : DV) (h : Hp) : aH :=
 match x,ix with
 | .p b o,.i _ i=>if 0 ≤ i ∧ i < (n : Int) then some (.p b (o + i.toNat * size),h) else none
 | _,_=>none
def bX (x ix : DV) (h : Hp) : aH :=
 match x,ix with
 | .s l,.i _ i=>if 0 ≤ i then (match l[i.toNat]? with
  | some c=>some (.i .u8 (c : Int),h)
  | none=>none) else none
 | _,_=>none
def aC (i : Nat) (x : DV) (h : Hp) : aH :=
 match x with
 | .t vs=>match vs[i]? with
  | some v=>some (v,h)
  | none=>none
 | _=>none
def aP (c x y : DV) (h : Hp) : aH :=
 match c with
 | .b true=>some (x,h)
 | .b false=>some (y,h)
 | _=>none
def cM (x : DV) (h : Hp) : aH :=
 match x with
 | .s l=>some (.i .i64 (l.length : Int),h)
 | _=>none
def cB (x : DV) (h : Hp) : aH :=
 match x with
 | .l _ _ n _=>some (.i .i64 (n : Int),h)
 | .lx _ _ n _=>some (.i .i64 (n : Int),h)
 | .l0=>some (.i .i64 0,h)
 | .le=>some (.i .i64 0,h)
 | _=>none
def cDk (x y : DV) (h : Hp) : aH :=
 match x,y with
 | .i k a,.i _ b=>some (.i k (if b < a then b else a),h)
 | _,_=>none
def dBd (x y : DV) (h : Hp) : aH :=
 match x,y with
 | .i k a,.i _ b=>some (.i k (if b > a then b else a),h)
 | _,_=>none
def jV (cells : List DV) : List (Nat × Nat × DV) → Option (List DV)
 | []=>some cells
 | (off,size,v) :: rest =>
  match dD v with
  | some cs=>if cs.length = size ∧ off + size ≤ cells.length then jV (cells.take off ++ cs ++ cells.drop (off + size)) rest else none
  | none=>none
def bK (zero : List DV) (parts : List (Nat × Nat × DV)) (h : Hp) : aH :=
 match jV zero parts with
 | some cs=>some (.a cs,h)
 | none=>none
def aO (zeros : List DV) (n : Nat) (parts : List (Nat × Nat × DV)) (h : Hp) : aH :=
 match jV zeros parts with
 | some cs=>some (.l h.next 0 n n,⟨h.next.succ,Tr.set (.row .ex cs) h.next h.bl⟩)
 | none=>none
def cS (b : Pos) (zeros : List DV) (n : Nat) (parts : List (Nat × Nat × DV)) (h : Hp) : aH :=
 match jV zeros parts with
 | some cs=>some (.l b 0 n n,⟨h.next,Tr.set (.row .ex cs) b h.bl⟩)
 | none=>none
def bR : Nat → List DV → List DV
 | 0,l=>l.map fun _=>.u
 | _ + 1,[]=>[]
 | n + 1,x :: l=>x :: bR n l
def lM (size : Nat) (x : DV) (h : Hp) : Option (Nat × List DV) :=
 match x with
 | .l0=>some (0,[])
 | .le=>some (0,[])
 | .l b o n _=>match cellsAt b o (n * size) h with
  | some cs=>some (n,cs)
  | none=>none
 | .lx b o n _=>match cellsAt b o (n * size) h with
  | some cs=>some (n,cs)
  | none=>none
 | .s l=>if size = 1 then some (l.length,l.map fun (c : Nat)=>DV.i .u8 (c : Int)) else none
 | _=>none
def kY : Nat:=70368744177664
def rJ (size : Nat) (x y : DV) (h : Hp) : aH :=
 match x with
 | .l b o len _=>match lM size y h with
  | some (n,new)=>if n ≤ len then (match cE b o new h with
   | some h'=>some (.i .i64 (n : Int),h')
   | none=>none) else none
  | none=>none
 | _=>none
def oQ (x : DV) (h : Hp) : aH :=
 match x with
 | .s l=>some (.l h.next 0 l.length l.length,⟨h.next.succ,Tr.set (.row (.gr 1) (l.map fun (c : Nat)=>DV.i .u8 (c : Int))) h.next h.bl⟩)
 | _=>none
def aGr (op : BinOp) (c : Bool) (x y : DV) (h : Hp) : aH :=
 match op,x,y with
 | .eql,.n0,.n0=>if c then some (.b true,h) else none
 | .neq,.n0,.n0=>if c then some (.b false,h) else none
 | .eql,.c _ _,.n0=>some (.b false,h)
 | .neq,.c _ _,.n0=>some (.b true,h)
 | _,_,_=>none
def bBp : Operand → Bool
 | .const _=>true
 | _=>false
def bXd (P : Program) (t : TypeId) (name : String) : Option FuncId :=
 match P.info? t with
 | some i=>match i.methods.find? (·.name == name) with
  | some m=>match P.underlying t,m.path.toList,m.func with
   | some (.pointer _),[],some (f,true)=>some f
   | _,_,_=>none
  | none=>none
 | none=>none
def bB (size bytes : Nat) (s x : DV) (h : Hp) : aH :=
 match lM size x h with
 | none=>none
 | some (n,new) =>
  match s with
  | .l0=>if n = 0 then some (.l0,h) else
   if n * bytes ≤ kY then some (.l h.next 0 n n,⟨h.next.succ,Tr.set (.row (.gr size) new) h.next h.bl⟩) else none
  | .le=>if n = 0 then some (.le,h) else none
  | .l b o len cap =>
   if len + n ≤ cap then
    match cE b (o + len * size) new h with
    | some h'=>some (.l b o (len + n) cap,h')
    | none=>none
   else
    match h.bl.get b,cellsAt b o (len * size) h with
    | some (.row k l),some old =>
     if (len + n) * bytes ≤ kY then
      match k with
      | .ro | .ex=>some (.l h.next 0 (len + n) (len + n),⟨h.next.succ,Tr.set (.row (.gr size) (old ++ new)) h.next h.bl⟩)
      | .gr es=>if es = size ∧ o + cap * size = l.length then
        some (.l h.next 0 (len + n) (len + n),⟨h.next.succ,Tr.set (.row (.gr size) (old ++ new)) h.next (Tr.set (.row .sp (bR o l)) b h.bl)⟩) else none
      | .sp=>none
     else none
    | _,_=>none
  | .lx b o len cap=>if n = 0 then (if len ≤ cap then some (.lx b o len cap,h) else none) else
   if len + n ≤ cap then none else
   match cellsAt b o (len * size) h with
   | some old=>if (len + n) * bytes ≤ kY then some (.l h.next 0 (len + n) (len + n),⟨h.next.succ,Tr.set (.row (.gr size) (old ++ new)) h.next h.bl⟩) else none
   | none=>none
  | _=>none
def tG (x : DV) (h : Hp) : aH :=
 match x with
 | .s l=>some (.p h.next 0,⟨h.next.succ,Tr.set (.it l 0) h.next h.bl⟩)
 | _=>none
def aDe (x : DV) (h : Hp) : aH :=
 match x with
 | .p b 0=>match h.bl.get b with
  | some (.it l pos)=>match l[pos]? with
   | some c=>if c < 128 then some (.t [.b true,.i .i64 (pos : Int),.i .i32 (c : Int)],⟨h.next,Tr.set (.it l (pos + 1)) b h.bl⟩) else none
   | none=>some (.t [.b false],h)
  | _=>none
 | _=>none
def uR (d : TypeDesc) (x y : DV) : Option Bool :=
 match d,x,y with
 | .int _,.i k a,.i k' b=>if k = k' then some (a == b) else none
 | .string,.s a,.s b=>some (uL a b)
 | _,_,_=>none
def iP : TypeDesc → Bool
 | .int _=>true
 | .string=>true
 | _=>false
def tD (P : Program) (t : TypeId) : Bool:=match P.underlying t with
 | some (.int _)=>true
 | some .string=>true
 | _=>false
def uM (P : Program) : TypeDesc → Bool
 | .struct fs=>fs.toList.all fun f=>tD P f.type
 | _=>false
def bHe (d : TypeDesc) (k : DV) : Bool:=match d with
 | .struct fs=>(match k with
  | .a cs=>fs.toList.all fun f=>Nat.blt f.offset cs.length
  | _=>false)
 | _=>false
def fQ (d : TypeDesc) (k : DV) : List (DV × DV) → Option (Option DV)
 | []=>some none
 | e :: es=>match uR d k e.1 with
  | some true=>some (some e.2)
  | some false=>fQ d k es
  | none=>none
def aLy (d : TypeDesc) (k : DV) : List (DV × DV) → Nat → Option (Option (Nat × DV))
 | [],_=>some none
 | e :: es,i=>match uR d k e.1 with
  | some true=>some (some (i,e.2))
  | some false=>aLy d k es (i + 1)
  | none=>none
def rT (d : TypeDesc) (k v : DV) : List (DV × DV) → List (DV × DV)
 | []=>[(k,v)]
 | e :: es=>match uR d k e.1 with
  | some true=>(k,v) :: es
  | _=>e :: rT d k v es
def dW (h : Hp) : aH:=some (.m h.next,⟨h.next.succ,Tr.set (.mp []) h.next h.bl⟩)
def kQ (b : Pos) (h : Hp) : aH:=some (.m b,⟨h.next,Tr.set (.mp []) b h.bl⟩)
def hU (x : DV) (h : Hp) : Option (List (DV × DV)) :=
 match x with
 | .m0=>some []
 | .m b=>match h.bl.get b with
  | some (.mp es)=>some es
  | _=>none
 | _=>none
def eH (d : TypeDesc) (z : DV) (ok : Bool) (x k : DV) (h : Hp) : aH :=
 match hU x h with
 | some es=>match fQ d k es with
  | some (some v)=>some (bif ok then .t [v,.b true] else v,h)
  | some none=>some (bif ok then .t [z,.b false] else z,h)
  | none=>none
 | none=>none
def dS (d : TypeDesc) (x k v : DV) (h : Hp) : aH :=
 match x with
 | .m b=>match h.bl.get b with
  | some (.mp es)=>match fQ d k es with
   | some _=>some (aS,⟨h.next,Tr.set (.mp (rT d k v es)) b h.bl⟩)
   | none=>none
  | _=>none
 | _=>none
def bU (size bytes : Nat) (z : List DV) (n c : DV) (h : Hp) : aH :=
 match n,c with
 | .i .i64 n,.i .i64 c=>if 0 ≤ n ∧ n ≤ c ∧ c.toNat * bytes ≤ 2 ^ 30 ∧ c.toNat * size ≤ 2 ^ 24 ∧ c < 2 ^ 32 then
   some (.l h.next 0 n.toNat c.toNat,⟨h.next.succ,Tr.set (.row .ex (List.replicate c.toNat z).flatten) h.next h.bl⟩) else none
 | _,_=>none
def kG (z : List DV) (x : DV) (h : Hp) : aH :=
 match x with
 | .l0=>some (.t [],h)
 | .le=>some (.t [],h)
 | .l b o n _=>if n = 0 then some (.t [],h) else match cE b o (List.replicate n z).flatten h with
  | some h'=>some (.t [],h')
  | none=>none
 | _=>none
def jC (d : TypeDesc) (z : DV) (x k : DV) (h : Hp) : aH :=
 match x with
 | .m b=>match h.bl.get b with
  | some (.mp es)=>match aLy d k es 0 with
   | some (some (j,v))=>some (.t [v,.i .i64 (j : Int)],⟨h.next,Tr.set (.mp (es.set j (k,v))) b h.bl⟩)
   | some none=>some (.t [z,.i .i64 (es.length : Int)],⟨h.next,Tr.set (.mp (es ++ [(k,z)])) b h.bl⟩)
   | none=>none
  | _=>none
 | _=>none
def fX (x s v : DV) (h : Hp) : aH :=
 match x,s with
 | .m b,.i .i64 (.ofNat j)=>match h.bl.get b with
  | some (.mp es)=>match es[j]? with
   | some e=>some (aS,⟨h.next,Tr.set (.mp (es.set j (e.1,v))) b h.bl⟩)
   | none=>none
  | _=>none
 | _,_=>none
def jW (d : TypeDesc) : Bool :=
 match d with
 | .struct _ | .array _ _=>true
 | _=>false
def opr (env : bA) : Operand → DV
 | .tmp t=>env t
 | .const v=>zvD v
 | .global _=>.u
 | .func f=>.f f [] []
structure Cfg where
 P : Program
 I : FuncId → Option (List DV → Hp → aH)
section
variable (C : Cfg) (rec : FuncId → List DV → Hp → aH)
def cD (g : FuncId) (args : List DV) (h : Hp) : aH :=
 match C.I g with
 | some F=>F args h
 | none=>rec g args h
def jY (f : DV) (args : List DV) (h : Hp) : aH :=
 match f with
 | .f g first cap=>cD C rec g (first ++ args ++ cap) h
 | _=>none
def tN (l : List DV) (h : Hp) : aH :=
 match l with
 | [x,y]=>cDk x y h
 | _=>none
def tF (l : List DV) (h : Hp) : aH :=
 match l with
 | [x,y]=>dBd x y h
 | _=>none
def kN (b : Builtin) (ts : List TypeId) (args : List DV) (h : Hp) : aH :=
 match b with
 | .len=>match ts,args with
  | [t],[x]=>match C.P.underlying t with
   | some .string=>cM x h
   | some (.slice _)=>cB x h
   | _=>none
  | _,_=>none
 | .min=>tN args h
 | .max=>tF args h
 | .clear=>match ts,args with
  | [t],[x]=>match C.P.underlying t with
   | some (.slice e)=>match C.P.info? e with
    | some i=>match i.zero with
     | some z=>if 0 < z.cells.size then kG (zsD z) x h else none
     | none=>none
    | none=>none
   | _=>none
  | _,_=>none
 | .append=>match ts,args with
  | [t,u],[s,x]=>match C.P.underlying t,C.P.underlying u with
   | some (.slice e),some (.slice _) | some (.slice e),some .string=>match C.P.info? e with
    | some i=>match i.zero with
     | some z=>if 0 < i.size ∧ 0 < i.bytes ∧ z.cells.size = i.size then bB i.size i.bytes s x h else none
     | none=>none
    | none=>none
   | _,_=>none
  | _,_=>none
 | .copy=>match ts,args with
  | [t,_],[x,y]=>match C.P.underlying t with
   | some (.slice e)=>match C.P.info? e with
    | some i=>if 0 < i.size then rJ i.size x y h else none
    | none=>none
   | _=>none
  | _,_=>none
 | _=>none
def aUm (r : DV) (name : String) (args : List DV) (h : Hp) : aH :=
 match r with
 | .c t v=>match bXd C.P t name with
  | some f=>jY C rec (.f f [] []) (v :: args) h
  | none=>none
 | _=>none
def jX (o : Oper) (env : bA) (h : Hp) : aH :=
 match o.op with
 | .move x=>some (opr env x,h)
 | .assign x=>some (opr env x,h)
 | .pick c a b=>aP (opr env c) (opr env a) (opr env b) h
 | .alloc t=>match C.P.info? t with
  | some i=>match i.zero with
   | some z=>bY (zsD z) h
   | none=>none
  | none=>none
 | .box _ x=>dA (opr env x) h
 | .build t ps=>match C.P.underlying t,C.P.info? t with
  | some (.struct fs),some i=>match i.zero,fs.toList.mapM (fun f=>(C.P.info? f.type).map fun fi=>(f.offset,fi.size)) with
   | some z,some pl=>match ps.toList.mapM (fun (q : Nat × Operand)=>(pl[q.1]?).map fun s=>(s.1,s.2,opr env q.2)) with
    | some l=>bK (zsD z) l h
    | none=>none
   | _,_=>none
  | some (.array _ e),some i=>match i.zero,ps.toList,C.P.info? e with
   | some z,[],some _=>bK (zsD z) [] h
   | _,_,_=>none
  | _,_=>none
 | .buildSlice t n ps=>match C.P.underlying t with
  | some (.slice e)=>match C.P.info? e with
   | some i=>match i.zero with
    | some z=>if n * i.size ≤ 2 ^ 24 ∧ 0 < i.size ∧ z.cells.size = i.size then
      aO ((List.replicate n (zsD z)).flatten) n (ps.toList.map fun (q : Nat × Operand)=>(q.1 * i.size,i.size,opr env q.2)) h else none
    | none=>none
   | none=>none
  | _=>none
 | .load t a=>match C.P.underlying t,C.P.info? t with
  | some d,some i=>bif jW d then aK i.size (opr env a) h else aA (opr env a) h
  | _,_=>none
 | .store t a x=>match C.P.info? t with
  | some i=>aG i.size (opr env a) (opr env x) h
  | none=>none
 | .nilCheck x=>aY (opr env x) h
 | .binOp op t x y _=>match C.P.underlying t with
  | some (.struct fs)=>cKb (aMy C.P t fs) (aCq C.P t fs) op (opr env x) (opr env y) h
  | some (.interface _)=>aGr op (bBp y) (opr env x) (opr env y) h
  | some d=>bKt op d (opr env x) (opr env y) h
  | none=>none
 | .unOp op _ x=>gQ op (opr env x) h
 | .convert src dst x=>match C.P.underlying src,C.P.underlying dst with
  | some _,some (.int k)=>dV k (opr env x) h
  | some .string,some .string=>aDz (opr env x) h
  | some (.slice e),some .string=>match C.P.underlying e with
   | some (.int .u8)=>eZ (opr env x) h
   | _=>none
  | some .string,some (.slice e)=>match C.P.underlying e with
   | some (.int .u8)=>oQ (opr env x) h
   | _=>none
  | _,_=>none
 | .makeInterface t x=>match C.P.underlying t with
  | some (.interface _)=>none
  | some _=>some (.c t (opr env x),h)
  | none=>none
 | .makeFunc fn first captured=>match fn with
  | .func g=>some (.f g (first.toList.map (opr env)) (captured.toList.map (opr env)),h)
  | _=>none
 | .slice t x lo hi mx=>match C.P.underlying t,mx with
  | some .string,none=>cK (opr env x) (lo.map (opr env)) (hi.map (opr env)) h
  | some (.slice e),none=>match C.P.info? e with
   | some i=>dF i.size (opr env x) (lo.map (opr env)) (hi.map (opr env)) h
   | none=>none
  | some (.slice e),some m=>match C.P.info? e,hi with
   | some _,some hv=>oU (opr env x) (lo.map (opr env)) (opr env hv) (opr env m) h
   | _,_=>none
  | _,_=>none
 | .fieldAddr t x f=>match C.P.underlying t with
  | some (.struct fs)=>match fs[f]? with
   | some fl=>match C.P.info? fl.type with
    | some i=>if i.size = 0 then none else aB fl.offset (opr env x) h
    | none=>none
   | none=>none
  | _=>none
 | .field t x f=>match C.P.underlying t with
  | some (.struct fs)=>match fs[f]? with
   | some fl=>match C.P.underlying fl.type,C.P.info? fl.type with
    | some d,some i=>bif jW d then aFw fl.offset i.size (opr env x) h else uF fl.offset (opr env x) h
    | _,_=>none
   | none=>none
  | _=>none
 | .indexAddr t x ix=>match C.P.underlying t with
  | some (.slice e)=>match C.P.info? e with
   | some i=>aE i.size (opr env x) (opr env ix) h
   | none=>none
  | some (.array n e)=>match C.P.info? e with
   | some i=>eL n i.size (opr env x) (opr env ix) h
   | none=>none
  | _=>none
 | .index t x ix=>match C.P.underlying t with
  | some .string=>bX (opr env x) (opr env ix) h
  | _=>none
 | .makeMap _ none=>dW h
 | .lookup t x k ok=>match C.P.underlying t with
  | some (.map kt et)=>match C.P.underlying kt,C.P.info? et with
   | some d,some i=>match i.zero with
    | some z=>bif iP d then eH d (zvD z) ok (opr env x) (opr env k) h else (bif uM C.P d && bHe d (opr env k) then eH d (zvD z) ok (opr env x) (opr env k) h else none)
    | none=>none
   | _,_=>none
  | _=>none
 | .mapUpdate t m k x=>match C.P.underlying t with
  | some (.map kt _)=>match C.P.underlying kt with
   | some d=>bif iP d then dS d (opr env m) (opr env k) (opr env x) h else none
   | none=>none
  | _=>none
 | .insert t m k x=>match C.P.underlying t with
  | some (.map kt _)=>match C.P.underlying kt with
   | some d=>bif iP d then dS d (opr env m) (opr env k) (opr env x) h else none
   | none=>none
  | _=>none
 | .mapEntry t m k=>match C.P.underlying t with
  | some (.map kt et)=>match C.P.underlying kt,C.P.info? et with
   | some d,some i=>match i.zero with
    | some z=>bif iP d then jC d (zvD z) (opr env m) (opr env k) h else none
    | none=>none
   | _,_=>none
  | _=>none
 | .entryStore _ m s x=>fX (opr env m) (opr env s) (opr env x) h
 | .makeSlice t n c=>match C.P.underlying t with
  | some (.slice e)=>match C.P.info? e with
   | some i=>match i.zero with
    | some z=>if 0 < i.size ∧ z.cells.size = i.size then bU i.size i.bytes (zsD z) (opr env n) (opr env c) h else none
    | none=>none
   | none=>none
  | _=>none
 | .extract x i=>aC i (opr env x) h
 | .range t x=>match C.P.underlying t with
  | some .string=>tG (opr env x) h
  | _=>none
 | .next x str=>if str then aDe (opr env x) h else none
 | .call c=>match c.callee with
  | .builtin b=>kN C b c.argTypes.toList (c.args.toList.map (opr env)) h
  | .value f=>jY C rec (opr env f) (c.args.toList.map (opr env)) h
  | .invoke r m=>aUm C rec (opr env r) m (c.args.toList.map (opr env)) h
 | _=>none
def bO (env : bA) (d : Option Tmp) (v : DV) : bA :=
 match d with
 | some t=>fun j=>bif Nat.beq j t then v else env j
 | none=>env
def dK (nt : Nat) : Option Tmp → Bool
 | some t=>Nat.blt t nt
 | none=>true
def bnd (r : aH) (k : DV → Hp → aH) : aH :=
 match r with
 | some (v,h)=>k v h
 | none=>none
def aT (c : DV) (a b : aH) : aH :=
 match c with
 | .b true=>a
 | .b false=>b
 | _=>none
def gD (g : DV) (want : Bool) (r : aH) (h : Hp) : aH :=
 match g with
 | .b x=>if x == want then r else some (aS,h)
 | .t []=>some (aS,h)
 | _=>none
def aXr (all : Array Oper) (j : Nat) (env : bA) : DV :=
 match (all[j]?).bind (·.dst) with
 | some d=>env d
 | none=>aS
def bL (all : Array Oper) (o : Oper) (env : bA) (h : Hp) : aH :=
 match o.guard with
 | none=>jX C rec o env h
 | some (j,want)=>gD (aXr all j env) want (jX C rec o env h) h
@[reducible] def cnd (b : Bool) (x : aH) : aH:=Bool.rec (motive:=fun _=>aH) none x b
def gY (nt : Nat) (all : Array Oper) (l : List Oper) (k : K) : K :=
 List.rec (motive:=fun _=>K) k (fun o _ ih=>fun env h =>
  cnd (dK nt o.dst) (bnd (bL C rec all o env h) fun v h'=>ih (bO env o.dst v) h')) l
mutual
def DV.beq : DV → DV → Bool
 | .b x,.b y=>x == y
 | .i q x,.i q' y=>q == q' && x == y
 | .s x,.s y=>uL x y
 | .p0,.p0=>true
 | .p x y,.p x' y'=>x == x' && y == y'
 | .l0,.l0=>true
 | .le,.le=>true
 | .l x y z w,.l x' y' z' w'=>x == x' && y == y' && z == z' && w == w'
 | .lx x y z w,.lx x' y' z' w'=>x == x' && y == y' && z == z' && w == w'
 | .m0,.m0=>true
 | .m x,.m x'=>x == x'
 | .f0,.f0=>true
 | .f z x y,.f z' x' y'=>z == z' && dYp x x' && dYp y y'
 | .n0,.n0=>true
 | .c x y,.c x' y'=>x == x' && DV.beq y y'
 | .a x,.a y=>dYp x y
 | .t x,.t y=>dYp x y
 | _,_=>false
def dYp : List DV → List DV → Bool
 | [],[]=>true
 | x :: xs,y :: ys=>DV.beq x y && dYp xs ys
 | _,_=>false
end
def bJ (r : aH) (v : DV) : Bool :=
 match r with
 | some (x,_)=>DV.beq x v
 | none=>false
inductive Cls where
 | pure
 | reads
 | makes
 | acts
 deriving DecidableEq
def bV (P : Program) : Op → Cls
 | .move _ | .assign _ | .pick _ _ _ | .nilCheck _ | .binOp .. | .unOp .. | .fieldAddr .. | .field .. | .index .. | .indexAddr .. | .extract .. | .makeFunc .. | .build .. => .pure
 | .convert src dst _=>match P.underlying src with
  | some (.slice _)=>.reads
  | _=>match P.underlying dst with
   | some (.slice _)=>.acts
   | _=>.pure
 | .slice t _ _ _ mx=>match P.underlying t with
  | some .string=>.pure
  | _=>match mx with
   | none=>.reads
   | some _=>.acts
 | .load .. => .reads
 | .lookup .. => .reads
 | .alloc _=>.makes
 | .box .. => .makes
 | .buildSlice .. => .makes
 | .makeMap _ none=>.makes
 | .call { callee:=.builtin .len,.. }=>.pure
 | .call { callee:=.builtin .min,.. }=>.pure
 | .call { callee:=.builtin .max,.. }=>.pure
 | _=>.acts
def eI (o : Oper) (b : Pos) (env : bA) (h : Hp) : aH :=
 match o.op with
 | .alloc t=>match C.P.info? t with
  | some i=>match i.zero with
   | some z=>mW b (zsD z) h
   | none=>none
  | none=>none
 | .box _ x=>yY b (opr env x) h
 | .buildSlice t n ps=>match C.P.underlying t with
  | some (.slice e)=>match C.P.info? e with
   | some i=>match i.zero with
    | some z=>if n * i.size ≤ 2 ^ 24 ∧ 0 < i.size ∧ z.cells.size = i.size then
      cS b ((List.replicate n (zsD z)).flatten) n (ps.toList.map fun (q : Nat × Operand)=>(q.1 * i.size,i.size,opr env q.2)) h else none
    | none=>none
   | none=>none
  | _=>none
 | .makeMap _ none=>kQ b h
 | _=>none
def cW : Nat → Pos → Pos
 | 0,p=>p
 | n + 1,p=>cW n p.succ
def resv (k : Nat) (h : Hp) : Hp :=
 match k with
 | 0=>h
 | k + 1=>⟨cW (k + 1) h.next,h.bl⟩
def cJ (P : Program) (l : List Oper) : Nat :=
 match l with
 | []=>0
 | o :: l=>(match bV P o.op with
  | .makes=>1
  | _=>0) + cJ P l
def gL (m : Array Nat) (i j : Nat) : Bool:=(m.getD j 0).testBit i
def fC (P : Program) (ops : Array Oper) : Bool :=
 let m:=Region.before ops
 (List.range ops.size).all fun j =>
  (match ops[j]? with
   | some y=>(y.after.all fun e => !Region.binds .any e || Nat.blt e.on j) &&
    (match y.guard with
     | some (g,_)=>gL m g j && !(bV P y.op == .makes)
     | none=>true) &&
    (List.range j).all fun i =>
     match ops[i]? with
     | some x=>gL m i j || (Oper.apart ops x y && !((bV P x.op == .acts || bV P x.op == .makes) && bV P y.op == .acts))
     | none=>false
   | none=>false)
structure Seen where
 at_ : Nat
 look : Hp → aH
 v : DV
def eY (m : Array Nat) (i : Nat) (v : DV) (look : Hp → aH) : Bool → List (Option Nat × Hp) → Bool
 | _,[]=>true
 | dirty,(j,hj) :: rest =>
  (bif dirty then bJ (look hj) v else true) && (match j with
   | none=>true
   | some j=>bif gL m j i then true else eY m i v look true rest)
def eV (nt : Nat) (all : Array Oper) (m : Array Nat) (p0 : Pos) (l : List Oper) (k : K) : Nat → Nat → Bool → List Seen → List (Option Nat × Hp) → K :=
 List.rec (motive:=fun _=>Nat → Nat → Bool → List Seen → List (Option Nat × Hp) → K) (fun _ _ _ _ _=>k) (fun o _ ih=>fun i c dirty rd hs env h =>
  cnd (dK nt o.dst) (
   match bV C.P o.op with
   | .pure=>bnd (bL C rec all o env h) fun v h'=>ih (i + 1) c dirty rd hs (bO env o.dst v) h'
   | .reads=>bnd (bL C rec all o env h) fun v h' =>
     cnd (eY m i v (bL C rec all o env) dirty hs) (ih (i + 1) c dirty (⟨i,bL C rec all o env,v⟩ :: rd) hs (bO env o.dst v) h')
   | .makes=>bnd (eI C o (cW c p0) env h) fun v h'=>ih (i + 1) (c + 1) true rd hs (bO env o.dst v) h'
   | .acts=>bnd (bL C rec all o env h) fun v h' =>
     cnd (rd.all (fun q=>gL m q.at_ i || bJ (q.look h') q.v)) (ih (i + 1) c false rd ((some i,h') :: hs) (bO env o.dst v) h'))) l
def iS (nt : Nat) (ops : Array Oper) (k : K) : K:=fun env h =>
 eV C rec nt ops (Region.before ops) h.next ops.toList k 0 0 false [] [(none,resv (cJ C.P ops.toList) h)] env (resv (cJ C.P ops.toList) h)
def cV : K:=fun _ _=>none
def aL (body : K → K) (n : Nat) : K :=
 Nat.rec (motive:=fun _=>K) cV (fun _ ih=>body ih) n
def aM (nt n : Nat) (c : Code) : (Nat → K) → K → K → K :=
 Code.rec (motive:=fun _=>(Nat → K) → K → K → K)
  (fun _ _ k=>k)
  (fun _ ops dr _ _ k=>Bool.rec (motive:=fun _=>K) (gY C rec nt ops ops.toList k) (Bool.rec (motive:=fun _=>K) cV (iS C rec nt ops k) (fC C.P ops)) dr)
  (fun _ _ iha ihb X kr k=>iha X kr (ihb X kr k))
  (fun c _ _ iha ihb X kr k=>fun env h=>aT (opr env c) (iha X kr k env h) (ihb X kr k env h))
  (fun id _ ih X kr k=>ih (fun j=>bif Nat.beq j id then k else X j) kr k)
  (fun _ ih X kr _=>aL (fun kk=>ih X kr kk) n)
  (fun _ _ _ _ _ _ _ _ _=>cV)
  (fun id X _ _=>X id)
  (fun _ ih X kr k=>ih X kr k)
  (fun _ _ _ k=>k)
  (fun _ _ _ _=>cV)
  (fun _ kr _=>kr)
  (fun _ _ _ _=>cV) c
def aDf (t : TypeId) (x : DV) (h : Hp) (k : DV → aH) : aH :=
 match C.P.underlying t,C.P.info? t with
 | some d,some i=>bnd (bif jW d then aK i.size x h else aA x h) fun v _=>k v
 | _,_=>none
def aWe (env : bA) (h : Hp) (l : List ResultVar) : (List DV → aH) → aH :=
 List.rec (motive:=fun _=>(List DV → aH) → aH) (fun k=>k []) (fun r _ ih k=>match r with
  | .tmp t=>ih fun vs=>k (env t :: vs)
  | .cell a t=>aDf C t (env a) h fun v=>ih fun vs=>k (v :: vs)) l
def bXi (h : Hp) (vs : List DV) : aH :=
 match vs with
 | [v]=>some (v,h)
 | vs=>some (.t vs,h)
def aR (fn : Func) : K:=fun env h=>aWe C env h fn.results.toList (bXi h)
def aJ (args : List DV) : bA:=fun t=>args.getD t aS
def aF (n : Nat) (f : FuncId) (args : List DV) (h : Hp) : aH :=
 match C.P.funcs[f]? with
 | some fn=>match fn.body with
  | some c=>aM C rec fn.ntmps n c (fun _=>cV) (aR C fn) (aR C fn) (aJ args) h
  | none=>none
 | none=>none
end
def mS (C : Cfg) (n : Nat) : FuncId → List DV → Hp → aH :=
 Nat.rec (motive:=fun _=>FuncId → List DV → Hp → aH) (fun _ _ _=>none) (fun m ih=>aF C ih m) n
end
end Go.Dd

namespace Go.Dd
theorem dZi : ∀ p : Pos,0 < p.toNat
 | .h=>by simp [Pos.toNat]
 | .o p=>by have:=dZi p; simp [Pos.toNat]; omega
 | .i p=>by simp [Pos.toNat]
theorem dXw : ∀ p : Pos,p.succ.toNat = p.toNat + 1
 | .h=>rfl
 | .o p=>rfl
 | .i p=>by have:=dXw p; simp [dZs,dZt,dZu,Pos.toNat,this]; omega
theorem dXv {α : Type} (x : α) : ∀ (p : Pos) (t : Tr α),(Tr.set x p t).get p = some x
 | .h,.e=>rfl
 | .h,.n _ _ _=>rfl
 | .o p,.e=>by simp [dYd,dYk,dYl,dYm,dYe,dYf,dYg,dYh,dYi,dYj,dXv x p]
 | .o p,.n l _ _=>by simp [dYd,dYk,dYl,dYm,dYe,dYf,dYg,dYh,dYi,dYj,dXv x p]
 | .i p,.e=>by simp [dYd,dYk,dYl,dYm,dYe,dYf,dYg,dYh,dYi,dYj,dXv x p]
 | .i p,.n _ _ r=>by simp [dYd,dYk,dYl,dYm,dYe,dYf,dYg,dYh,dYi,dYj,dXv x p]
theorem Tr.get_e {α : Type} (q : Pos) : (Tr.e : Tr α).get q = none:=by cases q <;> rfl
theorem dXu {α : Type} (x : α) : ∀ (p q : Pos) (t : Tr α),q ≠ p → (Tr.set x p t).get q = t.get q
 | .h,.h,_,hn=>absurd rfl hn
 | .h,.o q,.e,_=>by simp [dYd,dYk,dYl,dYm,dYe,dYf,dYg,dYh,dYi,dYj,Tr.get_e]
 | .h,.i q,.e,_=>by simp [dYd,dYk,dYl,dYm,dYe,dYf,dYg,dYh,dYi,dYj,Tr.get_e]
 | .h,.o q,.n _ _ _,_=>rfl
 | .h,.i q,.n _ _ _,_=>rfl
 | .o p,.h,.e,_=>rfl
 | .o p,.o q,.e,hn=>by simp only [dYd,dYk,dYl,dYm,dYe,dYf,dYg,dYh,dYi,dYj]; rw [dXu x p q _ (fun e=>hn (by rw [e]))]; simp [Tr.get_e]
 | .o p,.i q,.e,_=>by simp [dYd,dYk,dYl,dYm,dYe,dYf,dYg,dYh,dYi,dYj,Tr.get_e]
 | .o p,.h,.n _ _ _,_=>rfl
 | .o p,.o q,.n l _ _,hn=>by simp only [dYd,dYk,dYl,dYm,dYe,dYf,dYg,dYh,dYi,dYj]; exact dXu x p q l (fun e=>hn (by rw [e]))
 | .o p,.i q,.n _ _ _,_=>rfl
 | .i p,.h,.e,_=>rfl
 | .i p,.i q,.e,hn=>by simp only [dYd,dYk,dYl,dYm,dYe,dYf,dYg,dYh,dYi,dYj]; rw [dXu x p q _ (fun e=>hn (by rw [e]))]; simp [Tr.get_e]
 | .i p,.o q,.e,_=>by simp [dYd,dYk,dYl,dYm,dYe,dYf,dYg,dYh,dYi,dYj,Tr.get_e]
 | .i p,.h,.n _ _ _,_=>rfl
 | .i p,.i q,.n _ _ r,hn=>by simp only [dYd,dYk,dYl,dYm,dYe,dYf,dYg,dYh,dYi,dYj]; exact dXu x p q r (fun e=>hn (by rw [e]))
 | .i p,.o q,.n _ _ _,_=>rfl
theorem Tr.get_set {α : Type} (x : α) (p q : Pos) (t : Tr α) : (Tr.set x p t).get q = if q = p then some x else t.get q:=by
 split
 ·rename_i h; subst h; exact dXv x _ t
 ·rename_i h; exact dXu x p q t h
structure Loc where
 bl : Nat
 of : Nat
 sp : Nat
 spot : Option Nat
abbrev Ren:=Pos → Option Loc
def Ext (ρ ρ' : Ren) : Prop:=∀ b L, ρ b = some L → ρ' b = some L
theorem Ext.refl (ρ : Ren) : Ext ρ ρ:=fun _ _ h=>h
theorem Ext.trans {a b c : Ren} (h : Ext a b) (k : Ext b c) : Ext a c:=fun x L hx=>k x L (h x L hx)
def eC (L : Loc) (i : Nat) : Addr:=⟨L.bl,L.of + i,if i = 0 then L.spot else none⟩
theorem jZ {L : Loc} {i j : Nat} (h : eC L i = eC L j) : i = j:=by
 simp [eC] at h; exact h.1
mutual
inductive VR (ρ : Ren) : DV → Value → Prop
 | u (v : Value) : VR ρ .u v
 | b (x : Bool) : VR ρ (.b x) (.bool x)
 | i (k : IntKind) (n : Int) : VR ρ (.i k n) (.int k n)
 | s (l : List Nat) (bs : ByteArray) (h : bs.data.toList.map (·.toNat) = l) : VR ρ (.s l) (.string bs)
 | p0 : VR ρ .p0 (.pointer none)
 | p (b : Pos) (o : Nat) (L : Loc) (h : ρ b = some L) : VR ρ (.p b o) (.pointer (some (eC L o)))
 | l0 : VR ρ .l0 (.slice none 0 0)
 | le (a : Addr) (c : Nat) : VR ρ .le (.slice (some a) 0 c)
 | l (b : Pos) (o len cap : Nat) (L : Loc) (h : ρ b = some L) : VR ρ (.l b o len cap) (.slice (some (eC L o)) len (cap + L.sp))
 | lx (b : Pos) (o len cap : Nat) (L : Loc) (h : ρ b = some L) : VR ρ (.lx b o len cap) (.slice (some (eC L o)) len cap)
 | m0 : VR ρ .m0 (.map none)
 | m (b : Pos) (L : Loc) (h : ρ b = some L) : VR ρ (.m b) (.map (some L.bl))
 | f0 : VR ρ .f0 .nilFunc
 | f (g : FuncId) (x y : List DV) (x' y' : Array Value) (hx : VRs ρ x x'.toList) (hy : VRs ρ y y'.toList) : VR ρ (.f g x y) (.func (.func g) x' y')
 | n0 : VR ρ .n0 .nilIface
 | c (t : TypeId) (v : DV) (v' : Value) (h : VR ρ v v') : VR ρ (.c t v) (.iface t v')
 | a (x : List DV) (x' : Array Value) (h : VRs ρ x x'.toList) : VR ρ (.a x) (.agg x')
 | t (x : List DV) (x' : Array Value) (h : VRs ρ x x'.toList) : VR ρ (.t x) (.tuple x')
 | yl (b : Pos) (L : Loc) (h : ρ b = some L) : VR ρ (.yl b) (.func (.yield L.bl) #[] #[])
inductive VRs (ρ : Ren) : List DV → List Value → Prop
 | nil : VRs ρ [] []
 | cons (x : DV) (x' : Value) (l : List DV) (l' : List Value) (h : VR ρ x x') (hs : VRs ρ l l') : VRs ρ (x :: l) (x' :: l')
end
mutual
theorem VR.mono {ρ ρ' : Ren} (e : Ext ρ ρ') : ∀ {x : DV} {x' : Value},VR ρ x x' → VR ρ' x x'
 | _,_,.u v=>.u v
 | _,_,.b x=>.b x
 | _,_,.i k n=>.i k n
 | _,_,.s l bs h=>.s l bs h
 | _,_,.p0=>.p0
 | _,_,.p b o L h=>.p b o L (e _ _ h)
 | _,_,.l0=>.l0
 | _,_,.le a c=>.le a c
 | _,_,.l b o n c L h=>.l b o n c L (e _ _ h)
 | _,_,.lx b o n c L h=>.lx b o n c L (e _ _ h)
 | _,_,.m0=>.m0
 | _,_,.m b L h=>.m b L (e _ _ h)
 | _,_,.f0=>.f0
 | _,_,.f g x y x' y' hx hy=>.f g x y x' y' (VRs.mono e hx) (VRs.mono e hy)
 | _,_,.n0=>.n0
 | _,_,.c t v v' h=>.c t v v' (VR.mono e h)
 | _,_,.a x x' h=>.a x x' (VRs.mono e h)
 | _,_,.t x x' h=>.t x x' (VRs.mono e h)
 | _,_,.yl b L h=>.yl b L (e _ _ h)
theorem VRs.mono {ρ ρ' : Ren} (e : Ext ρ ρ') : ∀ {x : List DV} {x' : List Value},VRs ρ x x' → VRs ρ' x x'
 | _,_,.nil=>.nil
 | _,_,.cons x x' l l' h hs=>.cons x x' l l' (VR.mono e h) (VRs.mono e hs)
end
theorem VRs.length {ρ : Ren} : ∀ {x : List DV} {x' : List Value},VRs ρ x x' → x.length = x'.length
 | _,_,.nil=>rfl
 | _,_,.cons _ _ _ _ _ hs=>by simp [VRs.length hs]
theorem VRs.get {ρ : Ren} : ∀ {x : List DV} {x' : List Value},VRs ρ x x' → ∀ (i : Nat) (v : DV),x[i]? = some v → ∃ v',x'[i]? = some v' ∧ VR ρ v v'
 | _,_,.nil,i,v,h=>by simp at h
 | _,_,.cons x x' l l' h hs,0,v,hi=>by simp at hi; subst hi; exact ⟨x',by simp,h⟩
 | _,_,.cons x x' l l' h hs,i + 1,v,hi=>by simp at hi; simpa using VRs.get hs i v hi
theorem VRs.of_get {ρ : Ren} : ∀ {x : List DV} {x' : List Value},x.length = x'.length → (∀ (i : Nat) v v',x[i]? = some v → x'[i]? = some v' → VR ρ v v') → VRs ρ x x'
 | [],[],_,_=>.nil
 | [],_ :: _,h,_=>by simp at h
 | _ :: _,[],h,_=>by simp at h
 | v :: x,v' :: x',h,hg=>.cons _ _ _ _ (hg 0 v v' rfl rfl) (VRs.of_get (by simpa using h) fun i u u' hu hu'=>hg (i + 1) u u' (by simpa using hu) (by simpa using hu'))
theorem VRs.append {ρ : Ren} : ∀ {x : List DV} {x' : List Value} {y : List DV} {y' : List Value},VRs ρ x x' → VRs ρ y y' → VRs ρ (x ++ y) (x' ++ y')
 | _,_,_,_,.nil,h=>h
 | _,_,_,_,.cons x x' l l' h hs,hy=>.cons x x' _ _ h (VRs.append hs hy)
theorem VRs.take {ρ : Ren} : ∀ {x : List DV} {x' : List Value} (n : Nat),VRs ρ x x' → VRs ρ (x.take n) (x'.take n)
 | _,_,0,_=>by simp; exact .nil
 | _,_,n + 1,.nil=>by simp; exact .nil
 | _,_,n + 1,.cons x x' l l' h hs=>by simp only [List.take_succ_cons]; exact .cons x x' _ _ h (VRs.take n hs)
theorem VRs.drop {ρ : Ren} : ∀ {x : List DV} {x' : List Value} (n : Nat),VRs ρ x x' → VRs ρ (x.drop n) (x'.drop n)
 | _,_,0,h=>by simpa using h
 | _,_,n + 1,.nil=>by simp; exact .nil
 | _,_,n + 1,.cons x x' l l' h hs=>by simp only [List.drop_succ_cons]; exact VRs.drop n hs
theorem VRs.map {ρ : Ren} {α : Type} (f : α → DV) (g : α → Value) (h : ∀ x,VR ρ (f x) (g x)) : ∀ l : List α,VRs ρ (l.map f) (l.map g)
 | []=>.nil
 | x :: l=>.cons _ _ _ _ (h x) (VRs.map f g h l)
theorem dYb {ρ : Ren} {x : List DV} {x' : List Value} (h : VRs ρ x x') : ∀ n,VRs ρ (List.replicate n x).flatten (List.replicate n x').flatten
 | 0=>by simp; exact .nil
 | n + 1=>by simp only [List.replicate_succ,List.flatten_cons]; exact h.append (dYb h n)
def aQe : Value → Bool
 | .agg _ | .tuple _=>false
 | _=>true
theorem VR.one {ρ : Ren} {x : DV} {x' : Value} (h : VR ρ x x') (ho : x.one = true) : aQe x' = true:=by
 cases h <;> first | rfl | (simp [DV.one] at ho)
theorem VR.cells {ρ : Ren} {x : DV} {x' : Value} {cs : List DV} (h : VR ρ x x') (hc : dD x = some cs) : VRs ρ cs x'.cells.toList:=by
 cases h <;> simp [dD] at hc <;> subst hc <;> simp only [Value.cells] <;>
  first
  | assumption
  | exact .cons _ _ _ _ (by constructor <;> assumption) .nil
theorem VR.cv (ρ : Ren) (v : Value) : VR ρ (cv v) v:=by
 unfold Dd.cv
 split <;> first | constructor <;> rfl | constructor
theorem dZv (ρ : Ren) (z : Value) : VR ρ (zvD z) z:=by
 unfold zvD
 split
 ·exact .a _ _ (VRs.of_get (by simp) fun i v v' h h'=>by
   simp only [List.getElem?_map] at h
   rw [h'] at h
   simp at h
   subst h
   exact VR.cv ρ v')
 ·exact VR.cv ρ _
theorem dZr (ρ : Ren) (z : Value) : VRs ρ (zsD z) z.cells.toList:=by
 unfold zsD
 generalize z.cells.toList = l
 induction l with
 | nil=>exact .nil
 | cons x l ih=>exact .cons _ _ _ _ (VR.cv ρ x) ih
theorem oZ : ∀ a b : List Nat,uL a b = true ↔ a = b
 | [],[]=>by simp [uL]
 | [],_ :: _=>by simp [uL]
 | _ :: _,[]=>by simp [uL]
 | x :: a,y :: b=>by simp [uL,oZ a b]
mutual
theorem dZe : ∀ x y : DV,DV.beq x y = true → x = y
 | .b x,.b y,h=>by simp [DV.beq] at h; rw [h]
 | .i q x,.i q' y,h=>by simp [DV.beq] at h; rw [h.1,h.2]
 | .s x,.s y,h=>by simp [DV.beq] at h; rw [(oZ x y).1 h]
 | .p0,.p0,_=>rfl
 | .p x y,.p x' y',h=>by simp [DV.beq] at h; rw [h.1,h.2]
 | .l0,.l0,_=>rfl
 | .le,.le,_=>rfl
 | .l x y z w,.l x' y' z' w',h=>by simp [DV.beq] at h; rw [h.1.1.1,h.1.1.2,h.1.2,h.2]
 | .lx x y z w,.lx x' y' z' w',h=>by simp [DV.beq] at h; rw [h.1.1.1,h.1.1.2,h.1.2,h.2]
 | .m0,.m0,_=>rfl
 | .m x,.m x',h=>by simp [DV.beq] at h; rw [h]
 | .f0,.f0,_=>rfl
 | .f z x y,.f z' x' y',h=>by simp [DV.beq] at h; rw [h.1.1,dYq _ _ h.1.2,dYq _ _ h.2]
 | .n0,.n0,_=>rfl
 | .c x y,.c x' y',h=>by simp [DV.beq] at h; rw [h.1,dZe _ _ h.2]
 | .a x,.a y,h=>by simp [DV.beq] at h; rw [dYq _ _ h]
 | .t x,.t y,h=>by simp [DV.beq] at h; rw [dYq _ _ h]
theorem dYq : ∀ x y : List DV,dYp x y = true → x = y
 | [],[],_=>rfl
 | x :: xs,y :: ys,h=>by simp [dYp] at h; rw [dZe _ _ h.1,dYq _ _ h.2]
 | [],_ :: _,h=>by simp [dYp] at h
 | _ :: _,[],h=>by simp [dYp] at h
end
end Go.Dd

namespace Go.Dd
open Go
def bTz (w : World) (b : Nat) : Prop:=∃ ev,w.cell? ⟨b,0,none⟩ = some ev ∧ (ev = .nilIface ∨ ∃ te pe,ev = .iface te pe)
def Facts (w : World) : Prop:=((∃ m,w.cell? ⟨0,0,none⟩ = some (.int .i64 m)) ∧ ∃ t z,w.heap[1]? = some (.cells (Lib.pow10Tab.map fun z=>Value.int .u64 z).toArray t z)) ∧ bTz w 6 ∧ bTz w 7
theorem aIg {w w' : World} {b : Nat} (h : w'.heap[b]? = w.heap[b]?) (i : Nat) : w'.cell? ⟨b,i,none⟩ = w.cell? ⟨b,i,none⟩:=by
 simp only [World.cell?]
 rw [h]
theorem Facts.keep {w w' : World} (F : Facts w) (h : ∀ k,k < 8 → w'.heap[k]? = w.heap[k]?) : Facts w':=by
 obtain ⟨⟨⟨m,hm⟩,t,z,ht⟩,⟨e6,h6,k6⟩,e7,h7,k7⟩:=F
 refine ⟨⟨⟨m, ?_⟩,t,z,by rw [h 1 (by omega)]; exact ht⟩,⟨e6, ?_,k6⟩,e7, ?_,k7⟩
 ·rw [aIg (h 0 (by omega))]; exact hm
 ·rw [aIg (h 6 (by omega))]; exact h6
 ·rw [aIg (h 7 (by omega))]; exact h7
theorem Facts.eight {w : World} (F : Facts w) : 8 ≤ w.heap.size:=by
 obtain ⟨_,_,e7,h7,_⟩:=F
 simp only [World.cell?] at h7
 cases hh : w.heap[7]? with
 | none=>rw [hh] at h7; simp at h7
 | some o =>
  have:=(Array.getElem?_eq_some_iff.1 hh).1
  omega
end Go.Dd

namespace Go.Dd
open Go.RowKit (Below)
theorem eE {w : World} {a : Addr} {v : Value} (h : w.cell? a = some v) : a.block < w.heap.size:=World.block_lt_of_cell? w a h
theorem eA {w : World} {o : Obj} {a : Addr} (h : a.block < w.heap.size) : (w.alloc o).cell? a = w.cell? a:=World.cell?_alloc_lt w o a h
theorem gA {w : World} {o : Obj} {a : Addr} (h : a.block ≠ w.heap.size) : (w.alloc o).frozen? a = w.frozen? a:=World.frozen?_alloc_old w o a h
theorem aCe {w : World} {a : Addr} {v u : Value} (h : w.cell? a = some u) : (w.setCell a v).cell? a = some v:=World.cell?_setCell_same w a v h
theorem oJ {w : World} {a b : Addr} {v : Value} (h : a ≠ b) : (w.setCell a v).cell? b = w.cell? b:=World.cell?_setCell_other w a b v h
def Claims (ρ : Ren) (h : Hp) (b : Pos) (a : Addr) : Prop :=
 ∃ k l L,h.bl.get b = some (.row k l) ∧ ρ b = some L ∧
  ((∃ i v,l[i]? = some v ∧ v.one = true ∧ a = eC L i) ∨ (∃ es j,k = .gr es ∧ j < L.sp * es ∧ a = eC L (l.length + j)))
def isRo (h : Hp) (b : Pos) : Prop:=∃ l,h.bl.get b = some (.row .ro l)
structure Gd where
 B : Nat
 X : Nat → Prop
 N : Nat
 W : Array Obj
 ok : ∀ w : World,(∀ k,k < B → w.heap[k]? = W[k]?) → Facts w
def Own (G : Gd) (k : Nat) : Prop:=G.B ≤ k ∧ ¬ G.X k
structure Kp (G : Gd) (w w' : World) : Prop where
 low : Below G.B w w'
 ex : ∀ k,G.X k → w'.heap[k]? = w.heap[k]?
theorem Kp.refl (G : Gd) (w : World) : Kp G w w:=⟨Below.refl _ w,fun _ _=>rfl⟩
theorem Kp.trans {G : Gd} {a b c : World} (h : Kp G a b) (k : Kp G b c) : Kp G a c:=⟨h.low.trans k.low,fun i hi=>(k.ex i hi).trans (h.ex i hi)⟩
theorem Kp.drew {G : Gd} {a w : World} (h : Kp G a w) : Kp G a w.drew:=⟨h.low.drew,h.ex⟩
structure Ex (G : Gd) (ρ ρ' : Ren) : Prop where
 ext : Ext ρ ρ'
 new : ∀ b L, ρ' b = some L → ρ b = some L ∨ G.N ≤ b.toNat
theorem Ex.refl (G : Gd) (ρ : Ren) : Ex G ρ ρ:=⟨Ext.refl ρ,fun _ _ h=>.inl h⟩
theorem Ex.trans {G : Gd} {a b c : Ren} (h : Ex G a b) (k : Ex G b c) : Ex G a c:=⟨h.ext.trans k.ext,fun x L hx=>(k.new x L hx).elim (fun h1=>h.new x L h1) .inr⟩
def SgR (ρ : Ren) : Ob → Obj → Prop
 | .it s pos,o=>∃ bs,o = .stringIter bs pos ∧ bs.data.toList.map (·.toNat) = s
 | .mp es,o=>∃ arr clock,o = .map arr clock ∧ VRs ρ (es.map (·.1)) (arr.toList.map (·.key)) ∧ VRs ρ (es.map (·.2)) (arr.toList.map (·.val)) ∧ clock = arr.size ∧ ∀ (i : Nat) (e : MapEntry),arr[i]? = some e → e.born = i
 | _,_=>False
theorem SgR.mono {ρ ρ' : Ren} (e : Ext ρ ρ') {o : Ob} {x : Obj} (h : SgR ρ o x) : SgR ρ' o x:=by
 cases o with
 | row k l=>exact h
 | big n t=>exact h
 | mi t=>exact h
 | it s pos=>exact h
 | mp es =>
  obtain ⟨arr,cl,h1,h2,h3,h4⟩:=h
  exact ⟨arr,cl,h1,h2.mono e,h3.mono e,h4⟩
def nc : Obj → Prop
 | .stringIter _ _=>True
 | .map _ _=>True
 | _=>False
theorem SgR.nc {ρ : Ren} {o : Ob} {x : Obj} (h : SgR ρ o x) : nc x:=by
 cases o with
 | row k l=>exact h.elim
 | big n t=>exact h.elim
 | mi t=>exact h.elim
 | it s pos=>obtain ⟨bs,h1,_⟩:=h; subst h1; trivial
 | mp es=>obtain ⟨arr,cl,h1,_⟩:=h; subst h1; trivial
theorem aYf {w : World} {a : Addr} {v : Value} {x : Obj} (ha : w.cell? a = some v) (h : w.heap[a.block]? = some x) (hn : nc x) : False:=by
 unfold World.cell? at ha
 rw [h] at ha
 cases x <;> first | exact hn | cases ha
structure HR (G : Gd) (ρ : Ren) (h : Hp) (w : World) : Prop where
 gl : ∀ k,k < G.B → w.heap[k]? = G.W[k]?
 sz : G.B ≤ w.heap.size ∧ ∀ k,G.X k → k < w.heap.size
 nx : G.N ≤ h.next.toNat
 ro : ∀ b a,Claims ρ h b a → isRo h b → a.block < G.B
 dom : ∀ b o,h.bl.get b = some o → ∃ L, ρ b = some L
 lt : ∀ b L, ρ b = some L → b.toNat < h.next.toNat
 cell : ∀ b k l L i v,h.bl.get b = some (.row k l) → ρ b = some L → l[i]? = some v → v.one = true → ∃ v',w.cell? (eC L i) = some v' ∧ VR ρ v v'
 spare : ∀ b l L es j,h.bl.get b = some (.row (.gr es) l) → ρ b = some L → j < L.sp * es → ∃ v',w.cell? (eC L (l.length + j)) = some v'
 free : ∀ b a,Claims ρ h b a → ¬ isRo h b → w.frozen? a = false ∧ Own G a.block
 inj : ∀ b b' a,Claims ρ h b a → Claims ρ h b' a → ¬ isRo h b → b = b'
 ex : ∀ b l L,h.bl.get b = some (.row .ro l) ∨ h.bl.get b = some (.row .ex l) → ρ b = some L → L.sp = 0
 grone : ∀ b es l (i : Nat) v,h.bl.get b = some (.row (.gr es) l) → l[i]? = some v → v.one = true
 itr : ∀ b o L,o.sg = true → h.bl.get b = some o → ρ b = some L → Own G L.bl ∧ (L.of = 0 ∧ L.spot = none) ∧ ∃ x,w.heap[L.bl]? = some x ∧ SgR ρ o x
 itj : ∀ b o b' o' L L',o.sg = true → o'.sg = true → h.bl.get b = some o → h.bl.get b' = some o' → ρ b = some L → ρ b' = some L' → L.bl = L'.bl → b = b'
def lO (ρ : Ren) (b : Pos) (L : Loc) : Ren:=fun x=>if x = b then some L else ρ x
theorem HR.fresh {G : Gd} {ρ : Ren} {h : Hp} {w : World} (H : HR G ρ h w) : ρ h.next = none:=by
 cases hr : ρ h.next with
 | none=>rfl
 | some L=>exact absurd (H.lt _ _ hr) (Nat.lt_irrefl _)
theorem HR.fresh_get {G : Gd} {ρ : Ren} {h : Hp} {w : World} (H : HR G ρ h w) : h.bl.get h.next = none:=by
 cases hr : h.bl.get h.next with
 | none=>rfl
 | some o=>obtain ⟨L,hL⟩:=H.dom _ _ hr; rw [H.fresh] at hL; cases hL
theorem HR.ext {G : Gd} {ρ : Ren} {h : Hp} {w : World} (H : HR G ρ h w) (L : Loc) : Ext ρ (lO ρ h.next L):=by
 intro b L' hb
 unfold lO
 split
 ·rename_i e; subst e; rw [H.fresh] at hb; cases hb
 ·exact hb
theorem bP (ρ : Ren) (b : Pos) (L : Loc) : lO ρ b L b = some L:=by simp [lO]
theorem aQ (ρ : Ren) {b x : Pos} (L : Loc) (h : x ≠ b) : lO ρ b L x = ρ x:=by simp [lO,h]
theorem HR.lt_cell {G : Gd} {ρ : Ren} {h : Hp} {w : World} (H : HR G ρ h w) {b : Pos} {a : Addr} (hc : Claims ρ h b a) : ∃ v,w.cell? a = some v:=by
 obtain ⟨k,l,L,hb,hL,⟨i,v,hi,hv,rfl⟩ | ⟨es,j,rfl,hj,rfl⟩⟩:=hc
 ·obtain ⟨v',h1,_⟩:=H.cell b k l L i v hb hL hi hv; exact ⟨v',h1⟩
 ·exact H.spare b l L es j hb hL hj
theorem HR.congr {G : Gd} {ρ : Ren} {h : Hp} {w w' : World} (H : HR G ρ h w) (e : w'.heap = w.heap) : HR G ρ h w' where
 gl:=by rw [e]; exact H.gl
 sz:=by rw [e]; exact H.sz
 nx:=H.nx
 ro:=H.ro
 dom:=H.dom
 lt:=H.lt
 cell:=fun b k l L i v h1 h2 h3 h4=>by
  obtain ⟨v',h5,h6⟩:=H.cell b k l L i v h1 h2 h3 h4
  exact ⟨v',by simpa [World.cell?,e] using h5,h6⟩
 spare:=fun b l L es j h1 h2 h3=>by
  obtain ⟨v',h5⟩:=H.spare b l L es j h1 h2 h3
  exact ⟨v',by simpa [World.cell?,e] using h5⟩
 free:=fun b a h1 h2=>by simpa [World.frozen?,e] using H.free b a h1 h2
 inj:=H.inj
 ex:=H.ex
 grone:=H.grone
 itr:=fun b o L h0 h1 h2=>by rw [e]; exact H.itr b o L h0 h1 h2
 itj:=H.itj
theorem HR.drew {G : Gd} {ρ : Ren} {h : Hp} {w : World} (H : HR G ρ h w) : HR G ρ h w.drew:=H.congr rfl
theorem dXz {ρ : Ren} {h : Hp} {o : Ob} {L : Loc} {b : Pos} {a : Addr} (hb : b ≠ h.next)
  (hc : Claims (lO ρ h.next L) ⟨h.next.succ,Tr.set o h.next h.bl⟩ b a) : Claims ρ h b a:=by
 obtain ⟨k,l,L',h1,h2,h3⟩:=hc
 simp only [dXu _ _ _ _ hb] at h1
 rw [aQ _ _ hb] at h2
 exact ⟨k,l,L',h1,h2,h3⟩
theorem iB {h : Hp} {o : Ob} {b : Pos} (hb : b ≠ h.next) : isRo ⟨h.next.succ,Tr.set o h.next h.bl⟩ b ↔ isRo h b:=by
 simp [isRo,dXu _ _ _ _ hb]
theorem xL {G : Gd} {ρ : Ren} {h : Hp} {w : World} (H : HR G ρ h w) (L : Loc) : ∀ b L',lO ρ h.next L b = some L' → b.toNat < h.next.succ.toNat:=by
 intro b L' hb
 rw [dXw]
 unfold lO at hb
 split at hb
 ·rename_i e; subst e; omega
 ·have:=H.lt _ _ hb; omega
theorem HR.exx {G : Gd} {ρ : Ren} {h : Hp} {w : World} (H : HR G ρ h w) (L : Loc) : Ex G ρ (lO ρ h.next L):=⟨H.ext L,fun b L' hb=>by
 unfold lO at hb
 split at hb
 ·rename_i e; subst e; exact .inr H.nx
 ·exact .inl hb⟩
theorem HR.own_new {G : Gd} {ρ : Ren} {h : Hp} {w : World} (H : HR G ρ h w) : Own G w.heap.size:=⟨H.sz.1,fun hx=>Nat.lt_irrefl _ (H.sz.2 _ hx)⟩
theorem dT {G : Gd} {w : World} (hB : G.B ≤ w.heap.size ∧ ∀ k,G.X k → k < w.heap.size) (o : Obj) : Kp G w (w.alloc o) :=
 ⟨(Below.refl _ w).alloc hB.1 o,fun k hk=>Below.heap_alloc _ _ _ (hB.2 k hk)⟩
theorem HR.newRow {G : Gd} {ρ : Ren} {h : Hp} {w : World} (H : HR G ρ h w) (k : Kind) (cs : List DV) (vs : List Value) (arr : Array Value) (t : TypeId) (sp : Nat)
  (hcs : VRs ρ cs vs) (harr : ∀ (i : Nat) v,vs[i]? = some v → arr[i]? = some v)
  (hk : (k = .ex ∧ sp = 0) ∨ (∃ es,k = .gr es ∧ vs.length + sp * es ≤ arr.size ∧ ∀ v ∈ cs,v.one = true)) :
  HR G (lO ρ h.next ⟨w.heap.size,0,sp,none⟩) ⟨h.next.succ,Tr.set (.row k cs) h.next h.bl⟩ (w.alloc (.cells arr t)):=by
 have hext:=H.ext ⟨w.heap.size,0,sp,none⟩
 have hro : k ≠ .ro:=by rintro rfl; rcases hk with ⟨h1,_⟩ | ⟨es,h1,_,_⟩ <;> cases h1
 have hnew : ∀ a,Claims (lO ρ h.next ⟨w.heap.size,0,sp,none⟩) ⟨h.next.succ,Tr.set (.row k cs) h.next h.bl⟩ h.next a → ∃ j,j < arr.size ∧ a = ⟨w.heap.size,j,none⟩:=by
  rintro a ⟨k',l',L',h1,h2,h3⟩
  simp only [dXv,aU,Ob.row.injEq] at h1
  obtain ⟨rfl,rfl⟩:=h1
  rw [bP] at h2
  cases h2
  rcases h3 with ⟨i,v,hi,hv,rfl⟩ | ⟨es,j,rfl,hj,rfl⟩
  ·obtain ⟨v',hv',_⟩:=hcs.get i v hi
   have:=harr i v' hv'
   refine ⟨i, ?_,by simp [eC]⟩
   rcases Nat.lt_or_ge i arr.size with h | h
   ·exact h
   ·simp [Array.getElem?_eq_none h] at this
  ·refine ⟨cs.length + j, ?_,by simp [eC]⟩
   rcases hk with ⟨h1,_⟩ | ⟨es',h1,h2,_⟩
   ·cases h1
   ·cases h1
    rw [hcs.length]
    simp only at hj
    omega
 have hold : ∀ b a,b ≠ h.next → Claims (lO ρ h.next ⟨w.heap.size,0,sp,none⟩) ⟨h.next.succ,Tr.set (.row k cs) h.next h.bl⟩ b a → a.block < w.heap.size:=by
  intro b a hb hc
  obtain ⟨v,hv⟩:=H.lt_cell (dXz hb hc)
  exact eE hv
 refine { gl:=fun k hk=>by rw [Below.heap_alloc _ _ _ (Nat.lt_of_lt_of_le hk H.sz.1)]; exact H.gl k hk,sz := ?_,nx := ?_,ro := ?_,dom := ?_,lt:=xL H _,cell := ?_,spare := ?_,free := ?_,inj := ?_,ex := ?_,grone := ?_,itr := ?_,itj := ?_ }
 ·obtain ⟨h1,h2⟩:=H.sz
  refine ⟨by simp; omega,fun k hk => ?_⟩
  have:=h2 k hk
  simp; omega
 ·have:=H.nx; simp only [dXw]; omega
 ·intro b a hc hr
  by_cases e : b = h.next
  ·subst e
   obtain ⟨l0,h0⟩:=hr
   simp only [dXv,aU,Ob.row.injEq] at h0
   exact absurd h0.1 hro
  ·exact H.ro b a (dXz e hc) ((iB e).1 hr)
 ·intro b o hb
  by_cases e : b = h.next
  ·subst e; exact ⟨_,bP _ _ _⟩
  ·rw [aQ _ _ e]; simp only [dXu _ _ _ _ e] at hb; exact H.dom b o hb
 ·intro b k' l' L' i v hb hL hi hv
  by_cases e : b = h.next
  ·subst e
   simp only [dXv,aU,Ob.row.injEq] at hb
   obtain ⟨rfl,rfl⟩:=hb
   rw [bP] at hL
   cases hL
   obtain ⟨v',hv',hr⟩:=hcs.get i v hi
   refine ⟨v', ?_,hr.mono hext⟩
   have:=harr i v' hv'
   simpa [eC] using this
  ·simp only [dXu _ _ _ _ e] at hb
   rw [aQ _ _ e] at hL
   obtain ⟨v',h5,h6⟩:=H.cell b k' l' L' i v hb hL hi hv
   exact ⟨v',by rw [eA (eE h5)]; exact h5,h6.mono hext⟩
 ·intro b l' L' es j hb hL hj
  by_cases e : b = h.next
  ·subst e
   simp only [dXv,aU,Ob.row.injEq] at hb
   obtain ⟨rfl,rfl⟩:=hb
   rw [bP] at hL
   cases hL
   rcases hk with ⟨h1,_⟩ | ⟨es',h1,h2,_⟩
   ·cases h1
   ·cases h1
    simp only at hj
    have hlt : cs.length + j < arr.size:=by rw [hcs.length]; omega
    exact ⟨arr[cs.length + j],by simp [eC,hlt]⟩
  ·simp only [dXu _ _ _ _ e] at hb
   rw [aQ _ _ e] at hL
   obtain ⟨v',h5⟩:=H.spare b l' L' es j hb hL hj
   exact ⟨v',by rw [eA (eE h5)]; exact h5⟩
 ·intro b a hc hr
  by_cases e : b = h.next
  ·subst e
   obtain ⟨j,hj,rfl⟩:=hnew a hc
   exact ⟨by simp,H.own_new⟩
  ·have hlt:=hold b a e hc
   have:=H.free b a (dXz e hc) (fun h=>hr ((iB e).2 h))
   rw [gA (by omega)]
   exact this
 ·intro b b' a hc hc' hr
  by_cases e : b = h.next
  ·subst e
   by_cases e' : b' = h.next
   ·exact e'.symm
   ·obtain ⟨j,hj,rfl⟩:=hnew a hc
    have:=hold b' _ e' hc'
    exact absurd this (by simp)
  ·by_cases e' : b' = h.next
   ·subst e'
    obtain ⟨j,hj,rfl⟩:=hnew a hc'
    have:=hold b _ e hc
    exact absurd this (by simp)
   ·exact H.inj b b' a (dXz e hc) (dXz e' hc') (fun h=>hr ((iB e).2 h))
 ·intro b l' L' hb hL
  by_cases e : b = h.next
  ·subst e
   simp only [dXv,aU,Ob.row.injEq] at hb
   rw [bP] at hL
   cases hL
   rcases hk with ⟨_,h1⟩ | ⟨es,h1,_,_⟩
   ·exact h1
   ·rcases hb with ⟨h2,_⟩ | ⟨h2,_⟩ <;> rw [h1] at h2 <;> cases h2
  ·simp only [dXu _ _ _ _ e] at hb
   rw [aQ _ _ e] at hL
   exact H.ex b l' L' hb hL
 ·intro b es l' i v hb hi
  by_cases e : b = h.next
  ·subst e
   simp only [dXv,aU,Ob.row.injEq] at hb
   obtain ⟨h1,rfl⟩:=hb
   rcases hk with ⟨h2,_⟩ | ⟨es',h2,_,h3⟩
   ·rw [h1] at h2; cases h2
   ·exact h3 v (List.mem_of_getElem? hi)
  ·simp only [dXu _ _ _ _ e] at hb
   exact H.grone b es l' i v hb hi
 ·intro b o L' h0 hb hL
  by_cases e : b = h.next
  ·subst e; simp [dXv] at hb; subst hb; cases h0
  ·simp only [dXu _ _ _ _ e] at hb
   rw [aQ _ _ e] at hL
   obtain ⟨h1,h2,bs,h3,h4⟩:=H.itr b o L' h0 hb hL
   refine ⟨h1,h2,bs, ?_,h4.mono (H.ext _)⟩
   have hlt : L'.bl < w.heap.size:=by
    rcases Nat.lt_or_ge L'.bl w.heap.size with h | h
    ·exact h
    ·simp [Array.getElem?_eq_none h] at h3
   rw [Below.heap_alloc _ _ _ hlt]
   exact h3
 ·intro b o b' o' L1 L2 h0 h0' hb hb' hL hL' he
  by_cases e : b = h.next
  ·subst e; simp [dXv] at hb; subst hb; cases h0
  ·by_cases e' : b' = h.next
   ·subst e'; simp [dXv] at hb'; subst hb'; cases h0'
   ·simp only [dXu _ _ _ _ e] at hb
    simp only [dXu _ _ _ _ e'] at hb'
    rw [aQ _ _ e] at hL
    rw [aQ _ _ e'] at hL'
    exact H.itj b o b' o' L1 L2 h0 h0' hb hb' hL hL' he
theorem eAa {G : Gd} {ρ : Ren} {h : Hp} {w : World} (H : HR G ρ h w) (k : Kind) (L : Loc)
  (hk : (k = .ex ∧ L.sp = 0) ∨ k = .sp) :
  HR G (lO ρ h.next L) ⟨h.next.succ,Tr.set (.row k []) h.next h.bl⟩ w:=by
 have hext:=H.ext L
 have hnew : ∀ a,¬ Claims (lO ρ h.next L) ⟨h.next.succ,Tr.set (.row k []) h.next h.bl⟩ h.next a:=by
  rintro a ⟨k',l',L',h1,h2,h3⟩
  simp only [dXv,aU,Ob.row.injEq] at h1
  obtain ⟨rfl,rfl⟩:=h1
  rcases h3 with ⟨i,v,hi,hv,rfl⟩ | ⟨es,j,rfl,hj,rfl⟩
  ·simp at hi
  ·rcases hk with ⟨h1,_⟩ | h1 <;> cases h1
 refine { gl:=H.gl,sz:=H.sz,nx := ?_,ro := ?_,dom := ?_,lt:=xL H _,cell := ?_,spare := ?_,free := ?_,inj := ?_,ex := ?_,grone := ?_,itr := ?_,itj := ?_ }
 ·have:=H.nx; simp only [dXw]; omega
 ·intro b a hc hr
  by_cases e : b = h.next
  ·subst e; exact absurd hc (hnew a)
  ·exact H.ro b a (dXz e hc) ((iB e).1 hr)
 ·intro b o hb
  by_cases e : b = h.next
  ·subst e; exact ⟨_,bP _ _ _⟩
  ·rw [aQ _ _ e]; simp only [dXu _ _ _ _ e] at hb; exact H.dom b o hb
 ·intro b k' l' L' i v hb hL hi hv
  by_cases e : b = h.next
  ·subst e
   simp only [dXv,aU,Ob.row.injEq] at hb
   obtain ⟨rfl,rfl⟩:=hb
   simp at hi
  ·simp only [dXu _ _ _ _ e] at hb
   rw [aQ _ _ e] at hL
   obtain ⟨v',h5,h6⟩:=H.cell b k' l' L' i v hb hL hi hv
   exact ⟨v',h5,h6.mono hext⟩
 ·intro b l' L' es j hb hL hj
  by_cases e : b = h.next
  ·subst e
   simp only [dXv,aU,Ob.row.injEq] at hb
   rcases hk with ⟨h1,_⟩ | h1 <;> rw [h1] at hb <;> cases hb.1
  ·simp only [dXu _ _ _ _ e] at hb
   rw [aQ _ _ e] at hL
   exact H.spare b l' L' es j hb hL hj
 ·intro b a hc hr
  by_cases e : b = h.next
  ·subst e; exact absurd hc (hnew a)
  ·exact H.free b a (dXz e hc) (fun h=>hr ((iB e).2 h))
 ·intro b b' a hc hc' hr
  by_cases e : b = h.next
  ·subst e; exact absurd hc (hnew a)
  ·by_cases e' : b' = h.next
   ·subst e'; exact absurd hc' (hnew a)
   ·exact H.inj b b' a (dXz e hc) (dXz e' hc') (fun h=>hr ((iB e).2 h))
 ·intro b l' L' hb hL
  by_cases e : b = h.next
  ·subst e
   simp only [dXv,aU,Ob.row.injEq] at hb
   rw [bP] at hL
   cases hL
   rcases hk with ⟨_,h1⟩ | h1
   ·exact h1
   ·rcases hb with ⟨h2,_⟩ | ⟨h2,_⟩ <;> rw [h1] at h2 <;> cases h2
  ·simp only [dXu _ _ _ _ e] at hb
   rw [aQ _ _ e] at hL
   exact H.ex b l' L' hb hL
 ·intro b es l' i v hb hi
  by_cases e : b = h.next
  ·subst e
   simp only [dXv,aU,Ob.row.injEq] at hb
   obtain ⟨h1,rfl⟩:=hb
   simp at hi
  ·simp only [dXu _ _ _ _ e] at hb
   exact H.grone b es l' i v hb hi
 ·intro b o L' h0 hb hL
  by_cases e : b = h.next
  ·subst e; simp [dXv] at hb; subst hb; cases h0
  ·simp only [dXu _ _ _ _ e] at hb
   rw [aQ _ _ e] at hL
   obtain ⟨h1,h2,x,h3,h4⟩:=H.itr b o L' h0 hb hL
   exact ⟨h1,h2,x,h3,h4.mono (H.ext _)⟩
 ·intro b o b' o' L1 L2 h0 h0' hb hb' hL hL' he
  by_cases e : b = h.next
  ·subst e; simp [dXv] at hb; subst hb; cases h0
  ·by_cases e' : b' = h.next
   ·subst e'; simp [dXv] at hb'; subst hb'; cases h0'
   ·simp only [dXu _ _ _ _ e] at hb
    simp only [dXu _ _ _ _ e'] at hb'
    rw [aQ _ _ e] at hL
    rw [aQ _ _ e'] at hL'
    exact H.itj b o b' o' L1 L2 h0 h0' hb hb' hL hL' he
end Go.Dd

namespace Go.Dd
open Go.RowKit (Below)
theorem eN (L : Loc) (o i : Nat) : (eC L o).add i = eC L (o + i):=by
 unfold Addr.add eC
 split
 ·rename_i h; subst h; rfl
 ·rename_i h; simp [Nat.add_assoc]; intro _ h2; exact absurd h2 h
theorem pN {P : Program} {w : World} {a : Addr} {v x : Value} (h : w.cell? a = some x) (hf : w.frozen? a = false) (ho : aQe v = true) :
  (store a v).run P w = .ok () (w.setCell a v):=by
 cases v <;> simp [aQe] at ho <;> simp [store,Sem.run,h,hf]
structure Wrote (w w' : World) (L : Loc) (n : Nat) (vs : List Value) : Prop where
 os : w'.os = w.os
 tape : w'.tape = w.tape
 output : w'.output = w.output
 size : w'.heap.size = w.heap.size
 block : ∀ k : Nat,k ≠ L.bl → w'.heap[k]? = w.heap[k]?
 new : ∀ (j : Nat) v,vs[j]? = some v → w'.cell? (eC L (n + j)) = some v
 old : ∀ a,(∀ j,j < vs.length → a ≠ eC L (n + j)) → w'.cell? a = w.cell? a
 frozen : ∀ a,w'.frozen? a = w.frozen? a
 kept : ∀ x (k : Nat),nc x → w.heap[k]? = some x → w'.heap[k]? = some x
 no : vs = [] → w' = w
theorem Wrote.nil (w : World) (L : Loc) (n : Nat) : Wrote w w L n [] :=
 ⟨rfl,rfl,rfl,rfl,fun _ _=>rfl,by simp,fun _ _=>rfl,fun _=>rfl,fun _ _ _ h=>h,fun _=>rfl⟩
theorem aFx {w : World} {a : Addr} {v : Value} {x : Obj} {k : Nat} (hx : nc x) (h : w.heap[k]? = some x) :
  (w.setCell a v).heap[k]? = some x:=by
 simp only [World.setCell,Array.getElem?_modify]
 split
 ·rename_i e; subst e; rw [h]; cases x <;> first | rfl | exact hx.elim
 ·exact h
theorem Wrote.cons {w w' : World} {L : Loc} {n : Nat} {v x : Value} {vs : List Value} (hx : w.cell? (eC L n) = some x)
  (h : Wrote (w.setCell (eC L n) v) w' L (n + 1) vs) : Wrote w w' L n (v :: vs) where
 os:=h.os
 tape:=h.tape
 output:=h.output
 size:=by rw [h.size]; simp
 block:=fun k hk=>by rw [h.block k hk,Below.heap_setCell _ _ _ _ (by simpa [eC] using hk)]
 new:=fun j u hj=>by
  cases j with
  | zero =>
   simp at hj; subst hj
   rw [Nat.add_zero,h.old _ (fun j hj e=>by have:=jZ e; omega)]
   exact aCe hx
  | succ j=>simp at hj; have:=h.new j u hj; rwa [show n + (j + 1) = n + 1 + j from by omega]
 old:=fun a ha=>by
  rw [h.old a (fun j hj e=>ha (j + 1) (by simp; omega) (by rw [e]; congr 1; omega))]
  exact oJ (fun e=>ha 0 (by simp) (by rw [← e]; rfl))
 frozen:=fun a=>by rw [h.frozen]; simp
 kept:=fun x k hx hk=>h.kept x k hx (aFx hx hk)
 no:=fun e=>(by cases e)
theorem kO {P : Program} {L : Loc} : ∀ (vs : List Value) (o i : Nat) (w : World),
  (∀ j,j < vs.length → (∃ x,w.cell? (eC L (o + i + j)) = some x) ∧ w.frozen? (eC L (o + i + j)) = false) → (∀ v ∈ vs,aQe v = true) →
  ∃ w',(storeCells (eC L o) vs i).run P w = .ok () w' ∧ Wrote w w' L (o + i) vs
 | [],o,i,w,_,_=>⟨w,by simp [storeCells],Wrote.nil _ _ _⟩
 | v :: vs,o,i,w,hc,ho=>by
  obtain ⟨⟨x,hx⟩,hf⟩:=hc 0 (by simp)
  rw [Nat.add_zero] at hx hf
  have hov : aQe v = true:=ho v (by simp)
  have hr:=pN (P:=P) hx hf hov
  obtain ⟨w',h1,h2⟩:=kO (P:=P) (L:=L) vs o (i + 1) (w.setCell (eC L (o + i)) v) (fun j hj=>by
   have h0:=hc (j + 1) (by simp; omega)
   have e : o + i + (j + 1) = o + (i + 1) + j:=by omega
   rw [e] at h0
   refine ⟨?_,by simp [h0.2]⟩
   obtain ⟨x',hx'⟩:=h0.1
   exact ⟨x',by rw [oJ (fun e=>by have:=jZ e; omega)]; exact hx'⟩) (fun u hu=>ho u (by simp [hu]))
  refine ⟨w', ?_,Wrote.cons hx h2⟩
  simp only [storeCells,Sem.run_bind,eN,hr,Result.andThen_ok]
  exact h1
theorem Wrote.below {G : Gd} {w w' : World} {L : Loc} {n : Nat} {vs : List Value} (h : Wrote w w' L n vs) (hB : Own G L.bl) : Kp G w w' :=
 ⟨⟨h.os,h.tape,h.output,by rw [h.size]; exact Nat.le_refl _,fun k hk=>h.block k (fun e=>by have:=hB.1; omega)⟩,fun k hk=>h.block k (fun e=>hB.2 (e ▸ hk))⟩
theorem aCw : ∀ (l vs l' : List DV),jS l vs = some l' → l'.length = l.length ∧ vs.length ≤ l.length ∧
  (∀ v ∈ vs,v.one = true) ∧ (∀ (j : Nat) v,vs[j]? = some v → l'[j]? = some v ∧ ∃ x,l[j]? = some x ∧ x.one = true) ∧ (∀ j,vs.length ≤ j → l'[j]? = l[j]?)
 | l,[],l',h=>by
  have : l' = l:=by cases l <;> simp [jS] at h <;> simp [h]
  subst this; simp
 | [],v :: vs,l',h=>by simp [jS] at h
 | x :: l,v :: vs,l',h=>by
  simp only [jS] at h
  split at h
  ·rename_i hx
   simp only [Bool.and_eq_true] at hx
   cases hp : jS l vs with
   | none=>rw [hp] at h; simp at h
   | some l1 =>
    rw [hp] at h; simp at h; subst h
    obtain ⟨h1,h2,h3,h4,h5⟩:=aCw l vs l1 hp
    refine ⟨by simp [h1],by simp; exact h2, ?_, ?_, ?_⟩
    ·intro u hu
     simp at hu
     rcases hu with rfl | hu
     ·exact hx.2
     ·exact h3 u hu
    ·intro j u hj
     cases j with
     | zero=>simp at hj; subst hj; exact ⟨by simp,x,by simp,hx.1⟩
     | succ j=>simp at hj; simpa using h4 j u hj
    ·intro j hj
     cases j with
     | zero=>simp at hj
     | succ j=>simp at hj; simpa using h5 j hj
  ·cases h
theorem kE : ∀ (n : Nat) (l vs l' : List DV),fR n l vs = some l' → l'.length = l.length ∧ (vs ≠ [] → n + vs.length ≤ l.length) ∧
  (∀ v ∈ vs,v.one = true) ∧ (∀ (j : Nat) v,vs[j]? = some v → l'[n + j]? = some v ∧ ∃ x,l[n + j]? = some x ∧ x.one = true) ∧ (∀ j,(j < n ∨ n + vs.length ≤ j) → l'[j]? = l[j]?)
 | 0,l,vs,l',h=>by
  obtain ⟨h1,h2,h3,h4,h5⟩:=aCw l vs l' (by simpa [fR] using h)
  exact ⟨h1,fun _=>by omega,h3,by simpa using h4,fun j hj=>h5 j (by omega)⟩
 | n + 1,[],vs,l',h=>by
  simp only [fR] at h
  split at h
  ·rename_i hv
   simp at hv h
   subst hv; subst h
   simp
  ·cases h
 | n + 1,x :: l,vs,l',h=>by
  simp only [fR] at h
  cases hp : fR n l vs with
  | none=>rw [hp] at h; simp at h
  | some l1 =>
   rw [hp] at h; simp at h; subst h
   obtain ⟨h1,h2,h3,h4,h5⟩:=kE n l vs l1 hp
   refine ⟨by simp [h1],fun hv=>by have:=h2 hv; simp; omega,h3, ?_, ?_⟩
   ·intro j u hj
    have:=h4 j u hj
    rw [show n + 1 + j = (n + j) + 1 from by omega]
    simpa using this
   ·intro j hj
    cases j with
    | zero=>simp
    | succ j=>simpa using h5 j (by omega)
theorem aQa {ρ : Ren} {h : Hp} {b : Pos} {k : Kind} {l l' : List DV} (hb : h.bl.get b = some (.row k l)) (hlen : l'.length = l.length)
  (hone : ∀ (i : Nat) v',l'[i]? = some v' → v'.one = true → ∃ v,l[i]? = some v ∧ v.one = true) {x : Pos} {a : Addr}
  (hc : Claims ρ ⟨h.next,Tr.set (.row k l') b h.bl⟩ x a) : Claims ρ h x a:=by
 obtain ⟨k1,l1,L,h1,h2,h3⟩:=hc
 by_cases e : x = b
 ·subst e
  simp only [dXv,aU,Ob.row.injEq] at h1
  obtain ⟨rfl,rfl⟩:=h1
  refine ⟨k,l,L,hb,h2, ?_⟩
  rcases h3 with ⟨i,v,hi,hv,rfl⟩ | ⟨es,j,rfl,hj,rfl⟩
  ·obtain ⟨v0,h5,h6⟩:=hone i v hi hv
   exact .inl ⟨i,v0,h5,h6,rfl⟩
  ·exact .inr ⟨es,j,rfl,hj,by rw [hlen]⟩
 ·simp only [dXu _ _ _ _ e] at h1
  exact ⟨k1,l1,L,h1,h2,h3⟩
theorem HR.put {G : Gd} {ρ : Ren} {h : Hp} {w w' : World} (H : HR G ρ h w) {b : Pos} {k : Kind} {l l' : List DV} {L : Loc} {n : Nat} {vs : List DV} {vs' : List Value}
  (hb : h.bl.get b = some (.row k l)) (hL : ρ b = some L) (hk : k.writable = true) (hp : fR n l vs = some l') (hvs : VRs ρ vs vs') (hw : Wrote w w' L n vs') :
  HR G ρ ⟨h.next,Tr.set (.row k l') b h.bl⟩ w':=by
 obtain ⟨p1,p2,p3,p4,p5⟩:=kE n l vs l' hp
 have hlen:=hvs.length
 have hone : ∀ (i : Nat) v',l'[i]? = some v' → v'.one = true → ∃ v,l[i]? = some v ∧ v.one = true:=by
  intro i v' hi hv
  by_cases hin : n ≤ i ∧ i < n + vs.length
  ·have hlt : i - n < vs.length:=by omega
   obtain ⟨_,x,hx,ho⟩:=p4 (i - n) vs[i - n] (by simp [hlt])
   rw [show n + (i - n) = i from by omega] at hx
   exact ⟨x,hx,ho⟩
  ·rw [p5 i (by omega)] at hi
   exact ⟨v',hi,hv⟩
 have hroB : ¬ isRo h b:=by
  rintro ⟨l0,h0⟩
  rw [hb] at h0; simp at h0
  rw [h0.1] at hk; cases hk
 have hro : ∀ x,isRo ⟨h.next,Tr.set (.row k l') b h.bl⟩ x ↔ isRo h x:=by
  intro x
  by_cases e : x = b
  ·subst e
   simp only [isRo,dXv,hb]
   constructor
   ·rintro ⟨l0,h0⟩; simp at h0; rw [h0.1] at hk; cases hk
   ·rintro ⟨l0,h0⟩; simp at h0; rw [h0.1] at hk; cases hk
  ·simp [isRo,dXu _ _ _ _ e]
 have hcl : ∀ {x a},Claims ρ ⟨h.next,Tr.set (.row k l') b h.bl⟩ x a → Claims ρ h x a:=fun hc=>aQa hb p1 hone hc
 have hother : ∀ x a,x ≠ b → Claims ρ h x a → ∀ j,j < vs'.length → a ≠ eC L (n + j):=by
  intro x a hx hc j hj e
  have hj' : j < vs.length:=by omega
  obtain ⟨_,x0,hx0,ho⟩:=p4 j vs[j] (by simp [hj'])
  have hcb : Claims ρ h b a:=⟨k,l,L,hb,hL,.inl ⟨n + j,x0,hx0,ho,e⟩⟩
  exact hx (H.inj b x a hcb hc hroB).symm
 have hgl : ∀ k,k < G.B → w'.heap[k]? = G.W[k]? := by
  intro k hk
  cases vs' with
  | nil=>rw [hw.no rfl]; exact H.gl k hk
  | cons v0 vr =>
   have h0 : 0 < vs.length:=by rw [hlen]; simp
   obtain ⟨_,x,hx,ho⟩:=p4 0 vs[0] (by simp [h0])
   have hcb : Claims ρ h b (eC L (n + 0)):=⟨_,l,L,hb,hL,.inl ⟨n + 0,x,hx,ho,rfl⟩⟩
   have hown:=(H.free b _ hcb hroB).2
   have hlb : G.B ≤ L.bl:=hown.1
   rw [hw.block k (by omega)]
   exact H.gl k hk
 refine { gl:=hgl,sz:=by rw [hw.size]; exact H.sz,nx:=H.nx,ro:=fun x a hc hr=>H.ro x a (hcl hc) ((hro x).1 hr),dom := ?_,lt:=H.lt,cell := ?_,spare := ?_,free := ?_,inj := ?_,ex := ?_,grone := ?_,itr := ?_,itj := ?_ }
 ·intro x o hx
  by_cases e : x = b
  ·subst e; exact ⟨L,hL⟩
  ·simp only [dXu _ _ _ _ e] at hx; exact H.dom x o hx
 ·intro x k1 l1 L1 i v hx hL1 hi hv
  by_cases e : x = b
  ·subst e
   simp only [dXv,aU,Ob.row.injEq] at hx
   obtain ⟨rfl,rfl⟩:=hx
   rw [hL] at hL1; cases hL1
   by_cases hin : n ≤ i ∧ i < n + vs.length
   ·have hlt : i - n < vs.length:=by omega
    obtain ⟨h6,_⟩:=p4 (i - n) vs[i - n] (by simp [hlt])
    rw [show n + (i - n) = i from by omega,hi] at h6
    simp at h6
    obtain ⟨v',h7,h8⟩:=hvs.get (i - n) v (by simp [hlt,h6])
    have:=hw.new (i - n) v' h7
    rw [show n + (i - n) = i from by omega] at this
    exact ⟨v',this,h8⟩
   ·rw [p5 i (by omega)] at hi
    obtain ⟨v',h7,h8⟩:=H.cell x k l L i v hb hL hi hv
    refine ⟨v', ?_,h8⟩
    rw [hw.old _ (fun j hj e=>by have:=jZ e; omega)]
    exact h7
  ·simp only [dXu _ _ _ _ e] at hx
   obtain ⟨v',h7,h8⟩:=H.cell x k1 l1 L1 i v hx hL1 hi hv
   refine ⟨v', ?_,h8⟩
   rw [hw.old _ (hother x _ e ⟨k1,l1,L1,hx,hL1,.inl ⟨i,v,hi,hv,rfl⟩⟩)]
   exact h7
 ·intro x l1 L1 es j hx hL1 hj
  by_cases e : x = b
  ·subst e
   simp only [dXv,aU,Ob.row.injEq] at hx
   obtain ⟨rfl,rfl⟩:=hx
   rw [hL] at hL1; cases hL1
   obtain ⟨v',h7⟩:=H.spare x l L es j hb hL hj
   rw [p1]
   refine ⟨v', ?_⟩
   rw [hw.old _ (fun j' hj' e=>by
    have h9:=jZ e
    have : vs ≠ []:=by intro hv; subst hv; simp at hlen; omega
    have:=p2 this
    omega)]
   exact h7
  ·simp only [dXu _ _ _ _ e] at hx
   obtain ⟨v',h7⟩:=H.spare x l1 L1 es j hx hL1 hj
   refine ⟨v', ?_⟩
   rw [hw.old _ (hother x _ e ⟨_,l1,L1,hx,hL1,.inr ⟨es,j,rfl,hj,rfl⟩⟩)]
   exact h7
 ·intro x a hc hr
  rw [hw.frozen]
  exact H.free x a (hcl hc) (fun h=>hr ((hro x).2 h))
 ·intro x x' a hc hc' hr
  exact H.inj x x' a (hcl hc) (hcl hc') (fun h=>hr ((hro x).2 h))
 ·intro x l1 L1 hx hL1
  by_cases e : x = b
  ·subst e
   simp only [dXv,aU,Ob.row.injEq] at hx
   rw [hL] at hL1; cases hL1
   rcases hx with ⟨rfl,_⟩ | ⟨rfl,_⟩
   ·cases hk
   ·exact H.ex x l L (.inr hb) hL
  ·simp only [dXu _ _ _ _ e] at hx
   exact H.ex x l1 L1 hx hL1
 ·intro x es l1 i v hx hi
  by_cases e : x = b
  ·subst e
   simp only [dXv,aU,Ob.row.injEq] at hx
   obtain ⟨rfl,rfl⟩:=hx
   by_cases hin : n ≤ i ∧ i < n + vs.length
   ·have hlt : i - n < vs.length:=by omega
    obtain ⟨h6,_⟩:=p4 (i - n) vs[i - n] (by simp [hlt])
    rw [show n + (i - n) = i from by omega,hi] at h6
    simp at h6
    rw [h6]
    exact p3 _ (List.getElem_mem _)
   ·rw [p5 i (by omega)] at hi
    exact H.grone x es l i v hb hi
  ·simp only [dXu _ _ _ _ e] at hx
   exact H.grone x es l1 i v hx hi
 ·intro x o L1 h0 hx hL1
  by_cases e : x = b
  ·subst e; simp [dXv] at hx; subst hx; cases h0
  ·simp only [dXu _ _ _ _ e] at hx
   obtain ⟨h1,h2,bs,h3,h4⟩:=H.itr x o L1 h0 hx hL1
   exact ⟨h1,h2,bs,hw.kept _ _ h4.nc h3,h4⟩
 ·intro x o x' o' L1 L2 h0 h0' hx hx' h1 h2 he
  by_cases e : x = b
  ·subst e; simp [dXv] at hx; subst hx; cases h0
  ·by_cases e' : x' = b
   ·subst e'; simp [dXv] at hx'; subst hx'; cases h0'
   ·simp only [dXu _ _ _ _ e] at hx
    simp only [dXu _ _ _ _ e'] at hx'
    exact H.itj x o x' o' L1 L2 h0 h0' hx hx' h1 h2 he
theorem VRs.mem_one {ρ : Ren} : ∀ {x : List DV} {x' : List Value},VRs ρ x x' → (∀ v ∈ x,v.one = true) → ∀ v' ∈ x',aQe v' = true
 | _,_,.nil,_,v',h=>by simp at h
 | _,_,.cons x x' l l' hx hs,ho,v',h=>by
  simp at h
  rcases h with rfl | h
  ·exact hx.one (ho x (by simp))
  ·exact VRs.mem_one hs (fun v hv=>ho v (by simp [hv])) v' h
theorem fV {P : Program} {G : Gd} {ρ : Ren} {h h' : Hp} {w : World} (H : HR G ρ h w) {b : Pos} {o : Nat} {vs : List DV} {vs' : List Value} {L : Loc}
  (hs : cE b o vs h = some h') (hL : ρ b = some L) (hvs : VRs ρ vs vs') :
  ∃ w',(storeCells (eC L o) vs' 0).run P w = .ok () w' ∧ HR G ρ h' w' ∧ Kp G w w':=by
 unfold cE at hs
 split at hs
 ·rename_i k l hb
  split at hs
  ·rename_i hk
   split at hs
   ·rename_i l' hp
    simp at hs; subst hs
    obtain ⟨p1,p2,p3,p4,p5⟩:=kE o l vs l' hp
    have hlen:=hvs.length
    have hro : ¬ isRo h b:=by
     rintro ⟨l0,h0⟩
     rw [hb] at h0; simp at h0
     rw [h0.1] at hk; cases hk
    have hcl : ∀ j,j < vs'.length → Claims ρ h b (eC L (o + j)):=by
     intro j hj
     have hj' : j < vs.length:=by omega
     obtain ⟨_,x0,hx0,ho⟩:=p4 j vs[j] (by simp [hj'])
     exact ⟨k,l,L,hb,hL,.inl ⟨o + j,x0,hx0,ho,rfl⟩⟩
    obtain ⟨w',h1,h2⟩:=kO (P:=P) (L:=L) vs' o 0 w (fun j hj=>by
     rw [Nat.add_zero]
     exact ⟨H.lt_cell (hcl j hj),(H.free b _ (hcl j hj) hro).1⟩) (hvs.mem_one p3)
    rw [Nat.add_zero] at h2
    refine ⟨w',h1,H.put hb hL hk hp hvs h2, ?_⟩
    by_cases hv : vs' = []
    ·subst hv
     have : w' = w:=by simp [storeCells] at h1; exact h1.symm
     rw [this]
     exact Kp.refl G w
    ·have h0 : 0 < vs'.length:=List.length_pos_iff.2 hv
     have:=(H.free b _ (hcl 0 h0) hro).2
     exact h2.below (by simpa [eC] using this)
   ·cases hs
  ·cases hs
 ·cases hs
end Go.Dd

namespace Go.Dd
open Go.RowKit (Below)
theorem lI : ∀ (o : Nat) (l : List DV),(bR o l).length = l.length ∧ ∀ (i : Nat) v,(bR o l)[i]? = some v → v.one = true → i < o ∧ l[i]? = some v
 | 0,l=>by
  refine ⟨by simp [bR],fun i v hi ho => ?_⟩
  simp [bR] at hi
  obtain ⟨_,_,rfl⟩:=hi
  cases ho
 | o + 1,[]=>by simp [bR]
 | o + 1,x :: l=>by
  obtain ⟨h1,h2⟩:=lI o l
  refine ⟨by simp [bR,h1],fun i v hi ho => ?_⟩
  cases i with
  | zero=>simp [bR] at hi; subst hi; simp
  | succ i =>
   simp [bR] at hi
   obtain ⟨h3,h4⟩:=h2 i v hi ho
   exact ⟨by omega,by simpa using h4⟩
theorem HR.regrow {G : Gd} {ρ : Ren} {h : Hp} {w w' : World} (H : HR G ρ h w) {b : Pos} {size : Nat} {l : List DV} {L : Loc} {o len cap n : Nat} {new : List DV} {new' : List Value} {old : List DV}
  (hb : h.bl.get b = some (.row (.gr size) l)) (hL : ρ b = some L) (hsz : 0 < size) (hend : o + cap * size = l.length) (hlen : len ≤ cap) (hmore : cap < len + n) (hroom : len + n ≤ cap + L.sp)
  (hold : old = (l.drop o).take (len * size)) (hnl : new.length = n * size) (hone : ∀ v ∈ new,v.one = true) (hvs : VRs ρ new new') (hw : Wrote w w' L (o + len * size) new') :
  HR G (lO ρ h.next ⟨L.bl,L.of + o,cap + L.sp - (len + n),if o = 0 then L.spot else none⟩) ⟨h.next.succ,Tr.set (.row (.gr size) (old ++ new)) h.next (Tr.set (.row .sp (bR o l)) b h.bl)⟩ w':=by
 have hbn : b ≠ h.next:=fun e=>by subst e; rw [H.fresh_get] at hb; cases hb
 have hext:=H.ext ⟨L.bl,L.of + o,cap + L.sp - (len + n),if o = 0 then L.spot else none⟩
 have hroB : ¬ isRo h b:=by rintro ⟨l0,h0⟩; rw [hb] at h0; simp at h0
 obtain ⟨k1,k2⟩:=lI o l
 have hnl':=hvs.length
 have e1 : len * size ≤ cap * size:=Nat.mul_le_mul_right _ hlen
 have e2 : (len + n) * size = len * size + n * size:=Nat.add_mul _ _ _
 have e3 : (cap + L.sp) * size = cap * size + L.sp * size:=Nat.add_mul _ _ _
 have e4 : (len + n) * size ≤ (cap + L.sp) * size:=Nat.mul_le_mul_right _ hroom
 have e5 : (cap + L.sp - (len + n)) * size = (cap + L.sp) * size - (len + n) * size:=Nat.sub_mul _ _ _
 have hol : old.length = len * size:=by rw [hold]; simp; omega
 have hadr : ∀ i,eC ⟨L.bl,L.of + o,cap + L.sp - (len + n),if o = 0 then L.spot else none⟩ i = eC L (o + i):=fun i=>by simp [eC,Nat.add_assoc]; by_cases hi : i = 0 <;> by_cases ho : o = 0 <;> simp [hi,ho]
 have hOC : ∀ i,i < l.length + L.sp * size → Claims ρ h b (eC L i):=by
  intro i hi
  by_cases hlt : i < l.length
  ·exact ⟨_,l,L,hb,hL,.inl ⟨i,l[i],by simp [hlt],H.grone b size l i _ hb (by simp [hlt]),rfl⟩⟩
  ·exact ⟨_,l,L,hb,hL,.inr ⟨size,i - l.length,rfl,by omega,by rw [show l.length + (i - l.length) = i from by omega]⟩⟩
 have g1 : ∀ x,x ≠ h.next → x ≠ b → (Tr.set (Ob.row (.gr size) (old ++ new)) h.next (Tr.set (.row .sp (bR o l)) b h.bl)).get x = h.bl.get x:=fun x hx hx'=>by
  rw [dXu _ _ _ _ hx,dXu _ _ _ _ hx']
 have g2 : (Tr.set (Ob.row (.gr size) (old ++ new)) h.next (Tr.set (.row .sp (bR o l)) b h.bl)).get b = some (.row .sp (bR o l)):=by
  rw [dXu _ _ _ _ hbn,dXv]
 have g3 : (Tr.set (Ob.row (.gr size) (old ++ new)) h.next (Tr.set (.row .sp (bR o l)) b h.bl)).get h.next = some (.row (.gr size) (old ++ new)):=dXv _ _ _
 have c1 : ∀ x a,x ≠ h.next → x ≠ b → Claims (lO ρ h.next ⟨L.bl,L.of + o,cap + L.sp - (len + n),if o = 0 then L.spot else none⟩) ⟨h.next.succ,Tr.set (.row (.gr size) (old ++ new)) h.next (Tr.set (.row .sp (bR o l)) b h.bl)⟩ x a → Claims ρ h x a:=by
  rintro x a hx hx' ⟨k',l',L',h1,h2,h3⟩
  simp only [g1 x hx hx'] at h1
  rw [aQ _ _ hx] at h2
  exact ⟨k',l',L',h1,h2,h3⟩
 have c2 : ∀ a,Claims (lO ρ h.next ⟨L.bl,L.of + o,cap + L.sp - (len + n),if o = 0 then L.spot else none⟩) ⟨h.next.succ,Tr.set (.row (.gr size) (old ++ new)) h.next (Tr.set (.row .sp (bR o l)) b h.bl)⟩ b a → ∃ i,i < o ∧ a = eC L i ∧ Claims ρ h b a:=by
  rintro a ⟨k',l',L',h1,h2,h3⟩
  simp only [g2,aU,Ob.row.injEq] at h1
  obtain ⟨rfl,rfl⟩:=h1
  rw [aQ _ _ hbn,hL] at h2
  cases h2
  rcases h3 with ⟨i,v,hi,hv,rfl⟩ | ⟨es,j,h4,hj,rfl⟩
  ·obtain ⟨h5,h6⟩:=k2 i v hi hv
   exact ⟨i,h5,rfl,hOC i (by omega)⟩
  ·cases h4
 have c3 : ∀ a,Claims (lO ρ h.next ⟨L.bl,L.of + o,cap + L.sp - (len + n),if o = 0 then L.spot else none⟩) ⟨h.next.succ,Tr.set (.row (.gr size) (old ++ new)) h.next (Tr.set (.row .sp (bR o l)) b h.bl)⟩ h.next a → ∃ i,o ≤ i ∧ a = eC L i ∧ Claims ρ h b a:=by
  rintro a ⟨k',l',L',h1,h2,h3⟩
  simp only [g3,aU,Ob.row.injEq] at h1
  obtain ⟨rfl,rfl⟩:=h1
  rw [bP] at h2
  cases h2
  rcases h3 with ⟨i,v,hi,hv,rfl⟩ | ⟨es,j,h4,hj,rfl⟩
  ·have hlt : i < (old ++ new).length:=by
    rcases Nat.lt_or_ge i (old ++ new).length with h | h
    ·exact h
    ·simp [List.getElem?_eq_none h] at hi
   simp only [List.length_append] at hlt
   rw [hadr]
   exact ⟨o + i,by omega,rfl,hOC _ (by omega)⟩
  ·cases h4
   simp only at hj
   rw [hadr]
   exact ⟨_,by omega,rfl,hOC _ (by simp only [List.length_append]; omega)⟩
 have hother : ∀ x a,x ≠ b → Claims ρ h x a → ∀ j,j < new'.length → a ≠ eC L (o + len * size + j):=by
  intro x a hx hc j hj e
  exact hx (H.inj b x a (e ▸ hOC _ (by omega)) hc hroB).symm
 have hron : ∀ x,isRo ⟨h.next.succ,Tr.set (.row (.gr size) (old ++ new)) h.next (Tr.set (.row .sp (bR o l)) b h.bl)⟩ x ↔ (isRo h x ∧ x ≠ h.next ∧ x ≠ b):=by
  intro x
  by_cases e : x = h.next
  ·subst e; simp [isRo,g3]
  ·by_cases e' : x = b
   ·subst e'; simp [isRo,g2]
   ·simp [isRo,g1 x e e',e,e']
 have hgl : ∀ k,k < G.B → w'.heap[k]? = G.W[k]? := by
  intro k hk
  have hlt : len * size < (len + n) * size:=Nat.mul_lt_mul_of_pos_right (by omega) hsz
  have hown:=(H.free b _ (hOC (o + len * size) (by omega)) hroB).2
  have hlb : G.B ≤ L.bl:=hown.1
  rw [hw.block k (by omega)]
  exact H.gl k hk
 refine { gl:=hgl,sz:=by rw [hw.size]; exact H.sz,nx:=by have:=H.nx; simp only [dXw]; omega,ro := ?_,dom := ?_,lt:=xL H _,cell := ?_,spare := ?_,free := ?_,inj := ?_,ex := ?_,grone := ?_,itr := ?_,itj := ?_ }
 ·intro x a hc hr
  obtain ⟨h1,h2,h3⟩:=(hron x).1 hr
  exact H.ro x a (c1 x a h2 h3 hc) h1
 ·intro x ob hx
  by_cases e : x = h.next
  ·subst e; exact ⟨_,bP _ _ _⟩
  ·rw [aQ _ _ e]
   by_cases e' : x = b
   ·subst e'; exact ⟨L,hL⟩
   ·simp only [g1 x e e'] at hx; exact H.dom x ob hx
 ·intro x k' l' L' i v hx hL' hi hv
  by_cases e : x = h.next
  ·subst e
   simp only [g3,aU,Ob.row.injEq] at hx
   obtain ⟨rfl,rfl⟩:=hx
   rw [bP] at hL'
   cases hL'
   rw [hadr]
   by_cases hlt : i < old.length
   ·rw [List.getElem?_append_left hlt,hold,List.getElem?_take_of_lt (by omega),List.getElem?_drop] at hi
    obtain ⟨v',h5,h6⟩:=H.cell b _ l L (o + i) v hb hL hi hv
    refine ⟨v', ?_,h6.mono hext⟩
    rw [hw.old _ (fun j hj e=>by have:=jZ e; omega)]
    exact h5
   ·rw [List.getElem?_append_right (by omega)] at hi
    obtain ⟨v',h5,h6⟩:=hvs.get _ v hi
    refine ⟨v', ?_,h6.mono hext⟩
    have:=hw.new _ v' h5
    rwa [show o + len * size + (i - old.length) = o + i from by omega] at this
  ·by_cases e' : x = b
   ·subst e'
    simp only [g2,aU,Ob.row.injEq] at hx
    obtain ⟨rfl,rfl⟩:=hx
    rw [aQ _ _ e,hL] at hL'
    cases hL'
    obtain ⟨h5,h6⟩:=k2 i v hi hv
    obtain ⟨v',h7,h8⟩:=H.cell x _ l L i v hb hL h6 hv
    refine ⟨v', ?_,h8.mono hext⟩
    rw [hw.old _ (fun j hj e=>by have:=jZ e; omega)]
    exact h7
   ·simp only [g1 x e e'] at hx
    rw [aQ _ _ e] at hL'
    obtain ⟨v',h5,h6⟩:=H.cell x k' l' L' i v hx hL' hi hv
    refine ⟨v', ?_,h6.mono hext⟩
    rw [hw.old _ (hother x _ e' ⟨k',l',L',hx,hL',.inl ⟨i,v,hi,hv,rfl⟩⟩)]
    exact h5
 ·intro x l' L' es j hx hL' hj
  by_cases e : x = h.next
  ·subst e
   simp only [g3,aU,Ob.row.injEq,Kind.gr.injEq] at hx
   obtain ⟨rfl,rfl⟩:=hx
   rw [bP] at hL'
   cases hL'
   rw [hadr]
   simp only at hj
   have hidx : o + ((old ++ new).length + j) < l.length + L.sp * size:=by simp only [List.length_append]; omega
   obtain ⟨v',hv'⟩:=H.lt_cell (hOC _ hidx)
   refine ⟨v', ?_⟩
   rw [hw.old _ (fun j' hj' e=>by have:=jZ e; simp only [List.length_append] at this; omega)]
   exact hv'
  ·by_cases e' : x = b
   ·subst e'
    simp only [g2,aU,Ob.row.injEq] at hx
    cases hx.1
   ·simp only [g1 x e e'] at hx
    rw [aQ _ _ e] at hL'
    obtain ⟨v',h5⟩:=H.spare x l' L' es j hx hL' hj
    refine ⟨v', ?_⟩
    rw [hw.old _ (hother x _ e' ⟨_,l',L',hx,hL',.inr ⟨es,j,rfl,hj,rfl⟩⟩)]
    exact h5
 ·intro x a hc hr
  rw [hw.frozen]
  by_cases e : x = h.next
  ·subst e
   obtain ⟨i,_,_,h1⟩:=c3 a hc
   exact H.free b a h1 hroB
  ·by_cases e' : x = b
   ·subst e'
    obtain ⟨i,_,_,h1⟩:=c2 a hc
    exact H.free x a h1 hroB
   ·exact H.free x a (c1 x a e e' hc) (fun h=>hr ((hron x).2 ⟨h,e,e'⟩))
 ·intro x x' a hc hc' hr
  by_cases e : x = h.next
  ·subst e
   obtain ⟨i,hi,hai,h1⟩:=c3 a hc
   by_cases f : x' = h.next
   ·exact f.symm
   ·by_cases f' : x' = b
    ·subst f'
     obtain ⟨i',hi',hai',_⟩:=c2 a hc'
     rw [hai] at hai'
     have:=jZ hai'
     omega
    ·exact absurd (H.inj b x' a h1 (c1 x' a f f' hc') hroB).symm f'
  ·by_cases e' : x = b
   ·subst e'
    obtain ⟨i,hi,hai,h1⟩:=c2 a hc
    by_cases f : x' = h.next
    ·subst f
     obtain ⟨i',hi',hai',_⟩:=c3 a hc'
     rw [hai] at hai'
     have:=jZ hai'
     omega
    ·by_cases f' : x' = x
     ·exact f'.symm
     ·exact H.inj x x' a h1 (c1 x' a f f' hc') hroB
   ·have hx:=c1 x a e e' hc
    have hrx : ¬ isRo h x:=fun h=>hr ((hron x).2 ⟨h,e,e'⟩)
    by_cases f : x' = h.next
    ·subst f
     obtain ⟨i',_,_,h2⟩:=c3 a hc'
     exact absurd (H.inj x b a hx h2 hrx) e'
    ·by_cases f' : x' = b
     ·subst f'
      obtain ⟨i',_,_,h2⟩:=c2 a hc'
      exact H.inj x x' a hx h2 hrx
     ·exact H.inj x x' a hx (c1 x' a f f' hc') hrx
 ·intro x l' L' hx hL'
  by_cases e : x = h.next
  ·subst e; simp [g3] at hx
  ·by_cases e' : x = b
   ·subst e'; simp [g2] at hx
   ·simp only [g1 x e e'] at hx
    rw [aQ _ _ e] at hL'
    exact H.ex x l' L' hx hL'
 ·intro x es l' i v hx hi
  by_cases e : x = h.next
  ·subst e
   simp only [g3,aU,Ob.row.injEq,Kind.gr.injEq] at hx
   obtain ⟨rfl,rfl⟩:=hx
   by_cases hlt : i < old.length
   ·rw [List.getElem?_append_left hlt,hold,List.getElem?_take_of_lt (by omega),List.getElem?_drop] at hi
    exact H.grone b size l _ v hb hi
   ·rw [List.getElem?_append_right (by omega)] at hi
    exact hone v (List.mem_of_getElem? hi)
  ·by_cases e' : x = b
   ·subst e'; simp [g2] at hx
   ·simp only [g1 x e e'] at hx
    exact H.grone x es l' i v hx hi
 ·intro x o L' h0 hx hL'
  by_cases e : x = h.next
  ·subst e; simp [g3] at hx; subst hx; cases h0
  ·by_cases e' : x = b
   ·subst e'; simp [g2] at hx; subst hx; cases h0
   ·simp only [g1 x e e'] at hx
    rw [aQ _ _ e] at hL'
    obtain ⟨h1,h2,bs,h3,h4⟩:=H.itr x o L' h0 hx hL'
    exact ⟨h1,h2,bs,hw.kept _ _ h4.nc h3,h4.mono (H.ext _)⟩
 ·intro x o x' o' L1 L2 h0 h0' hx hx' h1 h2 he
  by_cases e : x = h.next
  ·subst e; simp [g3] at hx; subst hx; cases h0
  ·by_cases e' : x = b
   ·subst e'; simp [g2] at hx; subst hx; cases h0
   ·by_cases f : x' = h.next
    ·subst f; simp [g3] at hx'; subst hx'; cases h0'
    ·by_cases f' : x' = b
     ·subst f'; simp [g2] at hx'; subst hx'; cases h0'
     ·simp only [g1 x e e'] at hx
      simp only [g1 x' f f'] at hx'
      rw [aQ _ _ e] at h1
      rw [aQ _ _ f] at h2
      exact H.itj x o x' o' L1 L2 h0 h0' hx hx' h1 h2 he
theorem HR.newSg {G : Gd} {ρ : Ren} {h : Hp} {w : World} (H : HR G ρ h w) (ob : Ob) (hsg : ob.sg = true) (xo : Obj) (hs : SgR ρ ob xo) :
  HR G (lO ρ h.next ⟨w.heap.size,0,0,none⟩) ⟨h.next.succ,Tr.set ob h.next h.bl⟩ (w.alloc xo):=by
 have hext:=H.ext ⟨w.heap.size,0,0,none⟩
 have hno : ∀ a,¬ Claims (lO ρ h.next ⟨w.heap.size,0,0,none⟩) ⟨h.next.succ,Tr.set ob h.next h.bl⟩ h.next a:=by
  rintro a ⟨k',l',L',h1,h2,h3⟩
  simp [dXv] at h1
  subst h1; cases hsg
 have hold : ∀ b a,b ≠ h.next → Claims (lO ρ h.next ⟨w.heap.size,0,0,none⟩) ⟨h.next.succ,Tr.set ob h.next h.bl⟩ b a → a.block < w.heap.size:=by
  intro b a hb hc
  obtain ⟨v,hv⟩:=H.lt_cell (dXz hb hc)
  exact eE hv
 have hblk : ∀ b o L,o.sg = true → h.bl.get b = some o → ρ b = some L → L.bl < w.heap.size:=by
  intro b o L h0 hb hL
  obtain ⟨h1,h2,bs,h3,h4⟩:=H.itr b o L h0 hb hL
  rcases Nat.lt_or_ge L.bl w.heap.size with h | h
  ·exact h
  ·simp [Array.getElem?_eq_none h] at h3
 refine { gl:=fun k hk=>by rw [Below.heap_alloc _ _ _ (Nat.lt_of_lt_of_le hk H.sz.1)]; exact H.gl k hk,sz := ?_,nx := ?_,ro := ?_,dom := ?_,lt:=xL H _,cell := ?_,spare := ?_,free := ?_,inj := ?_,ex := ?_,grone := ?_,itr := ?_,itj := ?_ }
 ·obtain ⟨h1,h2⟩:=H.sz
  refine ⟨by simp; omega,fun k hk => ?_⟩
  have:=h2 k hk
  simp; omega
 ·have:=H.nx; simp only [dXw]; omega
 ·intro b a hc hr
  by_cases e : b = h.next
  ·subst e; exact absurd hc (hno a)
  ·exact H.ro b a (dXz e hc) ((iB e).1 hr)
 ·intro b o hb
  by_cases e : b = h.next
  ·subst e; exact ⟨_,bP _ _ _⟩
  ·rw [aQ _ _ e]; simp only [dXu _ _ _ _ e] at hb; exact H.dom b o hb
 ·intro b k' l' L' i v hb hL hi hv
  by_cases e : b = h.next
  ·subst e; simp [dXv] at hb; subst hb; cases hsg
  ·simp only [dXu _ _ _ _ e] at hb
   rw [aQ _ _ e] at hL
   obtain ⟨v',h5,h6⟩:=H.cell b k' l' L' i v hb hL hi hv
   exact ⟨v',by rw [eA (eE h5)]; exact h5,h6.mono hext⟩
 ·intro b l' L' es j hb hL hj
  by_cases e : b = h.next
  ·subst e; simp [dXv] at hb; subst hb; cases hsg
  ·simp only [dXu _ _ _ _ e] at hb
   rw [aQ _ _ e] at hL
   obtain ⟨v',h5⟩:=H.spare b l' L' es j hb hL hj
   exact ⟨v',by rw [eA (eE h5)]; exact h5⟩
 ·intro b a hc hr
  by_cases e : b = h.next
  ·subst e; exact absurd hc (hno a)
  ·have hlt:=hold b a e hc
   have:=H.free b a (dXz e hc) (fun h=>hr ((iB e).2 h))
   rw [gA (by omega)]
   exact this
 ·intro b b' a hc hc' hr
  by_cases e : b = h.next
  ·subst e; exact absurd hc (hno a)
  ·by_cases e' : b' = h.next
   ·subst e'; exact absurd hc' (hno a)
   ·exact H.inj b b' a (dXz e hc) (dXz e' hc') (fun h=>hr ((iB e).2 h))
 ·intro b l' L' hb hL
  by_cases e : b = h.next
  ·subst e; simp [dXv] at hb; rcases hb with hb | hb <;> (subst hb; cases hsg)
  ·simp only [dXu _ _ _ _ e] at hb
   rw [aQ _ _ e] at hL
   exact H.ex b l' L' hb hL
 ·intro b es l' i v hb hi
  by_cases e : b = h.next
  ·subst e; simp [dXv] at hb; subst hb; cases hsg
  ·simp only [dXu _ _ _ _ e] at hb
   exact H.grone b es l' i v hb hi
 ·intro b o L' h0 hb hL
  by_cases e : b = h.next
  ·subst e
   simp only [dXv,aU] at hb
   subst hb
   rw [bP] at hL
   cases hL
   refine ⟨H.own_new,⟨rfl,rfl⟩,xo, ?_,hs.mono hext⟩
   show (w.heap.push _)[w.heap.size]? = _
   simp
  ·simp only [dXu _ _ _ _ e] at hb
   rw [aQ _ _ e] at hL
   obtain ⟨h1,h2,bs,h3,h4⟩:=H.itr b o L' h0 hb hL
   refine ⟨h1,h2,bs, ?_,h4.mono hext⟩
   rw [Below.heap_alloc _ _ _ (hblk b o L' h0 hb hL)]
   exact h3
 ·intro b o b' o' L1 L2 h0 h0' hb hb' hL hL' he
  by_cases e : b = h.next
  ·by_cases e' : b' = h.next
   ·rw [e,e']
   ·subst e
    simp only [dXu _ _ _ _ e'] at hb'
    rw [bP] at hL
    cases hL
    rw [aQ _ _ e'] at hL'
    have:=hblk b' o' L2 h0' hb' hL'
    simp at he
    omega
  ·by_cases e' : b' = h.next
   ·subst e'
    simp only [dXu _ _ _ _ e] at hb
    rw [bP] at hL'
    cases hL'
    rw [aQ _ _ e] at hL
    have:=hblk b o L1 h0 hb hL
    simp at he
    omega
   ·simp only [dXu _ _ _ _ e] at hb
    simp only [dXu _ _ _ _ e'] at hb'
    rw [aQ _ _ e] at hL
    rw [aQ _ _ e'] at hL'
    exact H.itj b o b' o' L1 L2 h0 h0' hb hb' hL hL' he
theorem HR.newIter {G : Gd} {ρ : Ren} {h : Hp} {w : World} (H : HR G ρ h w) (s : List Nat) (bs : ByteArray) (hs : bs.data.toList.map (·.toNat) = s) :
  HR G (lO ρ h.next ⟨w.heap.size,0,0,none⟩) ⟨h.next.succ,Tr.set (.it s 0) h.next h.bl⟩ (w.alloc (.stringIter bs 0)):=H.newSg _ rfl _ ⟨bs,rfl,hs⟩
theorem HR.setSg {G : Gd} {ρ : Ren} {h : Hp} {w : World} (H : HR G ρ h w) {b : Pos} {ob ob1 : Ob} {xo xo1 : Obj} {L : Loc} (hsg : ob.sg = true) (hsg1 : ob1.sg = true)
  (hb : h.bl.get b = some ob) (hL : ρ b = some L) (hbs : w.heap[L.bl]? = some xo) (hnc : nc xo) (hs : SgR ρ ob1 xo1) :
  HR G ρ ⟨h.next,Tr.set ob1 b h.bl⟩ { w with heap:=w.heap.setIfInBounds L.bl xo1 } ∧ Kp G w { w with heap:=w.heap.setIfInBounds L.bl xo1 }:=by
 obtain ⟨hB,_,_⟩:=H.itr b ob L hsg hb hL
 have hlt : L.bl < w.heap.size:=by
  rcases Nat.lt_or_ge L.bl w.heap.size with h | h
  ·exact h
  ·simp [Array.getElem?_eq_none h] at hbs
 have hcell : ∀ a v,w.cell? a = some v → ({ w with heap:=w.heap.setIfInBounds L.bl xo1 } : World).cell? a = some v:=by
  intro a v ha
  have hne : L.bl ≠ a.block:=by
   intro e
   exact aYf ha (by rw [← e]; exact hbs) hnc
  unfold World.cell? at ha ⊢
  rw [Array.getElem?_setIfInBounds_ne hne]
  exact ha
 have hfro : ∀ a v,w.cell? a = some v → ({ w with heap:=w.heap.setIfInBounds L.bl xo1 } : World).frozen? a = w.frozen? a:=by
  intro a v ha
  have hne : L.bl ≠ a.block:=by
   intro e
   exact aYf ha (by rw [← e]; exact hbs) hnc
  unfold World.frozen?
  rw [Array.getElem?_setIfInBounds_ne hne]
 have hcl : ∀ {x a},Claims ρ ⟨h.next,Tr.set ob1 b h.bl⟩ x a → Claims ρ h x a:=by
  rintro x a ⟨k',l',L',h1,h2,h3⟩
  by_cases e : x = b
  ·subst e; simp [dXv] at h1; subst h1; cases hsg1
  ·simp only [dXu _ _ _ _ e] at h1
   exact ⟨k',l',L',h1,h2,h3⟩
 have hro : ∀ x,isRo ⟨h.next,Tr.set ob1 b h.bl⟩ x ↔ isRo h x:=by
  intro x
  by_cases e : x = b
  ·subst e
   simp only [isRo,dXv,hb,aU]
   exact ⟨fun ⟨l0,h0⟩=>by (subst h0; cases hsg1),fun ⟨l0,h0⟩=>by (subst h0; cases hsg)⟩
  ·simp [isRo,dXu _ _ _ _ e]
 have hgl : ∀ k,k < G.B → ({ w with heap:=w.heap.setIfInBounds L.bl xo1 } : World).heap[k]? = G.W[k]? := by
  intro k hk
  have hlb : G.B ≤ L.bl:=hB.1
  have : (w.heap.setIfInBounds L.bl xo1)[k]? = w.heap[k]? := by
   rw [Array.getElem?_setIfInBounds]
   rw [if_neg (by omega)]
  exact this.trans (H.gl k hk)
 refine ⟨{ gl:=hgl,sz:=by simpa using H.sz,nx:=H.nx,ro:=fun x a hc hr=>H.ro x a (hcl hc) ((hro x).1 hr),dom := ?_,lt:=H.lt,cell := ?_,spare := ?_,free := ?_,inj := ?_,ex := ?_,grone := ?_,itr := ?_,itj := ?_ }, ?_⟩
 ·intro x o hx
  by_cases e : x = b
  ·subst e; exact ⟨L,hL⟩
  ·simp only [dXu _ _ _ _ e] at hx; exact H.dom x o hx
 ·intro x k1 l1 L1 i v hx hL1 hi hv
  by_cases e : x = b
  ·subst e; simp [dXv] at hx; subst hx; cases hsg1
  ·simp only [dXu _ _ _ _ e] at hx
   obtain ⟨v',h7,h8⟩:=H.cell x k1 l1 L1 i v hx hL1 hi hv
   exact ⟨v',hcell _ _ h7,h8⟩
 ·intro x l1 L1 es j hx hL1 hj
  by_cases e : x = b
  ·subst e; simp [dXv] at hx; subst hx; cases hsg1
  ·simp only [dXu _ _ _ _ e] at hx
   obtain ⟨v',h7⟩:=H.spare x l1 L1 es j hx hL1 hj
   exact ⟨v',hcell _ _ h7⟩
 ·intro x a hc hr
  obtain ⟨v,hv⟩:=H.lt_cell (hcl hc)
  rw [hfro a v hv]
  exact H.free x a (hcl hc) (fun h=>hr ((hro x).2 h))
 ·intro x x' a hc hc' hr
  exact H.inj x x' a (hcl hc) (hcl hc') (fun h=>hr ((hro x).2 h))
 ·intro x l1 L1 hx hL1
  by_cases e : x = b
  ·subst e; simp [dXv] at hx; rcases hx with hx | hx <;> (subst hx; cases hsg1)
  ·simp only [dXu _ _ _ _ e] at hx
   exact H.ex x l1 L1 hx hL1
 ·intro x es l1 i v hx hi
  by_cases e : x = b
  ·subst e; simp [dXv] at hx; subst hx; cases hsg1
  ·simp only [dXu _ _ _ _ e] at hx
   exact H.grone x es l1 i v hx hi
 ·intro x o L1 h0 hx hL1
  by_cases e : x = b
  ·subst e
   simp only [dXv,aU] at hx
   subst hx
   rw [hL] at hL1; cases hL1
   obtain ⟨h1,h2,_⟩:=H.itr x ob L hsg hb hL
   exact ⟨h1,h2,xo1,by simp [hlt],hs⟩
  ·simp only [dXu _ _ _ _ e] at hx
   obtain ⟨h1,h2,bs1,h3,h4⟩:=H.itr x o L1 h0 hx hL1
   have hne : L.bl ≠ L1.bl:=fun he=>e (H.itj b ob x o L L1 hsg h0 hb hx hL hL1 he).symm
   exact ⟨h1,h2,bs1,by rw [Array.getElem?_setIfInBounds_ne hne]; exact h3,h4⟩
 ·intro x o x' o' L1 L2 h0 h0' hx hx' h1 h2 he
  have hx0 : ∃ o,o.sg = true ∧ h.bl.get x = some o:=by
   by_cases e : x = b
   ·subst e; exact ⟨_,hsg,hb⟩
   ·simp only [dXu _ _ _ _ e] at hx; exact ⟨_,h0,hx⟩
  have hx1 : ∃ o,o.sg = true ∧ h.bl.get x' = some o:=by
   by_cases e : x' = b
   ·subst e; exact ⟨_,hsg,hb⟩
   ·simp only [dXu _ _ _ _ e] at hx'; exact ⟨_,h0',hx'⟩
  obtain ⟨_,hx0',hx0⟩:=hx0
  obtain ⟨_,hx1',hx1⟩:=hx1
  exact H.itj x _ x' _ L1 L2 hx0' hx1' hx0 hx1 h1 h2 he
 ·refine ⟨⟨rfl,rfl,rfl,by simp,fun k hk => ?_⟩,fun k hk => ?_⟩
  ·rw [Array.getElem?_setIfInBounds_ne (by have:=hB.1; omega)]
  ·show (w.heap.setIfInBounds L.bl _)[k]? = _
   rw [Array.getElem?_setIfInBounds_ne (fun (e : L.bl = k)=>hB.2 (by rw [e]; exact hk))]
end Go.Dd

namespace Go.Dd
open Go.RowKit (Below)
section
variable {P : Program} {w : World}
theorem rU {t : TypeId} {d : TypeDesc} (h : P.underlying t = some d) : (underlying t).run P w = .ok d w:=by simp [underlying,h]
theorem rI {t : TypeId} {i : TypeInfo} (h : P.info? t = some i) : (typeInfo t).run P w = .ok i w:=by simp [typeInfo,h]
theorem rZ {t : TypeId} {i : TypeInfo} {z : Value} (h : P.info? t = some i) (hz : i.zero = some z) : (zeroValue t).run P w = .ok z w:=by simp [zeroValue,rI h,hz]
theorem rS {t : TypeId} {i : TypeInfo} (h : P.info? t = some i) : (sizeOf t).run P w = .ok i.size w:=by simp [sizeOf,rI h]
theorem rA {t : TypeId} {d : TypeDesc} (h : P.underlying t = some d) : (isAgg t).run P w = .ok (jW d) w:=by
 simp only [isAgg,Sem.run_bind,rU h,Result.andThen_ok]
 cases d <;> rfl
end
def SemOk (P : Program) (G : Gd) (ρ : Ren) (w : World) (v : DV) (h1 : Hp) (s : Sem Value) : Prop :=
 ∃ ρ' w' v',s.run P w = .ok v' w' ∧ Ex G ρ ρ' ∧ VR ρ' v v' ∧ HR G ρ' h1 w' ∧ Kp G w w'
theorem SemOk.pure {P : Program} {G : Gd} {ρ : Ren} {w : World} {v : DV} {h : Hp} (H : HR G ρ h w) {v' : Value} (hv : VR ρ v v') {s : Sem Value} (hs : s.run P w = .ok v' w) : SemOk P G ρ w v h s :=
 ⟨ρ,w,v',hs,Ex.refl G ρ,hv,H,Kp.refl G w⟩
section
variable {P : Program} {G : Gd} {ρ : Ren} {w : World} {h h1 : Hp} {v : DV}
theorem bIw (H : HR G ρ h w) (cs : List DV) (arr : Array Value) (t : TypeId) (hcs : VRs ρ cs arr.toList) (hp : bY cs h = some (v,h1)) :
  SemOk P G ρ w v h1 (do pure (.pointer (some (← newRow t arr)))):=by
 simp only [bY,aU,bG] at hp
 obtain ⟨rfl,rfl⟩:=hp
 refine ⟨_,w.alloc (.cells arr t),.pointer (some ⟨w.heap.size,0,none⟩), ?_,H.exx _,.p _ 0 ⟨w.heap.size,0,0,none⟩ (bP _ _ _),H.newRow .ex cs arr.toList arr t 0 hcs (fun i v hi=>by simpa using hi) (.inl ⟨rfl,rfl⟩),dT H.sz _⟩
 simp [newRow]
theorem bWh (H : HR G ρ h w) {t : TypeId} {i : TypeInfo} {z : Value} (hi : P.info? t = some i) (hz : i.zero = some z) (hp : bY (zsD z) h = some (v,h1)) :
  SemOk P G ρ w v h1 (Instr.alloc t true (.tuple #[])):=by
 obtain ⟨ρ',w',v',h1',h2,h3,h4,h5⟩:=bIw (P:=P) H (zsD z) z.cells t (dZr ρ z) hp
 refine ⟨ρ',w',v', ?_,h2,h3,h4,h5⟩
 simp only [Instr.alloc,Sem.run_bind,rZ hi hz,Result.andThen_ok]
 simpa [newVar] using h1'
theorem dGj (H : HR G ρ h w) {t : TypeId} {x : DV} {x' : Value} (hx : VR ρ x x') (hp : dA x h = some (v,h1)) : SemOk P G ρ w v h1 (Instr.box t x'):=by
 unfold dA at hp
 split at hp
 ·rename_i cs hc
  obtain ⟨ρ',w',v',h1',h2,h3,h4,h5⟩:=bIw (P:=P) H cs x'.cells t (hx.cells hc) hp
  exact ⟨ρ',w',v',by simpa [Instr.box,newVar] using h1',h2,h3,h4,h5⟩
 ·cases hp
theorem mP : ∀ (n : Nat) (l cs : List DV),jJ n l = some cs → cs.length = n ∧ n ≤ l.length ∧ cs = l.take n ∧ ∀ v ∈ cs,v.one = true
 | 0,l,cs,h=>by simp [jJ] at h; subst h; simp
 | n + 1,[],cs,h=>by simp [jJ] at h
 | n + 1,x :: l,cs,h=>by
  simp only [jJ] at h
  split at h
  ·rename_i hx
   cases ht : jJ n l with
   | none=>rw [ht] at h; simp at h
   | some c =>
    rw [ht] at h; simp at h; subst h
    obtain ⟨h1,h2,h3,h4⟩:=mP n l c ht
    refine ⟨by simp [h1],by simp; exact h2,by simp [h3], ?_⟩
    intro v hv
    simp at hv
    rcases hv with rfl | hv
    ·exact hx
    ·exact h4 v hv
  ·cases h
theorem eO (H : HR G ρ h w) {b : Pos} {o n : Nat} {cs : List DV} {L : Loc} (hc : cellsAt b o n h = some cs) (hL : ρ b = some L) :
  cs.length = n ∧ (∀ v ∈ cs,v.one = true) ∧ (∃ k l,h.bl.get b = some (.row k l) ∧ cs = (l.drop o).take n ∧ n ≤ (l.drop o).length) ∧
  ∃ vs : List Value,VRs ρ cs vs ∧ vs.length = n ∧ ∀ (j : Nat) v,vs[j]? = some v → w.cell? (eC L (o + j)) = some v:=by
 unfold cellsAt rowOf at hc
 split at hc
 ·rename_i l hl
  split at hl
  ·rename_i k l0 hb
   simp at hl; subst hl
   obtain ⟨h1,h2,h3,h4⟩:=mP n _ cs hc
   refine ⟨h1,h4,⟨k,l0,hb,h3,h2⟩, ?_⟩
   have hcell : ∀ (j : Nat) x,cs[j]? = some x → ∃ v',w.cell? (eC L (o + j)) = some v' ∧ VR ρ x v':=by
    intro j x hj
    have ho:=h4 x (List.mem_of_getElem? hj)
    have hlt : j < n:=by
     rcases Nat.lt_or_ge j n with h | h
     ·exact h
     ·rw [List.getElem?_eq_none (by omega)] at hj; cases hj
    rw [h3,List.getElem?_take_of_lt hlt,List.getElem?_drop] at hj
    exact H.cell b k l0 L (o + j) x hb hL hj ho
   clear hc h3 h2
   subst h1
   clear h4
   induction cs generalizing o with
   | nil=>exact ⟨[],.nil,rfl,by simp⟩
   | cons x cs ih =>
    obtain ⟨v',h5,h6⟩:=hcell 0 x (by simp)
    obtain ⟨vs,h7,h8,h9⟩:=ih (o:=o + 1) (fun j y hj=>by have:=hcell (j + 1) y (by simpa using hj); rwa [show o + (j + 1) = o + 1 + j from by omega] at this)
    refine ⟨v' :: vs,.cons _ _ _ _ h6 h7,by simp [h8],fun j y hj => ?_⟩
    cases j with
    | zero=>simp at hj; subst hj; simpa using h5
    | succ j=>simp at hj; have:=h9 j y hj; rwa [show o + 1 + j = o + (j + 1) from by omega] at this
  ·cases hl
 ·cases hc
theorem dR {a : Addr} {L : Loc} {o : Nat} (vs : List Value) (ha : a = eC L o) (hc : ∀ (j : Nat) v,vs[j]? = some v → w.cell? (eC L (o + j)) = some v) :
  (loadCells a vs.length).run P w = .ok vs.toArray w:=by
 subst ha
 exact run_loadCells_list (P:=P) (w:=w) (eC L o) vs fun j v hj=>by rw [eN]; exact hc j v hj
theorem bQd (H : HR G ρ h w) {t : TypeId} {d : TypeDesc} {x : DV} {x' : Value} (ht : P.underlying t = some d) (hd : jW d = false) (hx : VR ρ x x') (hp : aA x h = some (v,h1)) :
  SemOk P G ρ w v h1 (Instr.loadAt t x'):=by
 unfold aA at hp
 split at hp
 ·rename_i b o
  split at hp
  ·rename_i u hc
   simp at hp
   obtain ⟨rfl,rfl⟩:=hp
   cases hx with
   | p _ _ L hL =>
    unfold cellD rowOf at hc
    split at hc
    ·rename_i l hl
     split at hl
     ·rename_i k l0 hb
      simp at hl; subst hl
      split at hc
      ·rename_i u0 hu
       split at hc
       ·rename_i ho
        simp at hc; subst hc
        obtain ⟨v',h5,h6⟩:=H.cell b k l0 L o u0 hb hL hu ho
        refine SemOk.pure H h6 ?_
        simp only [Instr.loadAt,Instr.sureAddr,Sem.run_bind,Sem.run_pure,Result.andThen_ok,loadVar,rA ht,hd]
        simp [h5]
       ·cases hc
      ·cases hc
     ·cases hl
    ·cases hc
  ·cases hp
 ·cases hp
theorem bKq (H : HR G ρ h w) {t : TypeId} {d : TypeDesc} {i : TypeInfo} {x : DV} {x' : Value} (ht : P.underlying t = some d) (hi : P.info? t = some i) (hd : jW d = true) (hx : VR ρ x x') (hp : aK i.size x h = some (v,h1)) :
  SemOk P G ρ w v h1 (Instr.loadAt t x'):=by
 unfold aK at hp
 split at hp
 ·rename_i b o
  split at hp
  ·rename_i cs hc
   simp at hp
   obtain ⟨rfl,rfl⟩:=hp
   cases hx with
   | p _ _ L hL =>
    obtain ⟨h1,h2,_,vs,h4,h5,h6⟩:=eO H hc hL
    refine SemOk.pure H (.a cs vs.toArray (by simpa using h4)) ?_
    have:=dR (P:=P) vs rfl h6
    rw [h5] at this
    simp only [Instr.loadAt,Instr.sureAddr,Sem.run_bind,Sem.run_pure,Result.andThen_ok,loadVar,rA ht,hd,if_true,rS hi,this]
  ·cases hp
 ·cases hp
theorem cAo (H : HR G ρ h w) {t : TypeId} {i : TypeInfo} {x y : DV} {x' y' : Value} (hi : P.info? t = some i) (hx : VR ρ x x') (hy : VR ρ y y') (hp : aG i.size x y h = some (v,h1)) :
  v = aS ∧ ∃ w',(Instr.storeAt t x' y').run P w = .ok () w' ∧ HR G ρ h1 w' ∧ Kp G w w':=by
 unfold aG at hp
 split at hp
 ·rename_i b o cs hc
  split at hp
  ·rename_i hl
   split at hp
   ·rename_i h' hs
    simp at hp
    obtain ⟨rfl,rfl⟩:=hp
    cases hx with
    | p _ _ L hL =>
     have hcs:=hy.cells hc
     obtain ⟨w',h3,h4,h5⟩:=fV (P:=P) H hs hL hcs
     refine ⟨rfl,w', ?_,h4,h5⟩
     have hlen:=hcs.length
     have hne : ¬ y'.cells.size ≠ i.size:=by simp at hlen; omega
     simp only [Instr.storeAt,Instr.sureAddr,Sem.run_bind,Sem.run_pure,Result.andThen_ok,storeVar,rS hi]
     rw [if_neg hne]
     simpa using h3
   ·cases hp
  ·cases hp
 ·cases hp
theorem aCx (off : Nat) : ∀ (l : List Value) (k : Nat) (cs : Array Value),off + k + l.length ≤ cs.size →
  ((l.zipIdx k).foldl (fun cs (c : Value × Nat)=>cs.setIfInBounds (off + c.2) c.1) cs).toList = cs.toList.take (off + k) ++ l ++ cs.toList.drop (off + k + l.length)
 | [],k,cs,h=>by simp
 | x :: l,k,cs,h=>by
  simp only [List.zipIdx_cons,List.foldl_cons]
  simp only [List.length_cons] at h
  rw [aCx off l (k + 1) _ (by simp; omega)]
  simp only [Array.toList_setIfInBounds,List.length_cons]
  rw [show off + (k + 1) = (off + k) + 1 from by omega]
  have hlt : off + k < cs.toList.length:=by simp; omega
  rw [List.take_succ_eq_append_getElem (by simpa using hlt)]
  simp only [List.take_set,List.getElem_set_self,List.append_assoc,List.singleton_append]
  congr 1
  ·rw [List.set_eq_of_length_le (by simp; omega)]
  ·rw [show off + k + 1 + l.length = off + k + (l.length + 1) from by omega]
   rw [List.drop_set_of_lt (by omega)]
theorem aKs {place : Nat → Option (Nat × Nat)} : ∀ (l : List (Nat × DV)) (l' : List (Nat × Value)) (cells : List DV) (cells' : Array Value) (q : List (Nat × Nat × DV)) (out : List DV),
  l.map (·.1) = l'.map (·.1) → VRs ρ (l.map (·.2)) (l'.map (·.2)) → VRs ρ cells cells'.toList →
  l.mapM (fun (x : Nat × DV)=>(place x.1).map fun s=>(s.1,s.2,x.2)) = some q → jV cells q = some out →
  ∃ out',Instr.fill place cells' l' = some out' ∧ VRs ρ out out'.toList
 | [],l',cells,cells',q,out,hi,hv,hc,hq,hf=>by
  cases l' with
  | cons=>simp at hi
  | nil=>simp at hq; subst hq; simp [jV] at hf; subst hf; exact ⟨cells',by simp [Instr.fill],hc⟩
 | (i, x) :: l, l', cells, cells', q, out, hi, hv, hc, hq, hf => by
  cases l' with
  | nil=>simp at hi
  | cons y l' =>
   obtain ⟨i',x'⟩:=y
   simp at hi
   obtain ⟨rfl,hi⟩:=hi
   simp only [List.map_cons] at hv
   cases hv with
   | cons _ _ _ _ hx hs =>
    simp only [List.mapM_cons] at hq
    cases hp : place i with
    | none=>simp [hp] at hq
    | some s =>
     obtain ⟨off,size⟩:=s
     simp only [hp,Option.map_some,Option.bind_eq_bind,Option.bind_some] at hq
     cases hm : l.mapM (fun (x : Nat × DV)=>(place x.1).map fun s=>(s.1,s.2,x.2)) with
     | none=>simp [hm] at hq
     | some q1 =>
      simp [hm] at hq
      subst hq
      simp only [jV] at hf
      cases hcs : dD x with
      | none=>simp [hcs] at hf
      | some cs =>
       simp only [hcs] at hf
       split at hf
       ·rename_i hle
        obtain ⟨hl1,hl2⟩:=hle
        have hxc:=hx.cells hcs
        have hxl:=hxc.length
        have hcl:=hc.length
        simp only [Array.length_toList] at hxl hcl
        have hnew : VRs ρ (cells.take off ++ cs ++ cells.drop (off + size)) (x'.cells.zipIdx.foldl (fun cs (c : Value × Nat)=>cs.setIfInBounds (off + c.2) c.1) cells').toList:=by
         rw [← Array.foldl_toList,Array.toList_zipIdx,aCx off x'.cells.toList 0 cells' (by simp; omega)]
         simp only [Nat.add_zero,Array.length_toList]
         rw [show off + x'.cells.size = off + size from by omega]
         exact ((hc.take off).append hxc).append (hc.drop (off + size))
        obtain ⟨out',h3,h4⟩:=aKs l l' _ _ q1 out hi hs hnew hm hf
        refine ⟨out', ?_,h4⟩
        simp only [Instr.fill,hp]
        have hne : (decide (x'.cells.size ≠ size) || decide (off + x'.cells.size > cells'.size)) = false:=by
         simp; omega
        rw [if_neg (by rw [hne]; simp)]
        exact h3
       ·cases hf
end
end Go.Dd

namespace Go.Dd
open Go.RowKit (Below)
section
variable {P : Program} {G : Gd} {ρ : Ren} {w : World} {h h1 : Hp} {v : DV}
theorem dZj {env : bA} {ev : Operand → Value} (he : ∀ x,VR ρ (opr env x) (ev x)) : ∀ l : List (Nat × Operand),VRs ρ (l.map fun q=>opr env q.2) (l.map fun q=>ev q.2)
 | []=>.nil
 | x :: l=>.cons _ _ _ _ (he x.2) (dZj he l)
theorem tA {α β γ : Type} (f : α → β) (g : β → Option γ) : ∀ l : List α,l.mapM (fun x=>g (f x)) = (l.map f).mapM g
 | []=>rfl
 | x :: l=>by simp only [List.map_cons,List.mapM_cons]; rw [tA f g l]
theorem cAt (H : HR G ρ h w) {t : TypeId} {fs : Array Field} {i : TypeInfo} {z : Value} {pl : List (Nat × Nat)} {ps : Array (Nat × Operand)} {env : bA} {ev : Operand → Value} {l : List (Nat × Nat × DV)}
  (he : ∀ x,VR ρ (opr env x) (ev x)) (ht : P.underlying t = some (.struct fs)) (hi : P.info? t = some i) (hz : i.zero = some z)
  (hpl : fs.toList.mapM (fun f=>(P.info? f.type).map fun fi=>(f.offset,fi.size)) = some pl)
  (hl : ps.toList.mapM (fun (q : Nat × Operand)=>(pl[q.1]?).map fun s=>(s.1,s.2,opr env q.2)) = some l) (hp : bK (zsD z) l h = some (v,h1)) :
  SemOk P G ρ w v h1 (Instr.build t (ps.map fun (q : Nat × Operand)=>(q.1,ev q.2))):=by
 unfold bK at hp
 split at hp
 ·rename_i cs hf
  simp at hp
  obtain ⟨rfl,rfl⟩:=hp
  have hl' : (ps.toList.map fun q=>(q.1,opr env q.2)).mapM (fun (x : Nat × DV)=>((fun j=>pl.toArray[j]?) x.1).map fun s=>(s.1,s.2,x.2)) = some l:=by
   rw [← tA (fun (q : Nat × Operand)=>(q.1,opr env q.2)) (fun (x : Nat × DV)=>((fun j=>pl.toArray[j]?) x.1).map fun s=>(s.1,s.2,x.2))]
   simpa using hl
  obtain ⟨out',h3,h4⟩:=aKs (ρ := ρ) (place:=fun j=>pl.toArray[j]?) (ps.toList.map fun q=>(q.1,opr env q.2)) (ps.toList.map fun q=>(q.1,ev q.2)) (zsD z) z.cells l cs
   (by simp) (by simpa [List.map_map,Function.comp_def] using dZj he ps.toList) (dZr ρ z) hl' hf
  refine SemOk.pure H (.a cs out' h4) (run_build w t _ out' ?_)
  unfold Program.built
  simp only [hi,ht,hz,hpl]
  simpa using h3
 ·cases hp
theorem bEr (H : HR G ρ h w) {t e : TypeId} {n : Nat} {i ei : TypeInfo} {z : Value} {ps : Array (Nat × Operand)} {ev : Operand → Value}
  (ht : P.underlying t = some (.array n e)) (hi : P.info? t = some i) (hz : i.zero = some z) (hps : ps.toList = []) (he : P.info? e = some ei) (hp : bK (zsD z) [] h = some (v,h1)) :
  SemOk P G ρ w v h1 (Instr.build t (ps.map fun (q : Nat × Operand)=>(q.1,ev q.2))):=by
 simp only [bK,jV,aU,bG] at hp
 obtain ⟨rfl,rfl⟩:=hp
 refine SemOk.pure H (.a _ z.cells (dZr ρ z)) (run_build w t _ z.cells ?_)
 unfold Program.built
 simp [hi,ht,hz,he,hps,Instr.fill]
theorem sD (z : Array Value) (n : Nat) (hz : 0 < z.size) : ((Array.range (n * z.size)).map (z[· % z.size]!)).toList = (List.replicate n z.toList).flatten:=by
 induction n with
 | zero=>simp
 | succ n ih =>
  have e : (n + 1) * z.size = n * z.size + z.size:=Nat.succ_mul _ _
  rw [e]
  simp only [Array.toList_map,Array.toList_range] at ih ⊢
  rw [List.range_add,List.map_append,ih]
  rw [List.replicate_succ',List.flatten_append]
  congr 1
  simp only [List.map_map,List.flatten_cons,List.flatten_nil,List.append_nil]
  apply List.ext_getElem
  ·simp
  ·intro j h1 h2
   simp at h1
   simp [Nat.mul_add_mod_of_lt h1,h1]
theorem dHu (z : Array Value) (n : Nat) (hz : n * z.size = 0 ∨ 0 < z.size) : ((Array.range (n * z.size)).map (z[· % z.size]!)).toList = (List.replicate n z.toList).flatten:=by
 rcases hz with hz | hz
 ·rw [hz]
  rcases Nat.mul_eq_zero.1 hz with e | e
  ·subst e; simp
  ·have : z = #[]:=by simpa using e
   subst this
   simp
 ·exact sD z n hz
theorem nT {t e : TypeId} {i : TypeInfo} {z : Value} {n : Nat} {ps : Array (Nat × Operand)} {env : bA} {ev : Operand → Value} {cs : List DV}
  (he : ∀ x,VR ρ (opr env x) (ev x)) (ht : P.underlying t = some (.slice e)) (hi : P.info? e = some i) (hz : i.zero = some z)
  (hn : n * i.size ≤ 2 ^ 24) (h0 : 0 < i.size) (hzs : z.cells.size = i.size)
  (hf : jV ((List.replicate n (zsD z)).flatten) (ps.toList.map fun (q : Nat × Operand)=>(q.1 * i.size,i.size,opr env q.2)) = some cs) :
  ∃ out',(Instr.buildSlice t n (ps.map fun (q : Nat × Operand)=>(q.1,ev q.2))).run P w = .ok (.slice (some ⟨w.heap.size,0,none⟩) n n) (w.alloc (.cells out' e)) ∧ VRs ρ cs out'.toList:=by
 have hl' : (ps.toList.map fun q=>(q.1,opr env q.2)).mapM (fun (x : Nat × DV)=>((fun j=>some (j * i.size,i.size)) x.1 : Option (Nat × Nat)).map fun s=>(s.1,s.2,x.2)) = some (ps.toList.map fun (q : Nat × Operand)=>(q.1 * i.size,i.size,opr env q.2)):=by
  rw [← tA (fun (q : Nat × Operand)=>(q.1,opr env q.2)) (fun (x : Nat × DV)=>((fun j=>some (j * i.size,i.size)) x.1 : Option (Nat × Nat)).map fun s=>(s.1,s.2,x.2))]
  generalize ps.toList = l
  induction l with
  | nil=>rfl
  | cons x l ih=>simp only [List.mapM_cons,ih]; simp
 have hzero : VRs ρ (List.replicate n (zsD z)).flatten ((Array.range (n * i.size)).map (z.cells[· % z.cells.size]!)).toList:=by
  rw [← hzs,sD z.cells n (by omega)]
  exact dYb (dZr ρ z) n
 obtain ⟨out',h3,h4⟩:=aKs (ρ := ρ) (place:=fun j=>some (j * i.size,i.size)) (ps.toList.map fun q=>(q.1,opr env q.2)) (ps.toList.map fun q=>(q.1,ev q.2)) _ _ _ cs
  (by simp) (by simpa [List.map_map,Function.comp_def] using dZj he ps.toList) hzero hl' hf
 refine ⟨out', ?_,h4⟩
 simp only [Instr.buildSlice,Sem.run_bind,rU ht,Result.andThen_ok,rS hi]
 rw [if_neg (by omega)]
 have h3' : Instr.fill (fun j=>some (j * i.size,i.size)) ((Array.range (n * i.size)).map (z.cells[· % z.cells.size]!)) (ps.map fun (q : Nat × Operand)=>(q.1,ev q.2)).toList = some out':=by simpa using h3
 by_cases hzz : n * i.size = 0
 ·rw [if_pos hzz]
  simp only [Sem.run_bind,Sem.run_pure,Result.andThen_ok]
  have : n = 0:=by rcases Nat.mul_eq_zero.1 hzz with e | e <;> omega
  subst this
  simp only [Nat.zero_mul] at h3' ⊢
  have h3'' : Instr.fill (fun j=>some (j * i.size,i.size)) ((Array.range 0).map ((#[] : Array Value)[· % (#[] : Array Value).size]!)) (ps.map fun (q : Nat × Operand)=>(q.1,ev q.2)).toList = some out':=by
   rw [← h3']
   have er : ∀ f g : Nat → Value,(Array.range 0).map f = (Array.range 0).map g:=fun f g=>by apply Array.ext <;> simp
   rw [er _ (fun x=>z.cells[x % z.cells.size]!)]
  simp only [h3'']
  simp [newRow]
 ·rw [if_neg hzz]
  simp only [Sem.run_bind,rZ hi hz,Result.andThen_ok,Sem.run_pure,h3']
  simp [newRow]
theorem aCi (H : HR G ρ h w) {t e : TypeId} {i : TypeInfo} {z : Value} {n : Nat} {ps : Array (Nat × Operand)} {env : bA} {ev : Operand → Value}
  (he : ∀ x,VR ρ (opr env x) (ev x)) (ht : P.underlying t = some (.slice e)) (hi : P.info? e = some i) (hz : i.zero = some z)
  (hn : n * i.size ≤ 2 ^ 24) (h0 : 0 < i.size) (hzs : z.cells.size = i.size)
  (hp : aO ((List.replicate n (zsD z)).flatten) n (ps.toList.map fun (q : Nat × Operand)=>(q.1 * i.size,i.size,opr env q.2)) h = some (v,h1)) :
  SemOk P G ρ w v h1 (Instr.buildSlice t n (ps.map fun (q : Nat × Operand)=>(q.1,ev q.2))):=by
 unfold aO at hp
 split at hp
 ·rename_i cs hf
  simp only [aU,bG] at hp
  obtain ⟨rfl,rfl⟩:=hp
  obtain ⟨out',h3,h4⟩:=nT (P:=P) (w:=w) (ρ := ρ) he ht hi hz hn h0 hzs hf
  have hrow:=H.newRow .ex cs out'.toList out' e 0 h4 (fun j u hj=>by simpa using hj) (.inl ⟨rfl,rfl⟩)
  exact ⟨_,w.alloc (.cells out' e),.slice (some ⟨w.heap.size,0,none⟩) n n,h3,H.exx _,.l _ 0 n n ⟨w.heap.size,0,0,none⟩ (bP _ _ _),hrow,dT H.sz _⟩
 ·cases hp
theorem cXb (H : HR G ρ h w) {a : Act} {o : Oper} {x : Operand} {env : bA} (ho : o.op = .nilCheck x) (he : VR ρ (opr env x) (a.eval x)) (hp : aY (opr env x) h = some (v,h1)) :
  (execOp a.eval o).run P w = .ok (.value (a.eval x)) w ∧ VR ρ v (a.eval x) ∧ h1 = h:=by
 generalize hg : opr env x = d at *
 generalize hv : a.eval x = d' at *
 unfold aY at hp
 unfold execOp
 simp only [ho,hv]
 split at hp <;> (try (cases hp; done)) <;> (simp only [aU,bG] at hp; obtain ⟨rfl,rfl⟩:=hp; cases he) <;> refine ⟨by simp, ?_,rfl⟩ <;> constructor <;> assumption
theorem iX {op : BinOp} {t : TypeId} {x y : Operand} {a b : Value} (h1 : a ≠ .nilIface) (h2 : ∀ cs,a ≠ .agg cs) : (eqGuard op t x y a b).run P w = .ok () w:=by
 unfold eqGuard
 cases a <;> first | (exact absurd rfl h1) | (exact absurd rfl (h2 _)) | (cases op <;> simp)
theorem dAd (H : HR G ρ h w) {op : BinOp} {t : TypeId} {x y : DV} {x' y' : Value} {ox oy : Operand} (hop : op ≠ .shl ∧ op ≠ .shr) (hx : VR ρ x x') (hy : VR ρ y y') (hp : aD op x y h = some (v,h1)) :
  SemOk P G ρ w v h1 (do eqGuard op t ox oy x' y'; binOp op t x' y'):=by
 unfold aD at hp
 split at hp
 ·rename_i k a k' b
  cases hx
  cases hy
  split at hp
  ·rename_i hk
   subst hk
   split at hp
   ·rename_i r hr
    simp at hp
    obtain ⟨rfl,rfl⟩:=hp
    have hg:=iX (P:=P) (w:=w) (op:=op) (t:=t) (x:=ox) (y:=oy) (a:=.int k a) (b:=.int k b) (by simp) (by simp)
    cases op <;> simp [fF] at hr <;> first
     | (exact absurd rfl hop.1)
     | (exact absurd rfl hop.2)
     | (subst hr; refine SemOk.pure H (by constructor) ?_; simp only [Sem.run_bind,hg,Result.andThen_ok]; simp [binOp,Op.intArith,Op.intCmp,Op.intBits]; done)
     | (obtain ⟨hb,rfl⟩:=hr; refine SemOk.pure H (by constructor) ?_; simp only [Sem.run_bind,hg,Result.andThen_ok]; simp [binOp,Op.intDiv,hb]; done)
   ·cases hp
  ·cases hp
 ·cases hp
theorem aOa (H : HR G ρ h w) {op : BinOp} {t : TypeId} {x y : DV} {x' y' : Value} {ox oy : Operand} (hop : op = .shl ∨ op = .shr) (hx : VR ρ x x') (hy : VR ρ y y') (hp : dZ op x y h = some (v,h1)) :
  SemOk P G ρ w v h1 (do eqGuard op t ox oy x' y'; binOp op t x' y'):=by
 unfold dZ at hp
 split at hp
 ·rename_i k a k' b
  cases hx
  cases hy
  split at hp
  ·cases hp
  ·rename_i hb
   have hg:=iX (P:=P) (w:=w) (op:=op) (t:=t) (x:=ox) (y:=oy) (a:=.int k a) (b:=.int k' b) (by simp) (by simp)
   rcases hop with rfl | rfl
   ·simp only [aU,bG] at hp
    obtain ⟨rfl,rfl⟩:=hp
    refine SemOk.pure H (by constructor) ?_
    simp only [Sem.run_bind,hg,Result.andThen_ok]
    simp [binOp,Op.shift,hb]
   ·simp only [aU,bG] at hp
    obtain ⟨rfl,rfl⟩:=hp
    refine SemOk.pure H (by constructor) ?_
    simp only [Sem.run_bind,hg,Result.andThen_ok]
    simp [binOp,Op.shift,hb]
 ·cases hp
theorem aHf : ∀ a b : List UInt8,uL (a.map (·.toNat)) (b.map (·.toNat)) = (a == b)
 | [],[]=>rfl
 | [],_ :: _=>rfl
 | _ :: _,[]=>rfl
 | x :: a,y :: b=>by
  simp only [List.map_cons,uL,aHf a b,List.cons_beq_cons]
  congr 1
  rw [Bool.eq_iff_iff]
  simp [UInt8.toNat_inj]
theorem aDo : ∀ a b : List UInt8,pI (a.map (·.toNat)) (b.map (·.toNat)) = Op.bytesLess a b
 | _,[]=>by simp [pI,Op.bytesLess]
 | [],_ :: _=>by simp [pI,Op.bytesLess]
 | x :: a,y :: b=>by
  simp only [List.map_cons,pI,aDo a b,Op.bytesLess]
  congr 1
  ·rw [Bool.eq_iff_iff]
   simp [UInt8.lt_iff_toNat_lt]
  ·congr 1
   rw [Bool.eq_iff_iff]
   simp [UInt8.toNat_inj]
theorem dAi (H : HR G ρ h w) {op : BinOp} {t : TypeId} {x y : DV} {x' y' : Value} {ox oy : Operand} (hx : VR ρ x x') (hy : VR ρ y y') (hp : bI op x y h = some (v,h1)) :
  SemOk P G ρ w v h1 (do eqGuard op t ox oy x' y'; binOp op t x' y'):=by
 unfold bI at hp
 split at hp
 ·rename_i a b
  cases hx with
  | s _ a' ha =>
  cases hy with
  | s _ b' hb =>
  split at hp
  ·rename_i r hr
   simp at hp
   obtain ⟨rfl,rfl⟩:=hp
   have hg:=iX (P:=P) (w:=w) (op:=op) (t:=t) (x:=ox) (y:=oy) (a:=.string a') (b:=.string b') (by simp) (by simp)
   have ea : a'.toList = a'.data.toList:=ByteArray.toList_eq a'
   have eb : b'.toList = b'.data.toList:=ByteArray.toList_eq b'
   have e1 : uL a b = (a'.toList == b'.toList):=by rw [← ha,← hb,aHf,ea,eb]
   have e2 : pI a b = Op.bytesLess a'.toList b'.toList:=by rw [← ha,← hb,aDo,ea,eb]
   have la : a.length = a'.size:=by rw [← ha,List.length_map,Array.length_toList]; rfl
   have lb : b.length = b'.size:=by rw [← hb,List.length_map,Array.length_toList]; rfl
   cases op <;> simp only [aVd] at hr <;> (try (cases hr; done))
   case add =>
    split at hr
    ·cases hr
    ·rename_i hle
     simp at hr; subst hr
     refine SemOk.pure H (.s _ (a' ++ b') ?_) ?_
     ·simp [ha,hb]
     ·simp only [Sem.run_bind,hg,Result.andThen_ok]
      simp only [binOp,Op.stringOp]
      rw [la,lb] at hle
      rw [if_neg hle]
      simp
   all_goals
    simp only [aU] at hr
    subst hr
    refine SemOk.pure H (by constructor) ?_
    simp only [Sem.run_bind,hg,Result.andThen_ok]
    simp [binOp,Op.stringOp,e1,e2]
  ·cases hp
 ·cases hp
theorem aSv {d : TypeDesc} {t : TypeId} {x y : DV} {x' y' : Value} {r : Bool} (ht : P.underlying t = some d) (hx : VR ρ x x') (hy : VR ρ y y') (hr : aMf d x y = some r) :
  (Op.equal t x' y').run P w = .ok r w:=by
 unfold Op.equal
 rw [show Op.maxDepth = 9999 + 1 from rfl]
 unfold Op.equalIn
 simp only [Sem.run_bind,rU ht,Result.andThen_ok]
 unfold aMf at hr
 split at hr <;> (try (cases hr; done)) <;> (simp at hr; subst hr; cases hx; cases hy; simp)
theorem cRu (H : HR G ρ h w) {op : BinOp} {pos : Bool} {d : TypeDesc} {t : TypeId} {x y : DV} {x' y' : Value} {ox oy : Operand} (ht : P.underlying t = some d) (hop : (op = .eql ∧ pos = true) ∨ (op = .neq ∧ pos = false))
  (hx : VR ρ x x') (hy : VR ρ y y') (hp : pEq d pos x y h = some (v,h1)) :
  SemOk P G ρ w v h1 (do eqGuard op t ox oy x' y'; binOp op t x' y'):=by
 unfold pEq at hp
 split at hp
 ·rename_i r hr
  simp only [aU,bG] at hp
  obtain ⟨rfl,rfl⟩:=hp
  have heq:=aSv (P:=P) (w:=w) ht hx hy hr
  have hne : x' ≠ .nilIface ∧ (∀ cs,x' ≠ .agg cs):=by
   unfold aMf at hr
   split at hr <;> (try (cases hr; done)) <;> (cases hx; simp)
  have hg:=iX (P:=P) (w:=w) (op:=op) (t:=t) (x:=ox) (y:=oy) (a:=x') (b:=y') hne.1 hne.2
  refine SemOk.pure H (by constructor) ?_
  simp only [Sem.run_bind,hg,Result.andThen_ok]
  unfold aMf at hr
  rcases hop with ⟨rfl,rfl⟩ | ⟨rfl,rfl⟩ <;> split at hr <;> (try (cases hr; done)) <;> (cases hx; cases hy; simp [binOp,heq])
 ·cases hp
theorem cWy (H : HR G ρ h w) {op : BinOp} {d : TypeDesc} {t : TypeId} {x y : DV} {x' y' : Value} {ox oy : Operand} (ht : P.underlying t = some d)
  (hx : VR ρ x x') (hy : VR ρ y y') (hp : bKt op d x y h = some (v,h1)) :
  SemOk P G ρ w v h1 (do eqGuard op t ox oy x' y'; binOp op t x' y'):=by
 unfold bKt at hp
 split at hp
 ·split at hp
  ·exact aOa H (.inl rfl) hx hy hp
  ·exact aOa H (.inr rfl) hx hy hp
  ·rename_i h1 h2; exact dAd H ⟨h1,h2⟩ hx hy hp
 ·exact dAi H hx hy hp
 ·split at hp
  ·exact cRu H ht (.inl ⟨rfl,rfl⟩) hx hy hp
  ·exact cRu H ht (.inr ⟨rfl,rfl⟩) hx hy hp
  ·cases hp
theorem pQ {t : TypeId} {k : IntKind} {xs : Array Value} {j : Nat} {u : Value} (ht : P.underlying t = some (.int k)) (hx : xs[j]? = some u) : (part t xs j).run P w = .ok u w:=by
 unfold part isAgg
 simp [rU ht,hx]
theorem jQ {d : Nat} {t : TypeId} {k l : IntKind} {a b : Int} (ht : P.underlying t = some (.int k)) : (Op.equalIn (d + 1) t (.int l a) (.int l b)).run P w = .ok (a == b) w:=by
 unfold Op.equalIn
 simp [rU ht]
theorem dAz (H : HR G ρ h w) {op : BinOp} {fs : Array Field} {t : TypeId} {x y : DV} {x' y' : Value} {ox oy : Operand} (ht : P.underlying t = some (.struct fs))
  (hx : VR ρ x x') (hy : VR ρ y y') (hp : cBb (aMy P t fs) op x y h = some (v,h1)) :
  SemOk P G ρ w v h1 (do eqGuard op t ox oy x' y'; binOp op t x' y'):=by
 unfold cBb at hp
 split at hp <;> (try (cases hp; done))
 rename_i k a l b k' a' l' b'
 split at hp <;> (try (cases hp; done))
 rename_i hc
 obtain ⟨hf,rfl,rfl⟩:=hc
 obtain ⟨f,g,hfs⟩ : ∃ f g,fs.toList = [f,g]:=by
  unfold aMy at hf
  split at hf
  ·rename_i f g e; exact ⟨f,g,e⟩
  ·cases hf
 unfold aMy at hf
 rw [hfs] at hf
 simp only [Bool.and_eq_true,Bool.not_eq_true'] at hf
 obtain ⟨n1,n2,o1,o2,d1,d2,st,gt⟩:=hf
 have o1:=Nat.eq_of_beq_eq_true o1
 have o2:=Nat.eq_of_beq_eq_true o2
 obtain ⟨kf,d1⟩ : ∃ kf,P.underlying f.type = some (.int kf):=by
  unfold lG at d1; split at d1
  ·rename_i k e; exact ⟨k,e⟩
  ·cases d1
 obtain ⟨kg,d2⟩ : ∃ kg,P.underlying g.type = some (.int kg):=by
  unfold lG at d2; split at d2
  ·rename_i k e; exact ⟨k,e⟩
  ·cases d2
 have efs : fs = #[f,g]:=by apply Array.toList_inj.1; exact hfs
 cases hx with | a _ xs hxs=>cases hy with | a _ ys hys =>
 have x0 : xs[0]? = some (.int k a) ∧ xs[1]? = some (.int l b):=by
  obtain ⟨u0,e0,r0⟩:=hxs.get 0 _ rfl
  obtain ⟨u1,e1,r1⟩:=hxs.get 1 _ rfl
  cases r0; cases r1
  exact ⟨by simpa using e0,by simpa using e1⟩
 have y0 : ys[0]? = some (.int k a') ∧ ys[1]? = some (.int l b'):=by
  obtain ⟨u0,e0,r0⟩:=hys.get 0 _ rfl
  obtain ⟨u1,e1,r1⟩:=hys.get 1 _ rfl
  cases r0; cases r1
  exact ⟨by simpa using e0,by simpa using e1⟩
 have hg : (eqGuard op t ox oy (.agg xs) (.agg ys)).run P w = .ok () w:=by
  unfold eqGuard
  cases op <;> simp [gt]
 have heq : (Op.equal t (.agg xs) (.agg ys)).run P w = .ok (a == a' && b == b') w:=by
  unfold Op.equal
  rw [show Op.maxDepth = 9998 + 1 + 1 from rfl]
  unfold Op.equalIn
  have p0:=pQ (w:=w) (u:=.int k a) d1 (show xs[f.offset]? = _ by rw [o1]; exact x0.1)
  have p1:=pQ (w:=w) (u:=.int l b) d2 (show xs[g.offset]? = _ by rw [o2]; exact x0.2)
  have q0:=pQ (w:=w) (u:=.int k a') d1 (show ys[f.offset]? = _ by rw [o1]; exact y0.1)
  have q1:=pQ (w:=w) (u:=.int l b') d2 (show ys[g.offset]? = _ by rw [o2]; exact y0.2)
  have m1 : f.name ≠ "_" := by simpa using n1
  have m2 : g.name ≠ "_" := by simpa using n2
  subst efs
  simp [rU ht,st,m1,m2,p0,q0,p1,q1,jQ d1,jQ d2]
  by_cases c1 : a = a'
  ·by_cases c2 : b = b' <;> simp [c1,c2]
  ·simp [c1]
 split at hp <;> (try (cases hp; done)) <;> (simp only [aU,bG] at hp; obtain ⟨rfl,rfl⟩:=hp; refine SemOk.pure H (by constructor) ?_; simp only [Sem.run_bind,hg,Result.andThen_ok]; simp [binOp,heq])
theorem dGd (H : HR G ρ h w) {op : BinOp} {fs : Array Field} {t : TypeId} {x y : DV} {x' y' : Value} {ox oy : Operand} (ht : P.underlying t = some (.struct fs))
  (hx : VR ρ x x') (hy : VR ρ y y') (hf : aCq P t fs = true) (hp : bLg op x y h = some (v,h1)) :
  SemOk P G ρ w v h1 (do eqGuard op t ox oy x' y'; binOp op t x' y'):=by
 unfold bLg at hp
 split at hp <;> (try (cases hp; done))
 rename_i k a l b m c k' a' l' b' m' c'
 split at hp <;> (try (cases hp; done))
 rename_i hc
 obtain ⟨rfl,rfl,rfl⟩:=hc
 obtain ⟨f,g,e,hfs⟩ : ∃ f g e,fs.toList = [f,g,e]:=by
  unfold aCq at hf
  split at hf
  ·rename_i f g e q; exact ⟨f,g,e,q⟩
  ·cases hf
 unfold aCq at hf
 rw [hfs] at hf
 simp only [Bool.and_eq_true,Bool.not_eq_true'] at hf
 obtain ⟨n1,n2,n3,o1,o2,o3,d1,d2,d3,st,gt⟩:=hf
 have o1:=Nat.eq_of_beq_eq_true o1
 have o2:=Nat.eq_of_beq_eq_true o2
 have o3:=Nat.eq_of_beq_eq_true o3
 obtain ⟨kf,d1⟩ : ∃ kf,P.underlying f.type = some (.int kf):=by
  unfold lG at d1; split at d1
  ·rename_i k e; exact ⟨k,e⟩
  ·cases d1
 obtain ⟨kg,d2⟩ : ∃ kg,P.underlying g.type = some (.int kg):=by
  unfold lG at d2; split at d2
  ·rename_i k e; exact ⟨k,e⟩
  ·cases d2
 obtain ⟨ke,d3⟩ : ∃ ke,P.underlying e.type = some (.int ke):=by
  unfold lG at d3; split at d3
  ·rename_i k e; exact ⟨k,e⟩
  ·cases d3
 have efs : fs = #[f,g,e]:=by apply Array.toList_inj.1; exact hfs
 cases hx with | a _ xs hxs=>cases hy with | a _ ys hys =>
 have x0 : xs[0]? = some (.int k a) ∧ xs[1]? = some (.int l b) ∧ xs[2]? = some (.int m c):=by
  obtain ⟨u0,e0,r0⟩:=hxs.get 0 _ rfl
  obtain ⟨u1,e1,r1⟩:=hxs.get 1 _ rfl
  obtain ⟨u2,e2,r2⟩:=hxs.get 2 _ rfl
  cases r0; cases r1; cases r2
  exact ⟨by simpa using e0,by simpa using e1,by simpa using e2⟩
 have y0 : ys[0]? = some (.int k a') ∧ ys[1]? = some (.int l b') ∧ ys[2]? = some (.int m c'):=by
  obtain ⟨u0,e0,r0⟩:=hys.get 0 _ rfl
  obtain ⟨u1,e1,r1⟩:=hys.get 1 _ rfl
  obtain ⟨u2,e2,r2⟩:=hys.get 2 _ rfl
  cases r0; cases r1; cases r2
  exact ⟨by simpa using e0,by simpa using e1,by simpa using e2⟩
 have hg : (eqGuard op t ox oy (.agg xs) (.agg ys)).run P w = .ok () w:=by
  unfold eqGuard
  cases op <;> simp [gt]
 have heq : (Op.equal t (.agg xs) (.agg ys)).run P w = .ok (a == a' && (b == b' && c == c')) w:=by
  unfold Op.equal
  rw [show Op.maxDepth = 9998 + 1 + 1 from rfl]
  unfold Op.equalIn
  have p0:=pQ (w:=w) (u:=.int k a) d1 (show xs[f.offset]? = _ by rw [o1]; exact x0.1)
  have p1:=pQ (w:=w) (u:=.int l b) d2 (show xs[g.offset]? = _ by rw [o2]; exact x0.2.1)
  have p2:=pQ (w:=w) (u:=.int m c) d3 (show xs[e.offset]? = _ by rw [o3]; exact x0.2.2)
  have q0:=pQ (w:=w) (u:=.int k a') d1 (show ys[f.offset]? = _ by rw [o1]; exact y0.1)
  have q1:=pQ (w:=w) (u:=.int l b') d2 (show ys[g.offset]? = _ by rw [o2]; exact y0.2.1)
  have q2:=pQ (w:=w) (u:=.int m c') d3 (show ys[e.offset]? = _ by rw [o3]; exact y0.2.2)
  have m1 : f.name ≠ "_" := by simpa using n1
  have m2 : g.name ≠ "_" := by simpa using n2
  have m3 : e.name ≠ "_" := by simpa using n3
  subst efs
  simp [rU ht,st,m1,m2,m3,p0,q0,p1,q1,p2,q2,jQ d1,jQ d2,jQ d3]
  by_cases c1 : a = a'
  ·by_cases c2 : b = b'
   ·by_cases c3 : c = c' <;> simp [c1,c2,c3]
   ·simp [c1,c2]
  ·simp [c1]
 split at hp <;> (try (cases hp; done)) <;> (simp only [aU,bG] at hp; obtain ⟨rfl,rfl⟩:=hp; refine SemOk.pure H (by constructor) ?_; simp only [Sem.run_bind,hg,Result.andThen_ok]; simp [binOp,heq])
theorem dCd (H : HR G ρ h w) {op : BinOp} {fs : Array Field} {t : TypeId} {x y : DV} {x' y' : Value} {ox oy : Operand} (ht : P.underlying t = some (.struct fs))
  (hx : VR ρ x x') (hy : VR ρ y y') (hp : cKb (aMy P t fs) (aCq P t fs) op x y h = some (v,h1)) :
  SemOk P G ρ w v h1 (do eqGuard op t ox oy x' y'; binOp op t x' y'):=by
 unfold cKb at hp
 cases h3 : aCq P t fs with
 | true=>rw [h3] at hp; exact dGd H ht hx hy h3 hp
 | false=>rw [h3] at hp; exact dAz H ht hx hy hp
theorem dPa (H : HR G ρ h w) {op : UnOp} {x : DV} {x' : Value} (hx : VR ρ x x') (hp : gQ op x h = some (v,h1)) : SemOk P G ρ w v h1 (Op.unary op x'):=by
 unfold gQ at hp
 split at hp <;> (try (cases hp; done)) <;> (simp only [aU,bG] at hp; obtain ⟨rfl,rfl⟩:=hp; cases hx; refine SemOk.pure H (by constructor) ?_; simp [Op.unary,Op.intArith])
end
end Go.Dd

namespace Go.Dd
open Go.RowKit (Below)
section
variable {P : Program} {G : Gd} {ρ : Ren} {w : World} {h h1 : Hp} {v : DV}
theorem bIu (H : HR G ρ h w) {src dst : TypeId} {d : TypeDesc} {k : IntKind} {x : DV} {x' : Value} (hs : P.underlying src = some d) (hd : P.underlying dst = some (.int k)) (hx : VR ρ x x') (hp : dV k x h = some (v,h1)) :
  SemOk P G ρ w v h1 (convert src dst x'):=by
 unfold dV at hp
 split at hp <;> (try (cases hp; done))
 simp only [aU,bG] at hp
 obtain ⟨rfl,rfl⟩:=hp
 cases hx
 refine SemOk.pure H (by constructor) ?_
 simp only [convert,Sem.run_bind,rU hs,rU hd,Result.andThen_ok]
 simp [Conv.intToInt]
theorem bKg (H : HR G ρ h w) {src dst : TypeId} {x : DV} {x' : Value} (hs : P.underlying src = some .string) (hd : P.underlying dst = some .string) (hx : VR ρ x x') (hp : aDz x h = some (v,h1)) :
  SemOk P G ρ w v h1 (convert src dst x'):=by
 unfold aDz at hp
 split at hp <;> (try (cases hp; done))
 simp only [aU,bG] at hp
 obtain ⟨rfl,rfl⟩:=hp
 cases hx with
 | s _ bs hb =>
 refine SemOk.pure H (.s _ bs hb) ?_
 simp only [convert,Sem.run_bind,rU hs,rU hd,Result.andThen_ok]
 simp
theorem aDm {ρ : Ren} : ∀ {cs : List DV} {l : List Nat} {vs : List Value},qX cs = some l → VRs ρ cs vs → vs = (l.map fun (n : Nat)=>(n : Int)).map (Value.int .u8) ∧ ∀ n ∈ l,n < 256
 | [],l,vs,h,hv=>by
  simp only [qX,aU] at h
  subst h
  cases hv
  exact ⟨rfl,by simp⟩
 | x :: cs,l,vs,h,hv=>by
  unfold qX at h
  split at h <;> (try (cases h; done))
  ·rename_i heq
   cases heq
  ·rename_i n cs' heq
   cases heq
   split at h <;> (try (cases h; done))
   rename_i hn
   obtain ⟨l',e,rfl⟩:=Option.map_eq_some_iff.1 h
   cases hv with
   | cons _ x' _ vs' hx hs =>
    cases hx
    obtain ⟨rfl,k⟩:=aDm e hs
    refine ⟨rfl,fun m hm => ?_⟩
    rcases List.mem_cons.1 hm with rfl | hm
    ·exact hn
    ·exact k m hm
theorem zC : ∀ (l : List Nat) (b : ByteArray),(∀ n ∈ l,n < 256) → (((l.map fun (n : Nat)=>(n : Int)).foldl (fun r n=>r.push (UInt8.ofNat n.toNat)) b).data.toList.map (·.toNat)) = b.data.toList.map (·.toNat) ++ l
 | [],b,_=>by simp
 | n :: l,b,h=>by
  simp only [List.map_cons,List.foldl_cons]
  rw [zC l _ fun m hm=>h m (by simp [hm])]
  have hn : n < 256:=h n (by simp)
  have e : (b.push (UInt8.ofNat ((n : Int)).toNat)).data.toList.map (·.toNat) = b.data.toList.map (·.toNat) ++ [n]:=by
   show ((b.data.push (UInt8.ofNat ((n : Int)).toNat)).toList.map (·.toNat)) = _
   simp
   omega
  rw [e]
  simp
theorem bRe (H : HR G ρ h w) {src dst e : TypeId} {x : DV} {x' : Value} (hs : P.underlying src = some (.slice e)) (he : P.underlying e = some (.int .u8)) (hd : P.underlying dst = some .string) (hx : VR ρ x x') (hp : eZ x h = some (v,h1)) :
  SemOk P G ρ w v h1 (convert src dst x'):=by
 unfold eZ at hp
 split at hp <;> (try (cases hp; done))
 ·simp only [aU,bG] at hp
  obtain ⟨rfl,rfl⟩:=hp
  cases hx
  refine SemOk.pure H (.s [] ByteArray.empty rfl) ?_
  rw [run_convert_bytes_string w src dst e _ _ _ hs he hd]
  rfl
 ·rename_i b o len cap
  split at hp <;> (try (cases hp; done))
  rename_i cs hc
  split at hp <;> (try (cases hp; done))
  rename_i l hl
  simp only [aU,bG] at hp
  obtain ⟨rfl,rfl⟩:=hp
  cases hx with
  | l _ _ _ _ L hL =>
   obtain ⟨_,_,_,vs,h4,h5,h6⟩:=eO H hc hL
   obtain ⟨rfl,hb⟩:=aDm hl h4
   have:=dR (P:=P) _ rfl h6
   rw [h5] at this
   refine SemOk.pure H (.s l ((l.map fun (n : Nat)=>(n : Int)).foldl (fun r n=>r.push (UInt8.ofNat n.toNat)) ByteArray.empty) ?_) ?_
   rotate_left
   ·rw [run_convert_bytes_string w src dst e _ _ _ hs he hd]
    exact run_bytesToString w _ len _ _ this
   ·have:=zC l ByteArray.empty hb
    simpa using this
theorem hC {x : DV} {x' : Value} {y n y' : Nat} {code : BoundsCode} (hx : VR ρ x x') (hn : fL x y = some n) (hy : y ≤ y') : (Instr.sliceBound x' y' code).run P w = .ok n w ∧ n ≤ y:=by
 unfold fL at hn
 split at hn <;> (try (cases hn; done))
 split at hn <;> (try (cases hn; done))
 rename_i i hi
 simp only [aU] at hn
 subst hn
 cases hx
 refine ⟨?_,by omega⟩
 simp only [Instr.sliceBound,asIntOf,Sem.run_bind,Sem.run_pure,Result.andThen_ok]
 rw [if_pos (by omega)]
 simp
inductive OR (ρ : Ren) : Option DV → Option Value → Prop
 | none : OR ρ none none
 | some (x : DV) (x' : Value) (h : VR ρ x x') : OR ρ (some x) (some x')
theorem mF {isS : Bool} {len cap cap' e s : Nat} {lo hi : Option DV} {lo' hi' : Option Value} (hl : OR ρ lo lo') (hh : OR ρ hi hi') (hc : cap ≤ cap') (h1 : hiD hi len cap = some e) (h2 : loD lo e = some s) :
  (Instr.sliceBounds isS len cap' lo' hi' none).run P w = .ok (s,e,cap') w ∧ s ≤ e ∧ e ≤ cap:=by
 unfold Instr.sliceBounds
 cases hh with
 | none =>
  simp only [hiD] at h1
  split at h1 <;> (try (cases h1; done))
  rename_i hle
  simp only [aU] at h1
  subst h1
  cases hl with
  | none=>simp only [loD,aU] at h2; subst h2; simp [hle]
  | some x x' hx =>
   obtain ⟨h3,h4⟩:=hC (P:=P) (w:=w) (code:=if (none : Option Value).isSome then .slice3C else .sliceB) hx h2 (Nat.le_refl _)
   refine ⟨?_,h4,hle⟩
   simp only [Sem.run_bind,Sem.run_pure,Result.andThen_ok,h3]
 | some y y' hy =>
  simp only [hiD] at h1
  obtain ⟨h5,h6⟩:=hC (P:=P) (w:=w) (code:=if isS then .sliceAcap else .sliceAlen) hy h1 hc
  cases hl with
  | none =>
   simp only [loD,aU] at h2; subst h2
   refine ⟨?_,Nat.zero_le _,h6⟩
   simp only [Sem.run_bind,Sem.run_pure,Result.andThen_ok,h5]
  | some x x' hx =>
   obtain ⟨h3,h4⟩:=hC (P:=P) (w:=w) (code:=if (none : Option Value).isSome then .slice3C else .sliceB) hx h2 (Nat.le_refl _)
   refine ⟨?_,h4,h6⟩
   simp only [Sem.run_bind,Sem.run_pure,Result.andThen_ok,h5,h3]
theorem bHy (H : HR G ρ h w) {t : TypeId} {x : DV} {x' : Value} {lo hi : Option DV} {lo' hi' : Option Value} (ht : P.underlying t = some .string) (hx : VR ρ x x') (hl : OR ρ lo lo') (hh : OR ρ hi hi') (hp : cK x lo hi h = some (v,h1)) :
  SemOk P G ρ w v h1 (Instr.sliceAt t x' lo' hi' none):=by
 unfold cK at hp
 split at hp <;> (try (cases hp; done))
 rename_i l
 split at hp <;> (try (cases hp; done))
 rename_i e he
 split at hp <;> (try (cases hp; done))
 rename_i s hs
 simp only [aU,bG] at hp
 obtain ⟨rfl,rfl⟩:=hp
 cases hx with
 | s _ bs hb =>
  have hlen : l.length = bs.size:=by rw [← hb,List.length_map,Array.length_toList]; rfl
  rw [hlen] at he
  obtain ⟨h3,h4,h5⟩:=mF (P:=P) (w:=w) (isS:=false) hl hh (Nat.le_refl _) he hs
  refine SemOk.pure H (.s _ (bs.extract s e) ?_) ?_
  ·subst hb
   simp [List.map_drop,List.map_take,List.drop_take]
  ·simp only [Instr.sliceAt,Sem.run_bind,rU ht,Result.andThen_ok,Instr.slice]
   simp only [Option.isSome_none,Bool.false_eq_true,if_false,Sem.run_bind,Sem.run_pure,Result.andThen_ok,h3]
theorem bPw (H : HR G ρ h w) {t e : TypeId} {i : TypeInfo} {x : DV} {x' : Value} {lo hi : Option DV} {lo' hi' : Option Value} (ht : P.underlying t = some (.slice e)) (hi0 : P.info? e = some i) (hx : VR ρ x x') (hl : OR ρ lo lo') (hh : OR ρ hi hi')
  (hp : dF i.size x lo hi h = some (v,h1)) : SemOk P G ρ w v h1 (Instr.sliceAt t x' lo' hi' none):=by
 unfold dF at hp
 split at hp <;> (try (cases hp; done))
 ·rename_i b o len cap
  split at hp <;> (try (cases hp; done))
  rename_i en he
  split at hp <;> (try (cases hp; done))
  rename_i s hs
  cases hx with
  | l _ _ _ _ L hL =>
   obtain ⟨h3,h4,h5⟩:=mF (P:=P) (w:=w) (isS:=true) (cap':=cap + L.sp) hl hh (Nat.le_add_right _ _) he hs
   have hrun : (Instr.sliceAt t (.slice (some (eC L o)) len (cap + L.sp)) lo' hi' none).run P w = .ok (.slice (if cap + L.sp = s then some (eC L o) else (some (eC L o)).map (·.add (s * i.size))) (en - s) (cap + L.sp - s)) w:=by
    simp only [Instr.sliceAt,Sem.run_bind,rU ht,Result.andThen_ok,Instr.slice,h3,rS hi0,Sem.run_pure]
   have hold : ∀ k l0,h.bl.get b = some (.row k l0) → L.sp = 0 → (some ((DV.l b (if cap = s then o else o + s * i.size) (en - s) (cap - s)),h) = some (v,h1)) → SemOk P G ρ w v h1 (Instr.sliceAt t (.slice (some (eC L o)) len (cap + L.sp)) lo' hi' none):=by
    intro k l0 hb hsp hp
    simp only [aU,bG] at hp
    obtain ⟨rfl,rfl⟩:=hp
    refine SemOk.pure H (.l b _ _ _ L hL) (hrun.trans ?_)
    rw [hsp]
    simp only [Nat.add_zero]
    split <;> simp [eN]
   split at hp <;> (try (cases hp; done))
   ·rename_i l0 hb; exact hold _ _ hb (H.ex b l0 L (.inl hb) hL) hp
   ·rename_i l0 hb; exact hold _ _ hb (H.ex b l0 L (.inr hb) hL) hp
   ·rename_i k l0 _ _ hb
    split at hp
    ·rename_i hcs
     simp only [aU,bG] at hp
     obtain ⟨rfl,rfl⟩:=hp
     have hv : VR ρ .le (.slice (if cap + L.sp = s then some (eC L o) else (some (eC L o)).map (·.add (s * i.size))) (en - s) (cap + L.sp - s)):=by
      rw [show en - s = 0 from by omega]
      split
      ·exact .le _ _
      ·exact .le _ _
     exact SemOk.pure H hv hrun
    ·rename_i hcs
     simp only [aU,bG] at hp
     obtain ⟨rfl,rfl⟩:=hp
     refine SemOk.pure H (.l b _ _ _ L hL) (hrun.trans ?_)
     rw [if_neg (by omega),show cap + L.sp - s = cap - s + L.sp from by omega]
     simp [eN]
 ·rename_i b o len cap
  split at hp <;> (try (cases hp; done))
  rename_i en he
  split at hp <;> (try (cases hp; done))
  rename_i s hs
  simp only [aU,bG] at hp
  obtain ⟨rfl,rfl⟩:=hp
  cases hx with
  | lx _ _ _ _ L hL =>
   obtain ⟨h3,h4,h5⟩:=mF (P:=P) (w:=w) (isS:=true) (cap':=cap) hl hh (Nat.le_refl _) he hs
   have hrun : (Instr.sliceAt t (.slice (some (eC L o)) len cap) lo' hi' none).run P w = .ok (.slice (if cap = s then some (eC L o) else (some (eC L o)).map (·.add (s * i.size))) (en - s) (cap - s)) w:=by
    simp only [Instr.sliceAt,Sem.run_bind,rU ht,Result.andThen_ok,Instr.slice,h3,rS hi0,Sem.run_pure]
   refine SemOk.pure H (.lx b _ _ _ L hL) (hrun.trans ?_)
   split <;> simp [eN]
 ·split at hp <;> (try (cases hp; done))
  rename_i en he
  split at hp <;> (try (cases hp; done))
  rename_i s hs
  simp only [aU,bG] at hp
  obtain ⟨rfl,rfl⟩:=hp
  cases hx
  obtain ⟨h3,h4,h5⟩:=mF (P:=P) (w:=w) (isS:=true) hl hh (Nat.le_refl _) he hs
  obtain rfl : en = 0:=by omega
  obtain rfl : s = 0:=by omega
  refine SemOk.pure H .l0 ?_
  simp only [Instr.sliceAt,Sem.run_bind,rU ht,Result.andThen_ok,Instr.slice,h3,rS hi0,Sem.run_pure]
  simp
 ·split at hp <;> (try (cases hp; done))
  rename_i en he
  split at hp <;> (try (cases hp; done))
  rename_i s hs
  simp only [aU,bG] at hp
  obtain ⟨rfl,rfl⟩:=hp
  cases hx with
  | le a c =>
   obtain ⟨h3,h4,h5⟩:=mF (P:=P) (w:=w) (isS:=true) (cap':=c) hl hh (Nat.zero_le _) he hs
   have hrun : (Instr.sliceAt t (.slice (some a) 0 c) lo' hi' none).run P w = .ok (.slice (if c = s then some a else (some a).map (·.add (s * i.size))) (en - s) (c - s)) w:=by
    simp only [Instr.sliceAt,Sem.run_bind,rU ht,Result.andThen_ok,Instr.slice,h3,rS hi0,Sem.run_pure]
   have hv : VR ρ .le (.slice (if c = s then some a else (some a).map (·.add (s * i.size))) (en - s) (c - s)):=by
    rw [show en - s = 0 from by omega]
    split
    ·exact .le _ _
    ·exact .le _ _
   exact SemOk.pure H hv hrun
theorem bHu (H : HR G ρ h w) {t e : TypeId} {i : TypeInfo} {x hi mx : DV} {x' hi' mx' : Value} {lo : Option DV} {lo' : Option Value} (ht : P.underlying t = some (.slice e)) (hi0 : P.info? e = some i) (hx : VR ρ x x') (hl : OR ρ lo lo') (hh : VR ρ hi hi') (hm : VR ρ mx mx')
  (hp : oU x lo hi mx h = some (v,h1)) : SemOk P G ρ w v h1 (Instr.sliceAt t x' lo' (some hi') (some mx')):=by
 have hmain : ∀ (b : Pos) (o len cap cap' m n : Nat) (L : Loc), ρ b = some L → cap ≤ cap' → fL mx cap = some m → fL hi m = some n → lo' = none →
   SemOk P G ρ w (.lx b o n m) h (Instr.sliceAt t (.slice (some (eC L o)) len cap') lo' (some hi') (some mx')):=by
  intro b o len cap cap' m n L hL hc e1 e2 hlo
  subst hlo
  obtain ⟨h3,h4⟩:=hC (P:=P) (w:=w) (y':=cap') (code:=.slice3Acap) hm e1 hc
  obtain ⟨h5,h6⟩:=hC (P:=P) (w:=w) (y':=m) (code:=.slice3B) hh e2 (Nat.le_refl _)
  refine SemOk.pure H (.lx b o n m L hL) ?_
  simp only [Instr.sliceAt,Sem.run_bind,rU ht,Result.andThen_ok,Instr.slice,Instr.sliceBounds,h3,h5,rS hi0,Sem.run_pure]
  by_cases h0 : m = 0
  ·subst h0
   simp [h3,h5]
  ·simp [h0,h3,h5,eN]
 unfold oU at hp
 split at hp <;> (try (cases hp; done))
 ·rename_i b o len cap
  split at hp <;> (try (cases hp; done))
  rename_i m e1
  split at hp <;> (try (cases hp; done))
  rename_i n e2
  simp only [aU,bG] at hp
  obtain ⟨rfl,rfl⟩:=hp
  cases hx with
  | l _ _ _ _ L hL =>
   cases hl
   exact hmain b o len cap _ m n L hL (Nat.le_add_right _ _) e1 e2 rfl
 ·rename_i b o len cap
  split at hp <;> (try (cases hp; done))
  rename_i m e1
  split at hp <;> (try (cases hp; done))
  rename_i n e2
  simp only [aU,bG] at hp
  obtain ⟨rfl,rfl⟩:=hp
  cases hx with
  | lx _ _ _ _ L hL =>
   cases hl
   exact hmain b o len cap _ m n L hL (Nat.le_refl _) e1 e2 rfl
 ·split at hp <;> (try (cases hp; done))
  rename_i n1 n2 e1 e2
  simp only [aU,bG] at hp
  obtain ⟨rfl,rfl⟩:=hp
  cases hx
  cases hl
  obtain ⟨h3,h4⟩:=hC (P:=P) (w:=w) (y':=0) (code:=.slice3Acap) hm e1 (Nat.zero_le _)
  obtain ⟨h5,h6⟩:=hC (P:=P) (w:=w) (y':=n1) (code:=.slice3B) hh e2 (Nat.zero_le _)
  obtain rfl : n1 = 0:=by omega
  obtain rfl : n2 = 0:=by omega
  refine SemOk.pure H .l0 ?_
  simp only [Instr.sliceAt,Sem.run_bind,rU ht,Result.andThen_ok,Instr.slice,Instr.sliceBounds,h3,h5,rS hi0,Sem.run_pure,if_true]
 ·split at hp <;> (try (cases hp; done))
  rename_i n1 n2 e1 e2
  simp only [aU,bG] at hp
  obtain ⟨rfl,rfl⟩:=hp
  cases hx with
  | le a c =>
  cases hl
  obtain ⟨h3,h4⟩:=hC (P:=P) (w:=w) (y':=c) (code:=.slice3Acap) hm e1 (Nat.zero_le _)
  obtain ⟨h5,h6⟩:=hC (P:=P) (w:=w) (y':=n1) (code:=.slice3B) hh e2 (Nat.zero_le _)
  obtain rfl : n1 = 0:=by omega
  obtain rfl : n2 = 0:=by omega
  refine SemOk.pure H (.le a 0) ?_
  simp only [Instr.sliceAt,Sem.run_bind,rU ht,Result.andThen_ok,Instr.slice,Instr.sliceBounds,h3,h5,rS hi0,Sem.run_pure,if_true]
theorem bRg (H : HR G ρ h w) {t : TypeId} {fs : Array Field} {f : Nat} {fl : Field} {i : TypeInfo} {x : DV} {x' : Value} (ht : P.underlying t = some (.struct fs)) (hf : fs[f]? = some fl) (hi : P.info? fl.type = some i) (h0 : i.size ≠ 0) (hx : VR ρ x x')
  (hp : aB fl.offset x h = some (v,h1)) : SemOk P G ρ w v h1 (Instr.fieldAt t x' f):=by
 unfold aB at hp
 split at hp <;> (try (cases hp; done))
 simp only [aU,bG] at hp
 obtain ⟨rfl,rfl⟩:=hp
 cases hx with
 | p b o L hL =>
  refine SemOk.pure H (.p _ _ L hL) ?_
  simp only [Instr.fieldAt,Sem.run_bind,rU ht,Result.andThen_ok,hf,Instr.sureAddr,Sem.run_pure,fieldPlace,rS hi]
  rw [if_neg h0]
  simp [eN]
theorem bVo (H : HR G ρ h w) {t : TypeId} {fs : Array Field} {f : Nat} {fl : Field} {d : TypeDesc} {x : DV} {x' : Value} (ht : P.underlying t = some (.struct fs)) (hf : fs[f]? = some fl) (hd : P.underlying fl.type = some d) (ha : jW d = false) (hx : VR ρ x x')
  (hp : uF fl.offset x h = some (v,h1)) : SemOk P G ρ w v h1 (Instr.field t x' f):=by
 unfold uF at hp
 split at hp <;> (try (cases hp; done))
 split at hp <;> (try (cases hp; done))
 rename_i u hu
 simp only [aU,bG] at hp
 obtain ⟨rfl,rfl⟩:=hp
 cases hx with
 | a _ cs' hc =>
  obtain ⟨u',h3,h4⟩:=hc.get _ _ hu
  refine SemOk.pure H h4 ?_
  simp only [Instr.field,Sem.run_bind,rU ht,Result.andThen_ok,hf,asAgg,Sem.run_pure,part,rA hd,ha]
  simp only [Array.getElem?_toList] at h3
  simp [h3]
theorem bRs (H : HR G ρ h w) {t : TypeId} {fs : Array Field} {f : Nat} {fl : Field} {d : TypeDesc} {i : TypeInfo} {x : DV} {x' : Value} (ht : P.underlying t = some (.struct fs)) (hf : fs[f]? = some fl) (hd : P.underlying fl.type = some d) (hi : P.info? fl.type = some i) (ha : jW d = true) (hx : VR ρ x x')
  (hp : aFw fl.offset i.size x h = some (v,h1)) : SemOk P G ρ w v h1 (Instr.field t x' f):=by
 unfold aFw at hp
 split at hp <;> (try (cases hp; done))
 simp only [aU,bG] at hp
 obtain ⟨rfl,rfl⟩:=hp
 cases hx with
 | a _ cs' hc =>
  refine SemOk.pure H (.a _ (cs'.extract fl.offset (fl.offset + i.size)) ?_) ?_
  ·have:=(hc.drop fl.offset).take i.size
   simpa [List.take_drop,Nat.add_comm] using this
  ·simp only [Instr.field,Sem.run_bind,rU ht,Result.andThen_ok,hf,asAgg,Sem.run_pure,part,rA hd,ha,rS hi,if_true]
theorem aGv (H : HR G ρ h w) {t e : TypeId} {i : TypeInfo} {x ix : DV} {x' ix' : Value} (ht : P.underlying t = some (.slice e)) (hi : P.info? e = some i) (hx : VR ρ x x') (hix : VR ρ ix ix') (hp : aE i.size x ix h = some (v,h1)) :
  SemOk P G ρ w v h1 (Instr.indexAt t x' ix'):=by
 unfold aE at hp
 split at hp <;> (try (cases hp; done))
 ·split at hp <;> (try (cases hp; done))
  rename_i hr
  simp only [aU,bG] at hp
  obtain ⟨rfl,rfl⟩:=hp
  cases hix
  cases hx with
  | l b o len cap L hL =>
   refine SemOk.pure H (.p _ _ L hL) ?_
   simp only [Instr.indexAt,asIntOf,Sem.run_bind,Sem.run_pure,Result.andThen_ok,rU ht]
   simp [hr,rS hi,eN]
 ·split at hp <;> (try (cases hp; done))
  rename_i hr
  simp only [aU,bG] at hp
  obtain ⟨rfl,rfl⟩:=hp
  cases hix
  cases hx with
  | lx b o len cap L hL =>
   refine SemOk.pure H (.p _ _ L hL) ?_
   simp only [Instr.indexAt,asIntOf,Sem.run_bind,Sem.run_pure,Result.andThen_ok,rU ht]
   simp [hr,rS hi,eN]
theorem aNr (H : HR G ρ h w) {t e : TypeId} {n : Nat} {i : TypeInfo} {x ix : DV} {x' ix' : Value} (ht : P.underlying t = some (.array n e)) (hi : P.info? e = some i) (hx : VR ρ x x') (hix : VR ρ ix ix') (hp : eL n i.size x ix h = some (v,h1)) :
  SemOk P G ρ w v h1 (Instr.indexAt t x' ix'):=by
 unfold eL at hp
 split at hp <;> (try (cases hp; done))
 split at hp <;> (try (cases hp; done))
 rename_i hr
 simp only [aU,bG] at hp
 obtain ⟨rfl,rfl⟩:=hp
 cases hix
 cases hx with
 | p b o L hL =>
  refine SemOk.pure H (.p _ _ L hL) ?_
  simp only [Instr.indexAt,asIntOf,Sem.run_bind,Sem.run_pure,Result.andThen_ok,rU ht,Instr.sureAddr]
  simp [hr,rS hi,eN]
theorem bEk (H : HR G ρ h w) {t : TypeId} {x ix : DV} {x' ix' : Value} (ht : P.underlying t = some .string) (hx : VR ρ x x') (hix : VR ρ ix ix') (hp : bX x ix h = some (v,h1)) :
  SemOk P G ρ w v h1 (Instr.index t x' ix'):=by
 unfold bX at hp
 split at hp <;> (try (cases hp; done))
 rename_i l k n
 split at hp <;> (try (cases hp; done))
 rename_i h0
 split at hp <;> (try (cases hp; done))
 rename_i c hc
 simp only [aU,bG] at hp
 obtain ⟨rfl,rfl⟩:=hp
 cases hix
 cases hx with
 | s _ bs hb =>
  subst hb
  rw [List.getElem?_map,Array.getElem?_toList] at hc
  cases hg : bs.data[n.toNat]? with
  | none=>rw [hg] at hc; cases hc
  | some u =>
   rw [hg] at hc
   simp only [Option.map_some,aU] at hc
   subst hc
   refine SemOk.pure H (by constructor) ?_
   have hs : bs[n.toNat]? = some u:=by
    have hlt : n.toNat < bs.size:=(Array.getElem?_eq_some_iff.1 hg).1
    rw [ByteArray.getElem?_lt' bs _ hlt]
    congr 1
    exact (Array.getElem?_eq_some_iff.1 hg).2
   simp only [Instr.index,asIntOf,Sem.run_bind,Sem.run_pure,Result.andThen_ok,rU ht]
   simp [h0,hs]
theorem aVf (H : HR G ρ h w) {i : Nat} {x : DV} {x' : Value} (hx : VR ρ x x') (hp : aC i x h = some (v,h1)) : SemOk P G ρ w v h1 (Instr.extract x' i):=by
 unfold aC at hp
 split at hp <;> (try (cases hp; done))
 split at hp <;> (try (cases hp; done))
 rename_i u hu
 simp only [aU,bG] at hp
 obtain ⟨rfl,rfl⟩:=hp
 cases hx with
 | t _ vs' hc =>
  obtain ⟨u',h3,h4⟩:=hc.get _ _ hu
  refine SemOk.pure H h4 ?_
  simp only [Array.getElem?_toList] at h3
  simp [Instr.extract,h3]
end
end Go.Dd

namespace Go.Dd
open Go.RowKit (Below)
section
variable {P : Program} {G : Gd} {ρ : Ren} {w : World} {h h1 : Hp} {v : DV}
theorem HR.kill (H : HR G ρ h w) {b : Pos} {es o : Nat} {l : List DV} (hb : h.bl.get b = some (.row (.gr es) l)) :
  HR G ρ ⟨h.next,Tr.set (.row .sp (bR o l)) b h.bl⟩ w:=by
 obtain ⟨k1,k2⟩:=lI o l
 have hroB : ¬ isRo h b:=by rintro ⟨l0,h0⟩; rw [hb] at h0; simp at h0
 have hcl : ∀ {x a},Claims ρ ⟨h.next,Tr.set (.row .sp (bR o l)) b h.bl⟩ x a → Claims ρ h x a:=by
  rintro x a ⟨k',l',L',h1,h2,h3⟩
  by_cases e : x = b
  ·subst e
   simp only [dXv,aU,Ob.row.injEq] at h1
   obtain ⟨rfl,rfl⟩:=h1
   rcases h3 with ⟨i,u,hi,hu,rfl⟩ | ⟨es,j,h4,_,_⟩
   ·exact ⟨_,l,L',hb,h2,.inl ⟨i,u,(k2 i u hi hu).2,hu,rfl⟩⟩
   ·cases h4
  ·simp only [dXu _ _ _ _ e] at h1
   exact ⟨k',l',L',h1,h2,h3⟩
 have hro : ∀ x,isRo ⟨h.next,Tr.set (.row .sp (bR o l)) b h.bl⟩ x ↔ isRo h x:=by
  intro x
  by_cases e : x = b
  ·subst e; simp [isRo,dXv,hb]
  ·simp [isRo,dXu _ _ _ _ e]
 refine { gl:=H.gl,sz:=H.sz,nx:=H.nx,ro:=fun x a hc hr=>H.ro x a (hcl hc) ((hro x).1 hr),dom := ?_,lt:=H.lt,cell := ?_,spare := ?_,free := ?_,inj := ?_,ex := ?_,grone := ?_,itr := ?_,itj := ?_ }
 ·intro x ob hx
  by_cases e : x = b
  ·subst e; exact H.dom x _ hb
  ·simp only [dXu _ _ _ _ e] at hx; exact H.dom x ob hx
 ·intro x k' l' L' i u hx hL' hi hu
  by_cases e : x = b
  ·subst e
   simp only [dXv,aU,Ob.row.injEq] at hx
   obtain ⟨rfl,rfl⟩:=hx
   exact H.cell x _ l L' i u hb hL' (k2 i u hi hu).2 hu
  ·simp only [dXu _ _ _ _ e] at hx
   exact H.cell x k' l' L' i u hx hL' hi hu
 ·intro x l' L' es j hx hL' hj
  by_cases e : x = b
  ·subst e; simp [dXv] at hx
  ·simp only [dXu _ _ _ _ e] at hx
   exact H.spare x l' L' es j hx hL' hj
 ·intro x a hc hr
  exact H.free x a (hcl hc) (fun h=>hr ((hro x).2 h))
 ·intro x x' a hc hc' hr
  exact H.inj x x' a (hcl hc) (hcl hc') (fun h=>hr ((hro x).2 h))
 ·intro x l' L' hx hL'
  by_cases e : x = b
  ·subst e; simp [dXv] at hx
  ·simp only [dXu _ _ _ _ e] at hx
   exact H.ex x l' L' hx hL'
 ·intro x es l' i u hx hi
  by_cases e : x = b
  ·subst e; simp [dXv] at hx
  ·simp only [dXu _ _ _ _ e] at hx
   exact H.grone x es l' i u hx hi
 ·intro x o L' h0 hx hL'
  by_cases e : x = b
  ·subst e; simp [dXv] at hx; subst hx; cases h0
  ·simp only [dXu _ _ _ _ e] at hx
   exact H.itr x o L' h0 hx hL'
 ·intro x o x' o' L1 L2 h0 h0' hx hx' h1 h2 he
  by_cases e : x = b
  ·subst e; simp [dXv] at hx; subst hx; cases h0
  ·by_cases e' : x' = b
   ·subst e'; simp [dXv] at hx'; subst hx'; cases h0'
   ·simp only [dXu _ _ _ _ e] at hx
    simp only [dXu _ _ _ _ e'] at hx'
    exact H.itj x o x' o' L1 L2 h0 h0' hx hx' h1 h2 he
theorem bJa (H : HR G ρ h w) {size n : Nat} {x : DV} {x' : Value} {new : List DV} (h0 : 0 < size) (hx : VR ρ x x') (hs : lM size x h = some (n,new)) :
  ∃ new' : List Value,VRs ρ new new' ∧ new.length = n * size ∧ (∀ u ∈ new,u.one = true) ∧ (Builtin.lenOf x').run P w = .ok n w ∧
   ∀ w1 : World,w1.heap = w.heap → (Builtin.lenOf x').run P w1 = .ok n w1 ∧ (Builtin.firstCells size n x').run P w1 = .ok new'.toArray w1:=by
 unfold lM at hs
 split at hs <;> (try (cases hs; done))
 ·simp only [aU,bG] at hs
  obtain ⟨rfl,rfl⟩:=hs
  cases hx
  exact ⟨[],.nil,by simp,by simp,by simp [Builtin.lenOf],fun w1 _=>⟨by simp [Builtin.lenOf],by simp [Builtin.firstCells]⟩⟩
 ·simp only [aU,bG] at hs
  obtain ⟨rfl,rfl⟩:=hs
  cases hx with
  | le a c =>
   refine ⟨[],.nil,by simp,by simp,by simp [Builtin.lenOf],fun w1 _=>⟨by simp [Builtin.lenOf], ?_⟩⟩
   simp [Builtin.firstCells,loadCells,loadCellsFrom]
 ·rename_i b o m cap
  split at hs <;> (try (cases hs; done))
  rename_i cs hc
  simp only [aU,bG] at hs
  obtain ⟨rfl,rfl⟩:=hs
  cases hx with
  | l _ _ _ _ L hL =>
   obtain ⟨h1,h2,_,vs,h4,h5,h6⟩:=eO H hc hL
   refine ⟨vs,h4,h1,h2,by simp [Builtin.lenOf],fun w1 hw1=>⟨by simp [Builtin.lenOf], ?_⟩⟩
   have:=dR (P:=P) (w:=w1) (a:=eC L o) vs rfl (fun j u hj=>by have:=h6 j u hj; simpa [World.cell?,hw1] using this)
   rw [h5] at this
   simpa [Builtin.firstCells] using this
 ·rename_i b o m cap
  split at hs <;> (try (cases hs; done))
  rename_i cs hc
  simp only [aU,bG] at hs
  obtain ⟨rfl,rfl⟩:=hs
  cases hx with
  | lx _ _ _ _ L hL =>
   obtain ⟨h1,h2,_,vs,h4,h5,h6⟩:=eO H hc hL
   refine ⟨vs,h4,h1,h2,by simp [Builtin.lenOf],fun w1 hw1=>⟨by simp [Builtin.lenOf], ?_⟩⟩
   have:=dR (P:=P) (w:=w1) (a:=eC L o) vs rfl (fun j u hj=>by have:=h6 j u hj; simpa [World.cell?,hw1] using this)
   rw [h5] at this
   simpa [Builtin.firstCells] using this
 ·rename_i l
  split at hs <;> (try (cases hs; done))
  rename_i h1
  simp only [aU,bG] at hs
  obtain ⟨rfl,rfl⟩:=hs
  subst h1
  cases hx with
  | s _ bs hb =>
   have hlen : l.length = bs.size:=by rw [← hb,List.length_map,Array.length_toList]; rfl
   refine ⟨bs.data.toList.map fun b=>.int .u8 b.toNat, ?_,by simp, ?_,by simp [Builtin.lenOf,hlen],fun w1 _=>⟨by simp [Builtin.lenOf,hlen], ?_⟩⟩
   ·rw [← hb,List.map_map]
    exact VRs.map _ _ (fun c=>.i _ _) _
   ·intro u hu
    simp at hu
    obtain ⟨c,_,rfl⟩:=hu
    rfl
   ·simp only [Builtin.firstCells,Sem.run_pure,hlen]
    congr 1
    have he : (bs.extract 0 bs.size).data = bs.data:=by
     rw [ByteArray.data_extract]
     exact Array.extract_size
    rw [he]
    apply Array.toList_inj.1
    simp
theorem fN {t u e : TypeId} {i : TypeInfo} {ty : TypeId} {base : Option Addr} {sLen sCap n : Nat} {x' : Value} {d : TypeDesc} {new' : Array Value}
  (ht : P.underlying t = some (.slice e)) (hu : P.underlying u = some d) (hd : ∀ k,d ≠ .int k) (hi : P.info? e = some i) (hl : (Builtin.lenOf x').run P w = .ok n w)
  (hf : (Builtin.firstCells i.size n x').run P w = .ok new' w) (hle : sLen + n ≤ sCap) :
  (Builtin.append_ #[t,u] ty #[.slice base sLen sCap,x']).run P w =
   (match base with
    | some a=>(storeCells (a.add (sLen * i.size)) new'.toList).run P w
    | none=>.ok () w).andThen fun _ w'=>.ok (.slice base (sLen + n) sCap) w':=by
 have hz : (match d with | .int _=>true | _=>false) = false:=by cases d <;> first | rfl | exact absurd rfl (hd _)
 simp only [Builtin.append_,List.getElem?_toArray,List.getElem?_cons_zero,List.getElem?_cons_succ,Sem.run_bind,rU ht,rU hu,rS hi,Result.andThen_ok,Sem.run_pure]
 simp only [hz,Bool.false_eq_true,if_false,hl,Result.andThen_ok,Bool.not_false,if_true,hle,Sem.run_bind,hf]
 cases base <;> simp
theorem vS {t u e : TypeId} {i : TypeInfo} {z : Value} {ty : TypeId} {base : Option Addr} {sLen sCap n : Nat} {x' : Value} {d : TypeDesc} {old' new' : Array Value}
  (ht : P.underlying t = some (.slice e)) (hu : P.underlying u = some d) (hd : ∀ k,d ≠ .int k) (hi : P.info? e = some i) (hz : i.zero = some z) (hl : (Builtin.lenOf x').run P w = .ok n w)
  (ho : (Builtin.firstCells i.size sLen (.slice base sLen sCap)).run P w.drew = .ok old' w.drew) (hf : (Builtin.firstCells i.size n x').run P w.drew = .ok new' w.drew) (hgt : ¬ sLen + n ≤ sCap)
  (hb0 : 0 < i.bytes) (hroom : (sLen + n) * i.bytes ≤ kY) :
  ∃ newCap,sLen + n ≤ newCap ∧ (Builtin.append_ #[t,u] ty #[.slice base sLen sCap,x']).run P w =
   .ok (.slice (some ⟨w.heap.size,0,none⟩) (sLen + n) newCap) (w.drew.alloc (.cells (old' ++ new' ++ Builtin.zeroCells z.cells (newCap - (sLen + n))) e)):=by
 have hzd : (match d with | .int _=>true | _=>false) = false:=by cases d <;> first | rfl | exact absurd rfl (hd _)
 refine ⟨(Question.appendCap (sLen + n) sCap e).cut (w.tape w.drawn (.appendCap (sLen + n) sCap e)),by simp [Question.cut], ?_⟩
 have hsmall : sLen + n ≤ kY:=Nat.le_trans (Nat.le_mul_of_pos_right _ hb0) hroom
 have hmax : ¬ ((((sLen + n : Nat) : Int) > IntKind.i64.max) ∧ (False ∨ i.bytes = 0)):=by rintro ⟨_,h | h⟩ <;> omega
 have hfit:=growslice_fits (need:=sLen + n) (old:=sCap) (bytes:=i.bytes) (by omega) (by unfold kY at hroom; omega)
 simp only [Builtin.append_,List.getElem?_toArray,List.getElem?_cons_zero,List.getElem?_cons_succ,Sem.run_bind,rU ht,rU hu,rS hi,Result.andThen_ok,Sem.run_pure]
 simp only [hzd,Bool.false_eq_true,if_false,hl,Result.andThen_ok,Bool.not_false,if_true,hgt,Sem.run_bind,rI hi]
 rw [if_neg hmax]
 simp only [Sem.run_bind,rI hi,Result.andThen_ok,Sem.run_pure]
 rw [if_neg (by omega)]
 simp only [Sem.run_bind,run_choose,Question.forced,Bool.false_eq_true,if_false,Result.andThen_ok,rI hi,run_askRoom,World.drew_eq,ho,hf,rZ hi hz,Sem.run_pure]
 simp [newRow]
 rfl
theorem bHn (H : HR G ρ h w) {t u e : TypeId} {i : TypeInfo} {z : Value} {ty : TypeId} {d : TypeDesc} {s x : DV} {s' x' : Value}
  (ht : P.underlying t = some (.slice e)) (hu : P.underlying u = some d) (hd : ∀ k,d ≠ .int k) (hi : P.info? e = some i) (hz : i.zero = some z) (h0 : 0 < i.size) (hb0 : 0 < i.bytes) (hzs : z.cells.size = i.size)
  (hs : VR ρ s s') (hx : VR ρ x x') (hp : bB i.size i.bytes s x h = some (v,h1)) :
  SemOk P G ρ w v h1 (Builtin.append_ #[t,u] ty #[s',x']):=by
 unfold bB at hp
 split at hp <;> (try (cases hp; done))
 rename_i n new hsrc
 obtain ⟨new',n1,n2,n3,n4,n5⟩:=bJa (P:=P) H h0 hx hsrc
 have hnew : ∀ (base : Option Addr) (sLen sCap : Nat) (old : List DV) (old' : List Value) (hx : Hp) (Hx : HR G ρ hx w),hx.next = h.next → VRs ρ old old' → old.length = sLen * i.size → (∀ u ∈ old,u.one = true) →
   (Builtin.firstCells i.size sLen (.slice base sLen sCap)).run P w.drew = .ok old'.toArray w.drew → ¬ sLen + n ≤ sCap → (sLen + n) * i.bytes ≤ kY →
   v = .l h.next 0 (sLen + n) (sLen + n) → h1 = ⟨h.next.succ,Tr.set (.row (.gr i.size) (old ++ new)) h.next hx.bl⟩ → SemOk P G ρ w v h1 (Builtin.append_ #[t,u] ty #[.slice base sLen sCap,x']):=by
  intro base sLen sCap old old' hx Hx hnx o1 o2 o3 o4 hgt hroom hv hh
  subst hv hh
  obtain ⟨newCap,c1,c2⟩:=vS (P:=P) (w:=w) (ty:=ty) ht hu hd hi hz n4 o4 (n5 w.drew rfl).2 hgt hb0 hroom
  have hrow:=Hx.drew.newRow (.gr i.size) (old ++ new) (old' ++ new') (old'.toArray ++ new'.toArray ++ Builtin.zeroCells z.cells (newCap - (sLen + n))) e (newCap - (sLen + n)) (o1.append n1)
   (fun j y hj=>by
    have hlt : j < (old' ++ new').length:=by
     rcases Nat.lt_or_ge j (old' ++ new').length with h | h
     ·exact h
     ·rw [List.getElem?_eq_none h] at hj; cases hj
    rw [Array.getElem?_append_left (by simpa using hlt)]
    simpa using hj)
   (.inr ⟨i.size,rfl,by simp [Builtin.zeroCells,hzs],fun y hy=>by
    simp at hy
    rcases hy with hy | hy
    ·exact o3 y hy
    ·exact n3 y hy⟩)
  rw [hnx] at hrow
  refine ⟨_,_,_,c2, ?_, ?_,hrow, ?_⟩
  ·have:=Hx.exx ⟨w.heap.size,0,newCap - (sLen + n),none⟩
   rwa [hnx] at this
  ·have hvr : VR (lO ρ h.next ⟨w.heap.size,0,newCap - (sLen + n),none⟩) (.l h.next 0 (sLen + n) (sLen + n)) (.slice (some (eC ⟨w.heap.size,0,newCap - (sLen + n),none⟩ 0)) (sLen + n) (sLen + n + (newCap - (sLen + n)))):=.l _ _ _ _ _ (bP _ _ _)
   rw [show sLen + n + (newCap - (sLen + n)) = newCap from by omega] at hvr
   exact hvr
  ·exact (Kp.refl G w).drew.trans (dT (by simpa using H.sz) _)
 split at hp <;> (try (cases hp; done))
 ·cases hs
  split at hp
  ·rename_i hn0
   subst hn0
   simp only [aU,bG] at hp
   obtain ⟨rfl,rfl⟩:=hp
   refine SemOk.pure H .l0 ?_
   rw [fN ht hu hd hi n4 (n5 w rfl).2 (by omega)]
   simp
  ·rename_i hn0
   split at hp <;> (try (cases hp; done))
   rename_i hroom
   simp only [aU,bG] at hp
   obtain ⟨rfl,rfl⟩:=hp
   exact hnew none 0 0 [] [] h H rfl .nil (by simp) (by simp) (by simp [Builtin.firstCells]) (by omega) (by simpa using hroom) (by simp) (by simp)
 ·split at hp <;> (try (cases hp; done))
  rename_i hn0
  subst hn0
  simp only [aU,bG] at hp
  obtain ⟨rfl,rfl⟩:=hp
  cases hs with
  | le a c =>
   have hnew0 : new = []:=List.eq_nil_of_length_eq_zero (by rw [n2]; simp)
   subst hnew0
   cases n1
   refine SemOk.pure H (.le a c) ?_
   rw [fN ht hu hd hi n4 (n5 w rfl).2 (by omega)]
   simp [storeCells]
 ·rename_i b o len cap
  cases hs with
  | l _ _ _ _ L hL =>
   split at hp
   ·rename_i hle
    split at hp <;> (try (cases hp; done))
    rename_i h' hst
    simp only [aU,bG] at hp
    obtain ⟨rfl,rfl⟩:=hp
    obtain ⟨w',s1,s2,s3⟩:=fV (P:=P) H hst hL n1
    refine ⟨ρ,w',_, ?_,Ex.refl G ρ,.l b o _ _ L hL,s2,s3⟩
    rw [fN ht hu hd hi n4 (n5 w rfl).2 (by omega)]
    simp only [eN]
    rw [s1]
    simp
   ·rename_i hgt
    split at hp <;> (try (cases hp; done))
    rename_i k l old hb hold
    split at hp <;> (try (cases hp; done))
    rename_i hroom
    obtain ⟨o1,o2,⟨k0,l0,hb0',o3,o4⟩,old',o5,o6,o7⟩:=eO H hold hL
    rw [hb] at hb0'
    simp only [aU,Ob.row.injEq] at hb0'
    obtain ⟨rfl,rfl⟩:=hb0'
    have hfo : (Builtin.firstCells i.size len (.slice (some (eC L o)) len (cap + L.sp))).run P w.drew = .ok old'.toArray w.drew:=by
     have:=dR (P:=P) (w:=w.drew) (a:=eC L o) old' rfl (fun j y hj=>by simpa using o7 j y hj)
     rw [o6] at this
     simpa [Builtin.firstCells] using this
    split at hp <;> (try (cases hp; done))
    ·simp only [aU,bG] at hp
     have hsp:=H.ex b l L (.inl hb) hL
     exact hnew _ _ _ old old' h H rfl o5 o1 o2 hfo (by omega) hroom hp.1.symm hp.2.symm
    ·simp only [aU,bG] at hp
     have hsp:=H.ex b l L (.inr hb) hL
     exact hnew _ _ _ old old' h H rfl o5 o1 o2 hfo (by omega) hroom hp.1.symm hp.2.symm
    ·rename_i es
     split at hp <;> (try (cases hp; done))
     rename_i hes
     obtain ⟨rfl,hend⟩:=hes
     simp only [aU,bG] at hp
     by_cases hin : len + n ≤ cap + L.sp
     ·obtain ⟨rfl,rfl⟩:=hp
      have hroB : ¬ isRo h b:=by rintro ⟨l0,h0⟩; rw [hb] at h0; simp at h0
      have hlenle : len ≤ cap:=by
       simp only [List.length_drop] at o4
       have : len * i.size ≤ cap * i.size:=by omega
       exact Nat.le_of_mul_le_mul_right this h0
      have e1 : len * i.size ≤ cap * i.size:=Nat.mul_le_mul_right _ hlenle
      have e2 : (len + n) * i.size = len * i.size + n * i.size:=Nat.add_mul _ _ _
      have e3 : (cap + L.sp) * i.size = cap * i.size + L.sp * i.size:=Nat.add_mul _ _ _
      have e4 : (len + n) * i.size ≤ (cap + L.sp) * i.size:=Nat.mul_le_mul_right _ hin
      have e6 : 1 * i.size ≤ (cap + L.sp) * i.size:=Nat.mul_le_mul_right _ (by omega)
      have hn':=n1.length
      have hOC : ∀ j,j < l.length + L.sp * i.size → Claims ρ h b (eC L j):=by
       intro j hj
       by_cases hlt : j < l.length
       ·exact ⟨_,l,L,hb,hL,.inl ⟨j,l[j],by simp [hlt],H.grone b i.size l j _ hb (by simp [hlt]),rfl⟩⟩
       ·exact ⟨_,l,L,hb,hL,.inr ⟨i.size,j - l.length,rfl,by omega,by rw [show l.length + (j - l.length) = j from by omega]⟩⟩
      obtain ⟨w',s1,s2⟩:=kO (P:=P) (L:=L) new' (o + len * i.size) 0 w (fun j hj=>by
       have hc:=hOC (o + len * i.size + 0 + j) (by omega)
       exact ⟨H.lt_cell hc,(H.free b _ hc hroB).1⟩) (n1.mem_one n3)
      rw [Nat.add_zero] at s2
      have hBL : Own G L.bl:=by
       have hc:=hOC o (by omega)
       simpa [eC] using (H.free b _ hc hroB).2
      refine ⟨_,w',.slice (some (eC L o)) (len + n) (cap + L.sp), ?_,H.exx _, ?_,H.regrow hb hL h0 hend hlenle (by omega) hin o3 n2 n3 n1 s2,s2.below hBL⟩
      ·rw [fN ht hu hd hi n4 (n5 w rfl).2 hin]
       simp only [eN]
       rw [s1]
       simp
      ·have hvr : VR (lO ρ h.next ⟨L.bl,L.of + o,cap + L.sp - (len + n),if o = 0 then L.spot else none⟩) (.l h.next 0 (len + n) (len + n)) (.slice (some (eC ⟨L.bl,L.of + o,cap + L.sp - (len + n),if o = 0 then L.spot else none⟩ 0)) (len + n) (len + n + (cap + L.sp - (len + n)))):=.l _ _ _ _ _ (bP _ _ _)
       rw [show len + n + (cap + L.sp - (len + n)) = cap + L.sp from by omega] at hvr
       exact hvr
     ·exact hnew _ _ _ old old' _ (H.kill (o:=o) hb) rfl o5 o1 o2 hfo hin hroom hp.1.symm hp.2.symm
 ·rename_i b o len cap
  cases hs with
  | lx _ _ _ _ L hL =>
   split at hp
   ·rename_i hn0
    subst hn0
    split at hp <;> (try (cases hp; done))
    rename_i hle
    simp only [aU,bG] at hp
    obtain ⟨rfl,rfl⟩:=hp
    have hnew0 : new = []:=List.eq_nil_of_length_eq_zero (by rw [n2]; simp)
    subst hnew0
    cases n1
    refine SemOk.pure H (.lx b o len cap L hL) ?_
    rw [fN ht hu hd hi n4 (n5 w rfl).2 (by omega)]
    simp [storeCells]
   ·split at hp <;> (try (cases hp; done))
    rename_i hgt
    split at hp <;> (try (cases hp; done))
    rename_i old hold
    split at hp <;> (try (cases hp; done))
    rename_i hroom
    simp only [aU,bG] at hp
    obtain ⟨o1,o2,_,old',o5,o6,o7⟩:=eO H hold hL
    have hfo : (Builtin.firstCells i.size len (.slice (some (eC L o)) len cap)).run P w.drew = .ok old'.toArray w.drew:=by
     have:=dR (P:=P) (w:=w.drew) (a:=eC L o) old' rfl (fun j y hj=>by simpa using o7 j y hj)
     rw [o6] at this
     simpa [Builtin.firstCells] using this
    exact hnew _ _ _ old old' h H rfl o5 o1 o2 hfo hgt hroom hp.1.symm hp.2.symm
theorem bVg (H : HR G ρ h w) {t : TypeId} {x : DV} {x' : Value} (ht : P.underlying t = some .string) (hx : VR ρ x x') (hp : tG x h = some (v,h1)) : SemOk P G ρ w v h1 (Instr.range t x'):=by
 unfold tG at hp
 split at hp <;> (try (cases hp; done))
 simp only [aU,bG] at hp
 obtain ⟨rfl,rfl⟩:=hp
 cases hx with
 | s l bs hb =>
  refine ⟨_,w.alloc (.stringIter bs 0),.pointer (some ⟨w.heap.size,0,none⟩), ?_,H.exx _,.p _ 0 ⟨w.heap.size,0,0,none⟩ (bP _ _ _),H.newIter _ bs hb,dT H.sz _⟩
  simp only [Instr.range,Sem.run_bind,rU ht,Result.andThen_ok,Sem.run_pure,run_newObj]
  rfl
theorem cGl (H : HR G ρ h w) {ty : TypeId} {x : DV} {x' : Value} (hx : VR ρ x x') (hp : aDe x h = some (v,h1)) : SemOk P G ρ w v h1 (Instr.next x' true ty):=by
 unfold aDe at hp
 split at hp <;> (try (cases hp; done))
 rename_i b
 split at hp <;> (try (cases hp; done))
 rename_i l pos hb
 cases hx with
 | p _ _ L hL =>
  obtain ⟨i1,i2,_,i3,bs,rfl,i4⟩:=H.itr b (.it l pos) L rfl hb hL
  have ha : eC L 0 = ⟨L.bl,0,none⟩:=by simp [eC,i2]
  have hlen : l.length = bs.size:=by rw [← i4,List.length_map,Array.length_toList]; rfl
  have hget : (getObj L.bl).run P w = .ok (.stringIter bs pos) w:=by simp [getObj,Sem.run,i3]
  rw [ha]
  split at hp
  ·rename_i c hc
   split at hp <;> (try (cases hp; done))
   rename_i hc128
   simp only [aU,bG] at hp
   obtain ⟨rfl,rfl⟩:=hp
   have hlt : pos < bs.size:=by
    rcases Nat.lt_or_ge pos l.length with h | h
    ·omega
    ·rw [List.getElem?_eq_none h] at hc; cases hc
   have hcb : c = (bs[pos]'hlt).toNat:=by
    rw [← i4,List.getElem?_map,Array.getElem?_toList] at hc
    have hg : bs.data[pos]? = some (bs[pos]'hlt):=Array.getElem?_eq_some_iff.2 ⟨hlt,rfl⟩
    rw [hg] at hc
    simpa using hc.symm
   have hdec:=decode_ascii bs pos hlt (by omega)
   obtain ⟨s1,s2⟩:=H.setSg (ob:=.it l pos) (ob1:=.it l (pos + 1)) (xo1:=.stringIter bs (pos + 1)) rfl rfl hb hL i3 trivial ⟨bs,rfl,i4⟩
   refine ⟨ρ,_,.tuple #[.bool true,goInt pos,.int .i32 c], ?_,Ex.refl G ρ, ?_,s1,s2⟩
   ·simp only [Instr.next,Sem.run_bind,hget,Result.andThen_ok]
    simp only [hlt,if_true,hdec,Sem.run_bind,Sem.run_pure]
    have hset : (setObj L.bl (.stringIter bs (pos + 1))).run P w = .ok () { w with heap:=w.heap.setIfInBounds L.bl (.stringIter bs (pos + 1)) }:=by simp [setObj,Sem.run,i3]
    rw [hset,hcb]
    rfl
   ·exact .t _ _ (.cons _ _ _ _ (.b _) (.cons _ _ _ _ (.i _ _) (.cons _ _ _ _ (.i _ _) .nil)))
  ·rename_i hc
   simp only [aU,bG] at hp
   obtain ⟨rfl,rfl⟩:=hp
   have hge : ¬ pos < bs.size:=by
    intro hlt
    rw [List.getElem?_eq_none_iff] at hc
    omega
   refine SemOk.pure H (.t [.b false] #[.bool false] (.cons _ _ _ _ (.b _) .nil)) ?_
   simp only [Instr.next,Sem.run_bind,hget,Result.andThen_ok]
   simp [hge]
end
end Go.Dd

namespace Go.Dd
open Go.RowKit (Below)
section
variable {P : Program} {G : Gd} {ρ : Ren} {w : World} {h h1 : Hp} {v : DV}
theorem wC {d : TypeDesc} {x y : DV} {x' y' : Value} {r : Bool} (hx : VR ρ x x') (hy : VR ρ y y') (h : uR d x y = some r) :
  Instr.sameNow d x' y' = some r ∧ (r = true → Instr.sameBits 10000 y' x' = true):=by
 unfold uR at h
 split at h <;> (try (cases h; done))
 ·cases hx; cases hy
  split at h <;> (try (cases h; done))
  rename_i hk
  subst hk
  simp only [aU] at h
  subst h
  refine ⟨by simp [Instr.sameNow],fun h => ?_⟩
  simp only [beq_iff_eq] at h
  subst h
  rw [show (10000 : Nat) = 9999 + 1 from rfl]
  simp [Instr.sameBits]
 ·rename_i a b
  cases hx with
  | s _ a' ha =>
  cases hy with
  | s _ b' hb =>
  simp only [aU] at h
  have ea : a'.toList = a'.data.toList:=ByteArray.toList_eq a'
  have eb : b'.toList = b'.data.toList:=ByteArray.toList_eq b'
  have e1 : uL a b = (a'.data.toList == b'.data.toList):=by rw [← ha,← hb,aHf]
  have e2 : (a'.data.toList == b'.data.toList) = (a' == b'):=by
   rw [Bool.eq_iff_iff,MapKept.bytes_beq]
   simp only [beq_iff_eq]
   constructor
   ·intro h
    cases a'; cases b'
    simp only [ByteArray.mk.injEq]
    exact Array.toList_inj.1 h
   ·intro h; rw [h]
  refine ⟨by simp [Instr.sameNow,← h,e1,e2],fun hr => ?_⟩
  rw [← h,e1,e2,MapKept.bytes_beq] at hr
  subst hr
  rw [show (10000 : Nat) = 9999 + 1 from rfl]
  simp [Instr.sameBits,MapKept.bytes_beq]
theorem sQ {d : TypeDesc} {k : DV} {k' : Value} (hk : VR ρ k k') (nv : DV) : ∀ (es : List (DV × DV)) (l : List MapEntry) (i0 : Nat) (r : Option DV),
  VRs ρ (es.map (·.1)) (l.map (·.key)) → VRs ρ (es.map (·.2)) (l.map (·.val)) → fQ d k es = some r →
  (r = none ∧ Instr.findNow d k' l i0 = some none ∧ rT d k nv es = es ++ [(k,nv)]) ∨
  (∃ v j v' e,r = some v ∧ Instr.findNow d k' l i0 = some (some (i0 + j,v')) ∧ VR ρ v v' ∧ l[j]? = some e ∧ Instr.sameBits 10000 e.key k' = true ∧ rT d k nv es = es.set j (k,nv))
 | [],[],i0,r,_,_,h=>by
  simp only [fQ,aU] at h
  exact .inl ⟨h.symm,rfl,rfl⟩
 | [],_ :: _,_,_,h,_,_=>by cases h
 | _ :: _,[],_,_,h,_,_=>by cases h
 | e :: es,m :: l,i0,r,h1,h2,h=>by
  simp only [List.map_cons] at h1 h2
  cases h1 with
  | cons _ _ _ _ hk1 hs1 =>
  cases h2 with
  | cons _ _ _ _ hv1 hs2 =>
  simp only [fQ] at h
  split at h
  ·rename_i hkd
   simp only [aU] at h
   obtain ⟨a1,a2⟩:=wC hk hk1 hkd
   refine .inr ⟨e.2,0,m.val,m,h.symm, ?_,hv1,rfl,a2 rfl, ?_⟩
   ·simp [Instr.findNow,a1]
   ·simp [rT,hkd]
  ·rename_i hkd
   obtain ⟨a1,a2⟩:=wC hk hk1 hkd
   rcases sQ hk nv es l (i0 + 1) r hs1 hs2 h with ⟨b1,b2,b3⟩ | ⟨v,j,v',e',b1,b2,b3,b4,b5,b6⟩
   ·exact .inl ⟨b1,by simp [Instr.findNow,a1,b2],by simp [rT,hkd,b3]⟩
   ·exact .inr ⟨v,j + 1,v',e',b1,by simp [Instr.findNow,a1,b2]; omega,b3,by simpa using b4,b5,by simp [rT,hkd,b6]⟩
  ·cases h
theorem gV {kt : TypeId} {d : TypeDesc} {k' : Value} {em : Bool} (ht : P.underlying kt = some d) (hd : iP d = true) : (Instr.checkKey em 10000 kt k').run P w = .ok () w:=by
 rw [show (10000 : Nat) = 9999 + 1 from rfl]
 unfold Instr.checkKey
 simp only [Sem.run_bind,rU ht,Result.andThen_ok]
 cases d <;> simp [iP] at hd <;> simp
theorem aPx {t : TypeId} {v : Value} {em : Bool} {n : Nat} (ht : tD P t = true) : (Instr.checkKey em (n + 1) t v).run P w = .ok () w:=by
 unfold tD at ht
 unfold Instr.checkKey
 split at ht
 ·rename_i hu
  simp only [Sem.run_bind,rU hu,Result.andThen_ok]
  simp
 ·rename_i hu
  simp only [Sem.run_bind,rU hu,Result.andThen_ok]
  simp
 ·cases ht
theorem bEi {t : TypeId} {cs : Array Value} {off : Nat} (ht : tD P t = true) (ho : off < cs.size) : ∃ v,(part t cs off).run P w = .ok v w:=by
 unfold tD at ht
 refine ⟨cs[off], ?_⟩
 unfold part isAgg
 split at ht
 ·rename_i hu
  simp only [Sem.run_bind,rU hu,Result.andThen_ok]
  simp [Array.getElem?_eq_getElem ho]
 ·rename_i hu
  simp only [Sem.run_bind,rU hu,Result.andThen_ok]
  simp [Array.getElem?_eq_getElem ho]
 ·cases ht
theorem aQg {kt : TypeId} {d : TypeDesc} {k : DV} {k' : Value} {em : Bool} (ht : P.underlying kt = some d) (hd : uM P d = true) (hk : VR ρ k k') (ho : bHe d k = true) : (Instr.checkKey em 10000 kt k').run P w = .ok () w:=by
 cases d with
 | struct fs =>
  cases k with
  | a cs =>
   cases hk with
   | a _ x' hx =>
   have hl:=VRs.length hx
   change (fs.toList.all fun f=>tD P f.type) = true at hd
   change (fs.toList.all fun f=>Nat.blt f.offset cs.length) = true at ho
   rw [List.all_eq_true] at hd ho
   rw [show (10000 : Nat) = 9998 + 1 + 1 from rfl]
   unfold Instr.checkKey
   simp only [Sem.run_bind,rU ht,Result.andThen_ok]
   rw [← Array.forIn_toList]
   have key : ∀ l : List Field,(∀ f ∈ l,f ∈ fs.toList) → (forIn (m:=Sem) l PUnit.unit fun f _=>do
     if f.name ≠ "_" then
      Instr.checkKey em (9998 + 1) f.type (← part f.type x' f.offset)
      pure (ForInStep.yield PUnit.unit)
     else pure (ForInStep.yield PUnit.unit)).run P w = .ok PUnit.unit w:=by
    intro l hl'
    induction l with
    | nil=>rfl
    | cons f l ih =>
     have hf:=hl' f List.mem_cons_self
     have h1:=hd f hf
     have h2:=ho f hf
     have h3 : f.offset < x'.size:=by
      have : f.offset < cs.length:=by simpa using h2
      rw [hl] at this
      simpa using this
     obtain ⟨v,hv⟩:=bEi (w:=w) h1 h3
     have ih':=ih fun g hg=>hl' g (List.mem_cons_of_mem _ hg)
     rw [List.forIn_cons]
     by_cases hn : f.name ≠ "_"
     ·simp only [if_pos hn,Sem.run_bind,hv,Result.andThen_ok,aPx h1,Sem.run_pure]
      exact ih'
     ·simp only [if_neg hn,Sem.run_bind,Sem.run_pure,Result.andThen_ok]
      exact ih'
   have:=key fs.toList fun f hf=>hf
   simp at this ⊢
   rw [this]
   rfl
  | _=>cases ho
 | _=>cases hd
theorem yL (H : HR G ρ h w) {x : DV} {x' : Value} {es : List (DV × DV)} (hx : VR ρ x x') (he : hU x h = some es) :
  ∃ l : List MapEntry,VRs ρ (es.map (·.1)) (l.map (·.key)) ∧ VRs ρ (es.map (·.2)) (l.map (·.val)) ∧
   ((x' = .map none ∧ l = []) ∨ (∃ r arr clock,x' = .map (some r) ∧ arr.toList = l ∧ w.heap[r]? = some (.map arr clock))):=by
 unfold hU at he
 split at he <;> (try (cases he; done))
 ·simp only [aU] at he
  subst he
  cases hx
  exact ⟨[],.nil,.nil,.inl ⟨rfl,rfl⟩⟩
 ·split at he <;> (try (cases he; done))
  rename_i b _ es' hb
  simp only [aU] at he
  subst he
  cases hx with
  | m _ L hL =>
   obtain ⟨_,_,xo,h3,arr,cl,rfl,h4,h5,_⟩:=H.itr b _ L rfl hb hL
   exact ⟨arr.toList,h4,h5,.inr ⟨_,_,_,rfl,rfl,h3⟩⟩
theorem rK {fs : Array Field} {k : DV} : ∀ {es : List (DV × DV)} {r : Option DV},fQ (.struct fs) k es = some r → es = [] ∧ r = none
 | [],r,h=>by
  simp only [fQ,aU] at h
  exact ⟨rfl,h.symm⟩
 | e :: es,r,h=>by
  simp only [fQ,uR] at h
  cases h
theorem aTm (H : HR G ρ h w) {t kt et : TypeId} {d : TypeDesc} {i : TypeInfo} {z : Value} {ok : Bool} {x k : DV} {x' k' : Value} (ht : P.underlying t = some (.map kt et))
  (hd : P.underlying kt = some d) (hi : P.info? et = some i) (hz : i.zero = some z) (hkt : uM P d = true) (hks : bHe d k = true) (hx : VR ρ x x') (hk : VR ρ k k') (hp : eH d (zvD z) ok x k h = some (v,h1)) :
  SemOk P G ρ w v h1 (Instr.lookup t x' k' ok):=by
 cases d with
 | struct fs =>
  unfold eH at hp
  split at hp <;> (try (cases hp; done))
  rename_i es he
  obtain ⟨l,l1,l2,l3⟩:=yL H hx he
  split at hp <;> (try (cases hp; done))
  ·rename_i hf
   obtain ⟨_,e⟩:=rK hf
   cases e
  ·rename_i hf
   obtain ⟨e,_⟩:=rK hf
   subst e
   have hl : l = []:=by
    cases l with
    | nil=>rfl
    | cons _ _=>cases l1
   subst hl
   simp only [aU,bG] at hp
   obtain ⟨rfl,rfl⟩:=hp
   have hck:=fun em=>aQg (w:=w) (em:=em) hd hkt hk hks
   have hrun : (Instr.lookup t x' k' ok).run P w = .ok (if ok then .tuple #[z,.bool false] else z) w:=by
    have hf : (Instr.findKey kt k' []).run P w = .ok none w:=by
     simp only [Instr.findKey,Sem.run_bind,rU hd,Result.andThen_ok,Instr.findNow,Sem.run_pure]
    rcases l3 with ⟨rfl,_⟩ | ⟨r0,arr,cl,rfl,h2,h3⟩
    ·simp only [Instr.lookup,Sem.run_bind,rU ht,Result.andThen_ok,Sem.run_pure,hck,hf,rZ hi hz]
    ·have hg : (getObj r0).run P w = .ok (.map arr cl) w:=by simp [getObj,Sem.run,h3]
     simp only [Instr.lookup,Sem.run_bind,rU ht,Result.andThen_ok,Sem.run_pure,hg,hck,h2,hf,rZ hi hz]
   refine SemOk.pure H ?_ hrun
   cases ok
   ·exact dZv ρ z
   ·exact .t _ _ (.cons _ _ _ _ (dZv ρ z) (.cons _ _ _ _ (.b false) .nil))
 | _=>cases hkt
theorem bFj (H : HR G ρ h w) {t kt et : TypeId} {d : TypeDesc} {i : TypeInfo} {z : Value} {ok : Bool} {x k : DV} {x' k' : Value} (ht : P.underlying t = some (.map kt et))
  (hd : P.underlying kt = some d) (hi : P.info? et = some i) (hz : i.zero = some z) (hkt : iP d = true) (hx : VR ρ x x') (hk : VR ρ k k') (hp : eH d (zvD z) ok x k h = some (v,h1)) :
  SemOk P G ρ w v h1 (Instr.lookup t x' k' ok):=by
 unfold eH at hp
 split at hp <;> (try (cases hp; done))
 rename_i es he
 obtain ⟨l,l1,l2,l3⟩:=yL H hx he
 have hrun : ∀ (r : Option (Nat × Value)) (v' : Value) (b : Bool),Instr.findNow d k' l 0 = some r → (match r with
   | some (_,v)=>v' = v ∧ b = true
   | none=>v' = z ∧ b = false) → (Instr.lookup t x' k' ok).run P w = .ok (if ok then .tuple #[v',.bool b] else v') w:=by
  intro r v' b hr hv
  have hf : ∀ es : List MapEntry,es = l → (Instr.findKey kt k' es).run P w = .ok r w:=by
   intro es hes
   simp only [Instr.findKey,Sem.run_bind,rU hd,Result.andThen_ok,hes,hr,Sem.run_pure]
  rcases l3 with ⟨rfl,rfl⟩ | ⟨r0,arr,cl,rfl,h2,h3⟩
  ·simp only [Instr.lookup,Sem.run_bind,rU ht,Result.andThen_ok,Sem.run_pure,gV hd hkt,hf _ rfl]
   cases r with
   | none=>obtain ⟨rfl,rfl⟩:=hv; simp [rZ hi hz]
   | some p=>obtain ⟨rfl,rfl⟩:=hv; simp
  ·have hg : (getObj r0).run P w = .ok (.map arr cl) w:=by simp [getObj,Sem.run,h3]
   simp only [Instr.lookup,Sem.run_bind,rU ht,Result.andThen_ok,Sem.run_pure,hg,gV hd hkt,hf _ h2]
   cases r with
   | none=>obtain ⟨rfl,rfl⟩:=hv; simp [rZ hi hz]
   | some p=>obtain ⟨rfl,rfl⟩:=hv; simp
 have hvr : ∀ (u : DV) (u' : Value) (b : Bool),VR ρ u u' → VR ρ (bif ok then .t [u,.b b] else u) (if ok then .tuple #[u',.bool b] else u'):=by
  intro u u' b hu
  cases ok
  ·exact hu
  ·exact .t _ _ (.cons _ _ _ _ hu (.cons _ _ _ _ (.b b) .nil))
 split at hp <;> (try (cases hp; done))
 ·rename_i u hf
  simp only [aU,bG] at hp
  obtain ⟨rfl,rfl⟩:=hp
  rcases sQ hk .u es l 0 _ l1 l2 hf with ⟨b1,_⟩ | ⟨v,j,v',e',b1,b2,b3,_⟩
  ·cases b1
  ·simp only [aU] at b1
   subst b1
   exact SemOk.pure H (hvr _ _ true b3) (hrun _ v' true b2 ⟨rfl,rfl⟩)
 ·rename_i hf
  simp only [aU,bG] at hp
  obtain ⟨rfl,rfl⟩:=hp
  rcases sQ hk .u es l 0 _ l1 l2 hf with ⟨b1,b2,_⟩ | ⟨v,j,v',e',b1,b2,b3,_⟩
  ·exact SemOk.pure H (hvr _ _ false (dZv ρ z)) (hrun _ z false b2 ⟨rfl,rfl⟩)
  ·cases b1
theorem VRs.set {ρ : Ren} : ∀ {x : List DV} {x' : List Value} (j : Nat) {u : DV} {u' : Value},VRs ρ x x' → VR ρ u u' → VRs ρ (x.set j u) (x'.set j u')
 | _,_,_,_,_,.nil,_=>.nil
 | _,_,0,_,_,.cons x x' l l' h hs,hu=>.cons _ _ _ _ hu hs
 | _,_,j + 1,_,_,.cons x x' l l' h hs,hu=>.cons _ _ _ _ h (VRs.set j hs hu)
theorem mB {α β : Type} (f : α → β) (l : List α) (j : Nat) (x : α) : (l.set j x).map f = (l.map f).set j (f x):=by
 simp [List.map_set]
theorem oM {arr : Array MapEntry} {j : Nat} {f : MapEntry → MapEntry} (hf : ∀ e,(f e).born = e.born) (h : ∀ (i : Nat) (e : MapEntry),arr[i]? = some e → e.born = i) : ∀ (i : Nat) (e : MapEntry),(arr.modify j f)[i]? = some e → e.born = i:=by
 intro i e he
 rw [Array.getElem?_modify] at he
 split at he
 ·cases hg : arr[i]? with
  | none=>rw [hg] at he; cases he
  | some e0=>rw [hg] at he; simp at he; rw [← he,hf]; exact h i e0 hg
 ·exact h i e he
theorem aDt {arr : Array MapEntry} {x : MapEntry} (hx : x.born = arr.size) (h : ∀ (i : Nat) (e : MapEntry),arr[i]? = some e → e.born = i) : ∀ (i : Nat) (e : MapEntry),(arr.push x)[i]? = some e → e.born = i:=by
 intro i e he
 rw [Array.getElem?_push] at he
 split at he
 ·rename_i hi
  simp only [aU] at he
  rw [← he,hx,hi]
 ·exact h i e he
theorem aAt {α : Type} {x : α} : ∀ {l : List α} {j : Nat},l[j]? = some x → l.set j x = l
 | [],_,h=>by simp at h
 | y :: l,0,h=>by simp at h; subst h; rfl
 | y :: l,j + 1,h=>by simp at h; simp [aAt h]
theorem aRt (H : HR G ρ h w) {t : TypeId} (hp : dW h = some (v,h1)) : SemOk P G ρ w v h1 (Instr.makeMap t none):=by
 simp only [dW,aU,bG] at hp
 obtain ⟨rfl,rfl⟩:=hp
 refine ⟨_,w.alloc (.map #[] 0),.map (some w.heap.size), ?_,H.exx _,.m _ ⟨w.heap.size,0,0,none⟩ (bP _ _ _),H.newSg _ rfl _ ⟨#[],0,rfl,.nil,.nil,rfl,by simp⟩,dT H.sz _⟩
 simp only [Instr.makeMap,Sem.run_bind,Sem.run_pure,Result.andThen_ok,run_newObj]
 rfl
theorem aCr (H : HR G ρ h w) {t kt et : TypeId} {d : TypeDesc} {x k u : DV} {x' k' u' : Value} (ht : P.underlying t = some (.map kt et))
  (hd : P.underlying kt = some d) (hkt : iP d = true) (hx : VR ρ x x') (hk : VR ρ k k') (hu : VR ρ u u') (hp : dS d x k u h = some (v,h1)) :
  ∃ w',(Instr.mapUpdate t x' k' u').run P w = .ok () w' ∧ HR G ρ h1 w' ∧ Kp G w w' ∧ v = aS:=by
 unfold dS at hp
 split at hp <;> (try (cases hp; done))
 rename_i b
 split at hp <;> (try (cases hp; done))
 rename_i es hb
 split at hp <;> (try (cases hp; done))
 rename_i r hf
 simp only [aU,bG] at hp
 obtain ⟨rfl,rfl⟩:=hp
 cases hx with
 | m _ L hL =>
  obtain ⟨o1,o2,xo,h3,arr,cl,rfl,h4,h5,h6,h7⟩:=H.itr b _ L rfl hb hL
  have hg : (getObj L.bl).run P w = .ok (.map arr cl) w:=by simp [getObj,Sem.run,h3]
  have hset : ∀ xo1,(setObj L.bl xo1).run P w = .ok () { w with heap:=w.heap.setIfInBounds L.bl xo1 }:=by intro xo1; simp [setObj,Sem.run,h3]
  have hlen : es.length = arr.toList.length:=by have:=h4.length; simpa using this
  rcases sQ hk u es arr.toList 0 r h4 h5 hf with ⟨b1,b2,b3⟩ | ⟨v0,j,v',e',b1,b2,b3,b4,b5,b6⟩
  ·obtain ⟨s1,s2⟩:=H.setSg (ob:=.mp es) (ob1:=.mp (rT d k u es)) (xo1:=.map (arr.push { key:=k',val:=u',born:=cl }) (cl + 1)) rfl rfl hb hL h3 trivial
    ⟨_,_,rfl,by rw [b3]; simpa using h4.append (.cons _ _ _ _ hk .nil),by rw [b3]; simpa using h5.append (.cons _ _ _ _ hu .nil),by simp [h6],aDt h6 h7⟩
   refine ⟨_, ?_,s1,s2,rfl⟩
   have hfk : (Instr.findKey kt k' arr.toList).run P w = .ok none w:=by
    simp only [Instr.findKey,Sem.run_bind,rU hd,Result.andThen_ok,b2,Sem.run_pure]
   simp only [Instr.mapUpdate,Sem.run_bind,rU ht,Result.andThen_ok,hg,gV hd hkt,hfk,hset]
  ·obtain ⟨s1,s2⟩:=H.setSg (ob:=.mp es) (ob1:=.mp (rT d k u es)) (xo1:=.map (arr.modify j fun e=>{ e with key:=k',val:=u' }) cl) rfl rfl hb hL h3 trivial
    ⟨_,_,rfl,by
     rw [b6,mB]
     have e : (arr.modify j fun e=>{ e with key:=k',val:=u' }).toList.map (·.key) = (arr.toList.map (·.key)).set j k':=by
      simp [Array.toList_modify,List.modify_eq_set,b4]
     rw [e]; exact h4.set j hk,by
     rw [b6,mB]
     have e : (arr.modify j fun e=>{ e with key:=k',val:=u' }).toList.map (·.val) = (arr.toList.map (·.val)).set j u':=by
      simp [Array.toList_modify,List.modify_eq_set,b4]
     rw [e]; exact h5.set j hu,by simpa using h6,oM (fun _=>rfl) h7⟩
   refine ⟨_, ?_,s1,s2,rfl⟩
   rw [Nat.zero_add] at b2
   have hfk : (Instr.findKey kt k' arr.toList).run P w = .ok (some (j,v')) w:=by
    simp only [Instr.findKey,Sem.run_bind,rU hd,Result.andThen_ok,b2,Sem.run_pure]
   have hkey : ((arr[j]?).map (·.key)).getD k' = e'.key:=by
    rw [← Array.getElem?_toList,b4]; rfl
   simp only [Instr.mapUpdate,Sem.run_bind,rU ht,Result.andThen_ok,hg,gV hd hkt,hfk,hkey,Instr.keyThatStays,b5,if_true,Sem.run_pure,hset]
theorem aLj (H : HR G ρ h w) {t e : TypeId} {i : TypeInfo} {z : Value} {n c : DV} {n' c' : Value} (ht : P.underlying t = some (.slice e)) (hi : P.info? e = some i) (hz : i.zero = some z)
  (h0 : 0 < i.size) (hzs : z.cells.size = i.size) (hn : VR ρ n n') (hc : VR ρ c c') (hp : bU i.size i.bytes (zsD z) n c h = some (v,h1)) :
  SemOk P G ρ w v h1 (Instr.makeSlice t n' c'):=by
 unfold bU at hp
 split at hp <;> (try (cases hp; done))
 rename_i n c
 split at hp <;> (try (cases hp; done))
 rename_i hb
 obtain ⟨b1,b2,b3,b4,b5⟩:=hb
 simp only [aU,bG] at hp
 obtain ⟨rfl,rfl⟩:=hp
 cases hn
 cases hc
 have hw : ∀ m : Int,0 ≤ m → m < 2 ^ 32 → IntKind.i64.wrap m = m:=by
  intro m h1 h2
  simp [IntKind.wrap,IntKind.signed,IntKind.bits,Int.bmod]
  omega
 have hwc:=hw c (by omega) b5
 have hwn:=hw n b1 (by omega)
 obtain ⟨m,rfl⟩:=Int.eq_ofNat_of_zero_le (show 0 ≤ c by omega)
 obtain ⟨k,rfl⟩:=Int.eq_ofNat_of_zero_le b1
 simp only [Int.toNat_natCast] at b3 b4 ⊢
 have hbig : ∀ j : Nat,j ≤ m → ((decide ((j : Int) < 0) || decide ((i.bytes : Int) * j > 2 ^ 48)) = false):=by
  intro j hj
  have h1 : j * i.bytes ≤ m * i.bytes:=Nat.mul_le_mul_right _ hj
  have h2 : ((i.bytes : Int) * j) = ((j * i.bytes : Nat) : Int):=by rw [Nat.mul_comm]; simp
  rw [h2]
  simp
  omega
 have hroom : ¬ (m * i.bytes > roomBytes):=by unfold roomBytes; omega
 obtain ⟨out',hout,hcells⟩ : ∃ out' : Array Value,out' = (Array.range (m * i.size)).map ((if m * i.size = 0 then (#[] : Array Value) else z.cells)[· % (if m * i.size = 0 then (#[] : Array Value) else z.cells).size]!) ∧
   VRs ρ (List.replicate m (zsD z)).flatten out'.toList:=by
  refine ⟨_,rfl, ?_⟩
  by_cases h : m * i.size = 0
  ·have : m = 0:=by rcases Nat.mul_eq_zero.1 h with e | e <;> omega
   subst this
   simp
   exact .nil
  ·rw [if_neg h,← hzs,sD z.cells m (by omega)]
   exact dYb (dZr ρ z) m
 have hrow:=H.newRow .ex (List.replicate m (zsD z)).flatten out'.toList out' e 0 hcells (fun j u hj=>by simpa using hj) (.inl ⟨rfl,rfl⟩)
 refine ⟨_,w.alloc (.cells out' e),.slice (some ⟨w.heap.size,0,none⟩) k m, ?_,H.exx _,.l _ 0 k m ⟨w.heap.size,0,0,none⟩ (bP _ _ _),hrow,dT H.sz _⟩
 have ha : ∀ (q : Nat),(asInt (.int .i64 (q : Int))).run P w = .ok (q : Int) w:=by intro q; simp [asInt,asIntOf]
 have hkm : ¬ ((k : Int) < 0):=by omega
 have hkm2 : ¬ ((k : Int) > (m : Int)):=by omega
 simp only [Instr.makeSlice,Sem.run_bind,rU ht,rI hi,Result.andThen_ok,ha,hwc,hwn]
 have hb1:=hbig m (Nat.le_refl _)
 simp only [hb1,Bool.false_or,hkm,hkm2,decide_false,Bool.or_self,Bool.false_eq_true,if_false]
 simp only [Int.toNat_natCast,askRoom,hroom,if_false,Sem.run_bind,Sem.run_pure,Result.andThen_ok,rS hi]
 by_cases h : m * i.size = 0
 ·simp only [h,if_true,Sem.run_pure,Result.andThen_ok] at hout ⊢
  simp only [Sem.run_bind,Sem.run_pure,Result.andThen_ok]
  rw [← hout]
  simp [newRow]
 ·simp only [h,if_false,Sem.run_bind,Sem.run_pure,Result.andThen_ok,rZ hi hz] at hout ⊢
  rw [← hout]
  simp [newRow]
theorem bTk (H : HR G ρ h w) {t e : TypeId} {i : TypeInfo} {z : Value} {ty : TypeId} {x : DV} {x' : Value}
  (ht : P.underlying t = some (.slice e)) (hi : P.info? e = some i) (hz : i.zero = some z) (h0 : 0 < z.cells.size)
  (hx : VR ρ x x') (hp : kG (zsD z) x h = some (v,h1)) : SemOk P G ρ w v h1 (Builtin.clear_ #[t] ty #[x']):=by
 unfold kG at hp
 split at hp <;> (try (cases hp; done))
 ·simp only [aU,bG] at hp
  obtain ⟨rfl,rfl⟩:=hp
  cases hx
  refine SemOk.pure H (.t [] #[] .nil) ?_
  simp only [Builtin.clear_,List.getElem?_toArray,List.getElem?_cons_zero,Sem.run_bind,rU ht,Result.andThen_ok]
  simp
 ·simp only [aU,bG] at hp
  obtain ⟨rfl,rfl⟩:=hp
  cases hx
  refine SemOk.pure H (.t [] #[] .nil) ?_
  simp only [Builtin.clear_,List.getElem?_toArray,List.getElem?_cons_zero,Sem.run_bind,rU ht,Result.andThen_ok]
  simp
 ·rename_i b o n cap
  split at hp
  ·rename_i hn
   subst hn
   simp only [aU,bG] at hp
   obtain ⟨rfl,rfl⟩:=hp
   cases hx
   refine SemOk.pure H (.t [] #[] .nil) ?_
   simp only [Builtin.clear_,List.getElem?_toArray,List.getElem?_cons_zero,Sem.run_bind,rU ht,Result.andThen_ok]
   simp
  ·rename_i hn
   split at hp <;> (try (cases hp; done))
   rename_i h' hst
   simp only [aU,bG] at hp
   obtain ⟨rfl,rfl⟩:=hp
   cases hx with
   | l _ _ _ _ L hL =>
    have hvs : VRs ρ (List.replicate n (zsD z)).flatten (Builtin.zeroCells z.cells n).toList:=by
     unfold Builtin.zeroCells
     rw [sD z.cells n h0]
     exact dYb (dZr ρ z) n
    obtain ⟨w',s1,s2,s3⟩:=fV (P:=P) H hst hL hvs
    refine ⟨ρ,w',.tuple #[], ?_,Ex.refl G ρ,.t [] #[] .nil,s2,s3⟩
    obtain ⟨n,rfl⟩ : ∃ m,n = m + 1:=⟨n - 1,by omega⟩
    simp only [Builtin.clear_,List.getElem?_toArray,List.getElem?_cons_zero,Sem.run_bind,rU ht,Result.andThen_ok,rZ hi hz,s1,Sem.run_pure]
theorem aBs {d : TypeDesc} {k : DV} {k' : Value} (hk : VR ρ k k') : ∀ (es : List (DV × DV)) (l : List MapEntry) (i0 : Nat) (r : Option (Nat × DV)),
  VRs ρ (es.map (·.1)) (l.map (·.key)) → VRs ρ (es.map (·.2)) (l.map (·.val)) → aLy d k es i0 = some r →
  (r = none ∧ Instr.findNow d k' l i0 = some none) ∨
  (∃ v j v' e,r = some (i0 + j,v) ∧ Instr.findNow d k' l i0 = some (some (i0 + j,v')) ∧ VR ρ v v' ∧ l[j]? = some e ∧ e.val = v' ∧ Instr.sameBits 10000 e.key k' = true)
 | [],[],i0,r,_,_,h=>by
  simp only [aLy,aU] at h
  exact .inl ⟨h.symm,rfl⟩
 | [],_ :: _,_,_,h,_,_=>by cases h
 | _ :: _,[],_,_,h,_,_=>by cases h
 | e :: es,m :: l,i0,r,h1,h2,h=>by
  simp only [List.map_cons] at h1 h2
  cases h1 with
  | cons _ _ _ _ hk1 hs1 =>
  cases h2 with
  | cons _ _ _ _ hv1 hs2 =>
  simp only [aLy] at h
  split at h
  ·rename_i hkd
   simp only [aU] at h
   obtain ⟨a1,a2⟩:=wC hk hk1 hkd
   exact .inr ⟨e.2,0,m.val,m,by simpa using h.symm,by simp [Instr.findNow,a1],hv1,rfl,rfl,a2 rfl⟩
  ·rename_i hkd
   obtain ⟨a1,a2⟩:=wC hk hk1 hkd
   rcases aBs hk es l (i0 + 1) r hs1 hs2 h with ⟨b1,b2⟩ | ⟨v,j,v',e',b1,b2,b3,b4,b5,b6⟩
   ·exact .inl ⟨b1,by simp [Instr.findNow,a1,b2]⟩
   ·exact .inr ⟨v,j + 1,v',e',by rw [b1]; congr 2; omega,by simp [Instr.findNow,a1,b2]; omega,b3,by simpa using b4,b5,b6⟩
  ·cases h
theorem aLv (H : HR G ρ h w) {t kt et : TypeId} {d : TypeDesc} {i : TypeInfo} {z : Value} {x k : DV} {x' k' : Value} (ht : P.underlying t = some (.map kt et))
  (hd : P.underlying kt = some d) (hi : P.info? et = some i) (hz : i.zero = some z) (hkt : iP d = true) (hx : VR ρ x x') (hk : VR ρ k k') (hp : jC d (zvD z) x k h = some (v,h1)) :
  SemOk P G ρ w v h1 (Instr.mapEntry t x' k'):=by
 unfold jC at hp
 split at hp <;> (try (cases hp; done))
 rename_i b
 split at hp <;> (try (cases hp; done))
 rename_i es hb
 cases hx with
 | m _ L hL =>
  obtain ⟨o1,o2,xo,h3,arr,cl,rfl,h4,h5,h6,h7⟩:=H.itr b _ L rfl hb hL
  have hg : (getObj L.bl).run P w = .ok (.map arr cl) w:=by simp [getObj,Sem.run,h3]
  have hset : ∀ xo1,(setObj L.bl xo1).run P w = .ok () { w with heap:=w.heap.setIfInBounds L.bl xo1 }:=by intro xo1; simp [setObj,Sem.run,h3]
  have hlen : es.length = arr.size:=by have:=h4.length; simpa using this
  split at hp <;> (try (cases hp; done))
  ·rename_i j u hf
   simp only [aU,bG] at hp
   obtain ⟨rfl,rfl⟩:=hp
   rcases aBs hk es arr.toList 0 _ h4 h5 hf with ⟨b1,_⟩ | ⟨v0,j0,v',e',b1,b2,b3,b4,b5,b6⟩
   ·cases b1
   ·simp only [aU,bG,Nat.zero_add] at b1
    obtain ⟨rfl,rfl⟩:=b1
    rw [Nat.zero_add] at b2
    have b4' : arr[j]? = some e':=by rw [← Array.getElem?_toList]; exact b4
    obtain ⟨s1,s2⟩:=H.setSg (ob:=.mp es) (ob1:=.mp (es.set j (k,u))) (xo1:=.map (arr.modify j fun e=>{ e with key:=k' }) cl) rfl rfl hb hL h3 trivial
     ⟨_,_,rfl,by
      rw [mB]
      have e : (arr.modify j fun e=>{ e with key:=k' }).toList.map (·.key) = (arr.toList.map (·.key)).set j k':=by
       simp [Array.toList_modify,List.modify_eq_set,b4]
      rw [e]; exact h4.set j hk,by
      rw [mB]
      have e : (arr.modify j fun e=>{ e with key:=k' }).toList.map (·.val) = (arr.toList.map (·.val)).set j v':=by
       simp [Array.toList_modify,List.modify_eq_set,b4,b5]
      rw [e]; exact h5.set j b3,by simpa using h6,oM (fun _=>rfl) h7⟩
    refine ⟨ρ,_,.tuple #[v',goInt j], ?_,Ex.refl G ρ,.t _ _ (.cons _ _ _ _ b3 (.cons _ _ _ _ (.i _ _) .nil)),s1,s2⟩
    have hfk : (Instr.findKey kt k' arr.toList).run P w = .ok (some (j,v')) w:=by
     simp only [Instr.findKey,Sem.run_bind,rU hd,Result.andThen_ok,b2,Sem.run_pure]
    have hkey : ((arr[j]?).map (·.key)).getD k' = e'.key:=by rw [b4']; rfl
    have hborn : ((arr[j]?).map (fun x=>(x.born : Int))).getD 0 = (j : Int):=by rw [b4']; show ((e'.born : Int)) = j; rw [h7 j e' b4']
    simp only [Instr.mapEntry,Sem.run_bind,rU ht,Result.andThen_ok,hg,gV hd hkt,hfk,hkey,hborn,Instr.keyThatStays,b6,if_true,Sem.run_pure,hset]
  ·rename_i hf
   simp only [aU,bG] at hp
   obtain ⟨rfl,rfl⟩:=hp
   rcases aBs hk es arr.toList 0 _ h4 h5 hf with ⟨b1,b2⟩ | ⟨v0,j0,v',e',b1,_⟩
   ·obtain ⟨s1,s2⟩:=H.setSg (ob:=.mp es) (ob1:=.mp (es ++ [(k,zvD z)])) (xo1:=.map (arr.push { key:=k',val:=z,born:=cl }) (cl + 1)) rfl rfl hb hL h3 trivial
     ⟨_,_,rfl,by simpa using h4.append (.cons _ _ _ _ hk .nil),by simpa using h5.append (.cons _ _ _ _ (dZv ρ z) .nil),by simp [h6],aDt h6 h7⟩
    refine ⟨ρ,_,.tuple #[z,goInt cl], ?_,Ex.refl G ρ,.t _ _ (.cons _ _ _ _ (dZv ρ z) (.cons _ _ _ _ (by rw [hlen,← h6]; exact .i _ _) .nil)),s1,s2⟩
    have hfk : (Instr.findKey kt k' arr.toList).run P w = .ok none w:=by
     simp only [Instr.findKey,Sem.run_bind,rU hd,Result.andThen_ok,b2,Sem.run_pure]
    simp only [Instr.mapEntry,Sem.run_bind,rU ht,Result.andThen_ok,hg,gV hd hkt,hfk,rZ hi hz,Sem.run_pure,hset]
   ·cases b1
theorem aCk (H : HR G ρ h w) {t : TypeId} {x s u : DV} {x' s' u' : Value} (hx : VR ρ x x') (hs : VR ρ s s') (hu : VR ρ u u') (hp : fX x s u h = some (v,h1)) :
  ∃ w',(Instr.entryStore t x' s' u').run P w = .ok () w' ∧ HR G ρ h1 w' ∧ Kp G w w' ∧ v = aS:=by
 unfold fX at hp
 split at hp <;> (try (cases hp; done))
 rename_i b j
 split at hp <;> (try (cases hp; done))
 rename_i es hb
 split at hp <;> (try (cases hp; done))
 rename_i e hj
 simp only [aU,bG] at hp
 obtain ⟨rfl,rfl⟩:=hp
 cases hs
 cases hx with
 | m _ L hL =>
  obtain ⟨o1,o2,xo,h3,arr,cl,rfl,h4,h5,h6,h7⟩:=H.itr b _ L rfl hb hL
  have hg : (getObj L.bl).run P w = .ok (.map arr cl) w:=by simp [getObj,Sem.run,h3]
  have hset : ∀ xo1,(setObj L.bl xo1).run P w = .ok () { w with heap:=w.heap.setIfInBounds L.bl xo1 }:=by intro xo1; simp [setObj,Sem.run,h3]
  have hlen : es.length = arr.size:=by have:=h4.length; simpa using this
  have hjl : j < es.length:=by
   rcases Nat.lt_or_ge j es.length with h | h
   ·exact h
   ·rw [List.getElem?_eq_none h] at hj; cases hj
  have hja : arr[j]? = some (arr[j]'(by omega)):=Array.getElem?_eq_getElem (by omega)
  have hji : arr.toList[j]? = some (arr[j]'(by omega)):=by rw [Array.getElem?_toList]; exact hja
  obtain ⟨s1,s2⟩:=H.setSg (ob:=.mp es) (ob1:=.mp (es.set j (e.1,u))) (xo1:=.map (arr.modify j fun e=>{ e with val:=u' }) cl) rfl rfl hb hL h3 trivial
   ⟨_,_,rfl,by
    rw [mB]
    have e1 : (arr.modify j fun e=>{ e with val:=u' }).toList.map (·.key) = arr.toList.map (·.key):=by
     simp [Array.toList_modify,List.modify_eq_set,hji]
     exact aAt (by simp [hji])
    have e2 : (es.map (·.1)).set j e.1 = es.map (·.1):=aAt (by simp [hj])
    rw [e1,e2]; exact h4,by
    rw [mB]
    have e : (arr.modify j fun e=>{ e with val:=u' }).toList.map (·.val) = (arr.toList.map (·.val)).set j u':=by
     simp [Array.toList_modify,List.modify_eq_set,hji]
    rw [e]; exact h5.set j hu,by simpa using h6,oM (fun _=>rfl) h7⟩
  refine ⟨_, ?_,s1,s2,rfl⟩
  have hfi : arr.findIdx? (fun e=>(e.born : Int) == (j : Int)) = some j:=by
   rw [Array.findIdx?_eq_some_iff_getElem]
   refine ⟨by omega, ?_, ?_⟩
   ·simp [h7 j _ hja]
   ·intro m hm
    have : arr[m]? = some (arr[m]'(by omega)):=Array.getElem?_eq_getElem (by omega)
    simp [h7 m _ this]
    omega
  have hai : ∀ q : Int,(asInt (.int .i64 q)).run P w = .ok q w:=by intro q; simp [asInt,asIntOf]
  have hfi' : arr.findIdx? (fun e=>(e.born : Int) == Int.ofNat j) = some j:=hfi
  simp only [Instr.entryStore,Sem.run_bind,Result.andThen_ok,hg,Sem.run_pure,hai,hfi',hset]
end
end Go.Dd

namespace Go.Dd
open Go.RowKit (Below)
section
variable {P : Program} {G : Gd} {ρ : Ren} {w : World} {h h1 : Hp} {v : DV}
theorem oK (w : World) (o : Obj) : (w.alloc o).heap = w.heap.push o:=rfl
theorem vI (w : World) (arr : Array Value) (t : TypeId) (fr : Nat × Nat) (a : Addr) : (w.alloc (.cells arr t fr)).cell? a = (w.alloc (.cells arr t)).cell? a:=by
 obtain ⟨bl,off,sp⟩:=a
 unfold World.cell?
 simp only [oK,Array.getElem?_push]
 by_cases e : bl = w.heap.size
 ·simp [e]
 ·simp [e]
theorem dZw (arr : Array Value) (t : TypeId) (m n : Nat) (hm : arr.size ≤ m) (hB : G.B ≤ w.heap.size) (H : HR G ρ h (w.alloc (.cells arr t))) : HR G ρ h (w.alloc (.cells arr t (m,n))):=by
 have hp : ∀ k,k ≠ w.heap.size → (w.alloc (.cells arr t (m,n))).heap[k]? = (w.alloc (.cells arr t)).heap[k]? := by
  intro k hk
  simp only [oK,Array.getElem?_push]
  rw [if_neg hk,if_neg hk]
 have hs : (w.alloc (.cells arr t (m,n))).heap.size = (w.alloc (.cells arr t)).heap.size:=by simp
 exact {
  gl:=fun k hk=>by rw [hp k (by omega)]; exact H.gl k hk
  sz:=by rw [hs]; exact H.sz
  nx:=H.nx
  ro:=H.ro
  dom:=H.dom
  lt:=H.lt
  cell:=fun b k l L i v h1 h2 h3 h4=>by rw [vI]; exact H.cell b k l L i v h1 h2 h3 h4
  spare:=fun b l L es j h1 h2 h3=>by rw [vI]; exact H.spare b l L es j h1 h2 h3
  free:=fun b a h1 h2=>by
   refine ⟨?_,(H.free b a h1 h2).2⟩
   obtain ⟨v,hv⟩:=H.lt_cell h1
   by_cases e : a.block = w.heap.size
   ·have hlt : a.off < arr.size:=by
     obtain ⟨bl,off,sp⟩:=a
     simp only at e
     subst e
     unfold World.cell? at hv
     simp only [oK,Array.getElem?_push_size] at hv
     cases sp with
     | none =>
      rcases Nat.lt_or_ge off arr.size with h | h
      ·exact h
      ·simp [Array.getElem?_eq_none h] at hv
     | some s=>simp at hv
    unfold World.frozen?
    rw [e]
    simp only [oK,Array.getElem?_push_size]
    have : ¬ m ≤ a.off:=by omega
    simp [this]
   ·have:=(H.free b a h1 h2).1
    unfold World.frozen? at this ⊢
    rw [hp _ e]
    exact this
  inj:=H.inj
  ex:=H.ex
  grone:=H.grone
  itr:=fun b o L h1 h2 h3=>by
   obtain ⟨a1,a2,x,a3,a4⟩:=H.itr b o L h1 h2 h3
   refine ⟨a1,a2,x, ?_,a4⟩
   by_cases e : L.bl = w.heap.size
   ·exfalso
    rw [e] at a3
    simp only [oK,Array.getElem?_push_size,aU] at a3
    subst a3
    cases o with
    | row k l=>exact a4
    | big n t=>exact a4
    | mi t=>exact a4
    | it s pos=>obtain ⟨bs,q,_⟩:=a4; cases q
    | mp es=>obtain ⟨arr,cl,q,_⟩:=a4; cases q
   ·rw [hp _ e]; exact a3
  itj:=H.itj }
theorem bIa (H : HR G ρ h w) {src dst e : TypeId} {x : DV} {x' : Value} (hs : P.underlying src = some .string) (hd : P.underlying dst = some (.slice e)) (he : P.underlying e = some (.int .u8)) (hx : VR ρ x x') (hp : oQ x h = some (v,h1)) :
  SemOk P G ρ w v h1 (convert src dst x'):=by
 unfold oQ at hp
 split at hp <;> (try (cases hp; done))
 rename_i l
 simp only [aU,bG] at hp
 obtain ⟨rfl,rfl⟩:=hp
 cases hx with
 | s _ bs hb =>
 subst hb
 have hlen : (bs.data.toList.map (·.toNat)).length = bs.size:=by rw [List.length_map,Array.length_toList]; rfl
 have hge:=grownCap_ge w bs.size 0 e
 have hcs : VRs ρ ((bs.data.toList.map (·.toNat)).map fun (c : Nat)=>DV.i .u8 (c : Int)) (bs.data.toList.map fun b=>Value.int .u8 b.toNat):=by
  rw [List.map_map]
  exact VRs.map _ _ (fun c=>.i _ _) _
 have hrow:=H.drew.newRow (.gr 1) _ _ (bytesRow bs (grownCap w bs.size 0 e)) e (grownCap w bs.size 0 e - bs.size) hcs
  (fun j y hj=>by
   have hlt : j < bs.data.size:=by
    rcases Nat.lt_or_ge j (bs.data.toList.map fun b=>Value.int .u8 b.toNat).length with h | h
    ·simpa using h
    ·rw [List.getElem?_eq_none h] at hj; cases hj
   rw [bytesRow_at bs _ j hlt]
   simp only [List.getElem?_map,Array.getElem?_toList,Array.getElem?_eq_getElem hlt,Option.map_some,aU] at hj
   rw [← hj])
  (.inr ⟨1,rfl,by
   simp only [bytesRow,List.length_map,Array.length_toList,Array.size_append,Array.size_map,Array.size_replicate,Nat.mul_one]
   exact Nat.le_refl _,fun y hy=>by
    simp only [List.mem_map] at hy
    obtain ⟨c,_,rfl⟩:=hy
    rfl⟩)
 have hrow2:=dZw (w:=w.drew) (bytesRow bs (grownCap w bs.size 0 e)) e (bytesRow bs (grownCap w bs.size 0 e)).size ((bytesRow bs (grownCap w bs.size 0 e)).size + 1) (Nat.le_refl _) H.drew.sz.1 hrow
 refine ⟨_,_,_,run_bytes_of_string w src dst e bs hs hd he, ?_, ?_,hrow2, ?_⟩
 ·exact H.drew.exx _
 ·have hvr : VR (lO ρ h.next ⟨w.drew.heap.size,0,grownCap w bs.size 0 e - bs.size,none⟩) (.l h.next 0 bs.size bs.size) (.slice (some (eC ⟨w.drew.heap.size,0,grownCap w bs.size 0 e - bs.size,none⟩ 0)) bs.size (bs.size + (grownCap w bs.size 0 e - bs.size))):=.l _ _ _ _ _ (bP _ _ _)
  rw [show bs.size + (grownCap w bs.size 0 e - bs.size) = grownCap w bs.size 0 e by omega] at hvr
  rw [hlen]
  exact hvr
 ·exact (Kp.refl G w).drew.trans (dT (by simpa using H.sz) _)
theorem cJw (H : HR G ρ h w) {t u e : TypeId} {i : TypeInfo} {ty : TypeId} {x y : DV} {x' y' : Value} (ht : P.underlying t = some (.slice e)) (hi : P.info? e = some i) (h0 : 0 < i.size)
  (hx : VR ρ x x') (hy : VR ρ y y') (hp : rJ i.size x y h = some (v,h1)) : SemOk P G ρ w v h1 (Builtin.copy_ #[t,u] ty #[x',y']):=by
 unfold rJ at hp
 split at hp <;> (try (cases hp; done))
 rename_i b o len cap
 split at hp <;> (try (cases hp; done))
 rename_i n new hsrc
 split at hp <;> (try (cases hp; done))
 rename_i hn
 split at hp <;> (try (cases hp; done))
 rename_i h' hst
 simp only [aU,bG] at hp
 obtain ⟨rfl,rfl⟩:=hp
 obtain ⟨new',n1,n2,n3,n4,n5⟩:=bJa (P:=P) H h0 hy hsrc
 cases hx with
 | l _ _ _ _ L hL =>
  obtain ⟨w',s1,s2,s3⟩:=fV (P:=P) H hst hL n1
  refine ⟨ρ,w',.int .i64 n, ?_,Ex.refl G ρ,.i _ _,s2,s3⟩
  have hmin : Nat.min n len = n:=Nat.min_eq_left hn
  simp only [Builtin.copy_,List.getElem?_toArray,List.getElem?_cons_zero,List.getElem?_cons_succ,Sem.run_bind,rU ht,Result.andThen_ok,n4,rS hi,hmin,(n5 w rfl).2,s1,Sem.run_pure,goInt]
theorem dBa (H : HR G ρ h w) {op : BinOp} {t : TypeId} {x y : DV} {x' y' : Value} {ox oy : Operand} (ht : ∃ ms,P.underlying t = some (.interface ms))
  (hx : VR ρ x x') (hy : VR ρ y y') (hp : aGr op (bBp oy) x y h = some (v,h1)) :
  SemOk P G ρ w v h1 (do eqGuard op t ox oy x' y'; binOp op t x' y'):=by
 obtain ⟨ms,ht⟩:=ht
 unfold aGr at hp
 split at hp <;> (try (cases hp; done))
 ·split at hp <;> (try (cases hp; done))
  rename_i hc
  simp only [aU,bG] at hp
  obtain ⟨rfl,rfl⟩:=hp
  cases hx
  cases hy
  obtain ⟨k,rfl⟩ : ∃ k,oy = .const k:=by cases oy <;> first | exact ⟨_,rfl⟩ | cases hc
  refine SemOk.pure H (.b _) ?_
  have hg : (eqGuard .eql t ox (.const k) .nilIface .nilIface).run P w = .ok () w:=by unfold eqGuard; simp
  simp only [Sem.run_bind,hg,Result.andThen_ok]
  have he : ∀ d,(Op.equalIn (d + 1) t .nilIface .nilIface).run P w = .ok true w:=fun d=>by simp [Op.equalIn,rU ht]
  have hq : (Op.equal t .nilIface .nilIface).run P w = .ok true w:=he 9999
  simp [binOp,hq]
 ·split at hp <;> (try (cases hp; done))
  rename_i hc
  simp only [aU,bG] at hp
  obtain ⟨rfl,rfl⟩:=hp
  cases hx
  cases hy
  obtain ⟨k,rfl⟩ : ∃ k,oy = .const k:=by cases oy <;> first | exact ⟨_,rfl⟩ | cases hc
  refine SemOk.pure H (.b _) ?_
  have hg : (eqGuard .neq t ox (.const k) .nilIface .nilIface).run P w = .ok () w:=by unfold eqGuard; simp
  simp only [Sem.run_bind,hg,Result.andThen_ok]
  have he : ∀ d,(Op.equalIn (d + 1) t .nilIface .nilIface).run P w = .ok true w:=fun d=>by simp [Op.equalIn,rU ht]
  have hq : (Op.equal t .nilIface .nilIface).run P w = .ok true w:=he 9999
  simp [binOp,hq]
 ·simp only [aU,bG] at hp
  obtain ⟨rfl,rfl⟩:=hp
  cases hy
  cases hx
  rename_i t1 v1 v2 hv1
  refine SemOk.pure H (.b _) ?_
  have hg:=iX (P:=P) (w:=w) (op:=.eql) (t:=t) (x:=ox) (y:=oy) (a:=.iface t1 v2) (b:=.nilIface) (by simp) (by simp)
  simp only [Sem.run_bind,hg,Result.andThen_ok]
  have he : ∀ d,(Op.equalIn (d + 1) t (.iface t1 v2) .nilIface).run P w = .ok false w:=fun d=>by simp [Op.equalIn,rU ht]
  have hq : (Op.equal t (.iface t1 v2) .nilIface).run P w = .ok false w:=he 9999
  simp [binOp,hq]
 ·simp only [aU,bG] at hp
  obtain ⟨rfl,rfl⟩:=hp
  cases hy
  cases hx
  rename_i t1 v1 v2 hv1
  refine SemOk.pure H (.b _) ?_
  have hg:=iX (P:=P) (w:=w) (op:=.neq) (t:=t) (x:=ox) (y:=oy) (a:=.iface t1 v2) (b:=.nilIface) (by simp) (by simp)
  simp only [Sem.run_bind,hg,Result.andThen_ok]
  have he : ∀ d,(Op.equalIn (d + 1) t (.iface t1 v2) .nilIface).run P w = .ok false w:=fun d=>by simp [Op.equalIn,rU ht]
  have hq : (Op.equal t (.iface t1 v2) .nilIface).run P w = .ok false w:=he 9999
  simp [binOp,hq]
theorem aUe {t : TypeId} {name : String} {f : FuncId} (hf : bXd P t name = some f) (v' : Value) (k : Nat) : (method (k + 1) t v' name).run P w = .ok (f,v') w:=by
 unfold bXd at hf
 split at hf <;> (try (cases hf; done))
 rename_i i hi
 split at hf <;> (try (cases hf; done))
 rename_i m hm
 split at hf <;> (try (cases hf; done))
 rename_i e ht hpth hfn
 simp only [aU] at hf
 subst hf
 simp only [method,Sem.run_bind,rI hi,Result.andThen_ok,hm,Sem.run_pure,hpth,follow,hfn,receiverAt,rU ht,Place.get]
end
end Go.Dd

namespace Go.Dd
open Go.RowKit (Below)
def EnvR (ρ : Ren) (env : bA) (a : Act) : Prop:=∀ t,VR ρ (env t) (a.tmps.getD t undef)
theorem aW {ρ : Ren} {env : bA} {a : Act} (he : EnvR ρ env a) (x : Operand) : VR ρ (opr env x) (a.eval x):=by
 cases x with
 | tmp t=>exact he t
 | const v=>exact dZv ρ v
 | global g=>exact .u _
 | func f=>exact .f f [] [] #[] #[] .nil .nil
def kV (G : Gd) (ρ : Ren) (w : World) (v : DV) (h1 : Hp) : Ending → World → Prop:=fun e w' =>
 ∃ ρ' v',e = .returned v' ∧ Ex G ρ ρ' ∧ VR ρ' v v' ∧ HR G ρ' h1 w' ∧ Kp G w w'
def CallFn (P : Program) (G : Gd) (ρ : Ren) (w : World) (v : DV) (h1 : Hp) (g : FuncId) (args : Array Value) : Prop :=
 ((callFunc g args).run P w = .ok (.enter g args) w ∧ Calls P g args w (kV G ρ w v h1)) ∨
 (∃ ρ' w' v',(callFunc g args).run P w = .ok (.value v') w' ∧ Ex G ρ ρ' ∧ VR ρ' v v' ∧ HR G ρ' h1 w' ∧ Kp G w w')
def gG (P : Program) (G : Gd) (g : FuncId) (F : List DV → Hp → aH) : Prop :=
 ∀ args h v h1,F args h = some (v,h1) → ∀ ρ w (args' : Array Value),HR G ρ h w → VRs ρ args args'.toList → CallFn P G ρ w v h1 g args'
structure OkC (C : Cfg) (rec : FuncId → List DV → Hp → aH) : Prop where
 own : ∀ G g F,C.I g = some F → gG C.P G g F
 fns : ∀ G g,gG C.P G g (rec g)
def OpOk (P : Program) (G : Gd) (ρ : Ren) (w : World) (v : DV) (h1 : Hp) (a : Act) (o : Oper) : Prop :=
 (∃ ρ' w' v',((execOp a.eval o).run P w = .ok (.value v') w' ∨ ((execOp a.eval o).run P w = .ok .skip w' ∧ v' = undef)) ∧ Ex G ρ ρ' ∧ VR ρ' v v' ∧ HR G ρ' h1 w' ∧ Kp G w w') ∨
 (∃ g args,(execOp a.eval o).run P w = .ok (.enter g args) w ∧ Calls P g args w (kV G ρ w v h1))
theorem dXx {P : Program} {G : Gd} {ρ : Ren} {w : World} {v : DV} {h1 : Hp} {a : Act} {o : Oper} {s : Sem Value} (he : execOp a.eval o = (do pure (.value (← s)))) (hs : SemOk P G ρ w v h1 s) : OpOk P G ρ w v h1 a o:=by
 obtain ⟨ρ',w',v',r,h2,h3,h4,h5⟩:=hs
 refine .inl ⟨ρ',w',v',.inl ?_,h2,h3,h4,h5⟩
 rw [he]
 simp [r]
theorem OR.map {ρ : Ren} {env : bA} {a : Act} (he : EnvR ρ env a) (x : Option Operand) : OR ρ (x.map (opr env)) (x.map a.eval):=by
 cases x with
 | none=>exact .none
 | some y=>exact .some _ _ (aW he y)
theorem dZf {ρ : Ren} {env : bA} {a : Act} (he : EnvR ρ env a) : ∀ l : List Operand,VRs ρ (l.map (opr env)) (l.map a.eval)
 | []=>.nil
 | x :: l=>.cons _ _ _ _ (aW he x) (dZf he l)
section
variable {C : Cfg} {G : Gd} {rec : FuncId → List DV → Hp → aH} {ρ : Ren} {w : World} {h h1 : Hp} {v : DV} {a : Act} {env : bA}
theorem aRw (H : HR G ρ h w) (he : EnvR ρ env a) {o : Oper} {c : Call} {b : Builtin} (ho : o.op = .call c) (hc : c.callee = .builtin b)
  (hp : kN C b c.argTypes.toList (c.args.toList.map (opr env)) h = some (v,h1)) : OpOk C.P G ρ w v h1 a o:=by
 have hrun : ∀ s : Sem Value,(∀ cons : Array Bool,builtin b c.argTypes o.type cons (c.args.map a.eval) = (do pure (.value (← s)) : Sem Next)) → execOp a.eval o = (do pure (.value (← s)) : Sem Next):=by
  intro s hs
  unfold execOp
  simp only [ho,resolve,hc,pure_bind,invoke]
  exact hs _
 unfold kN at hp
 split at hp <;> (try (cases hp; done))
 ·
  split at hp <;> (try (cases hp; done))
  rename_i t x hts hxs
  have hat : c.argTypes = #[t]:=Array.toList_inj.1 (by simpa using hts)
  obtain ⟨ox,hca,hox⟩ : ∃ ox,c.args = #[ox] ∧ opr env ox = x:=by
   rcases c with ⟨callee,args,ats⟩
   simp only at hxs ⊢
   have:=congrArg List.length hxs
   match args,this with
   | ⟨[y]⟩,_=>simp at hxs; exact ⟨y,rfl,hxs⟩
  have hx:=aW he ox
  rw [hox] at hx
  refine dXx (hrun (Builtin.len_ #[t] o.type #[a.eval ox]) (by intro cons; rw [hat,hca]; simp [builtin])) ?_
  split at hp <;> (try (cases hp; done))
  ·rename_i ht
   unfold cM at hp
   split at hp <;> (try (cases hp; done))
   rename_i l
   simp only [aU,bG] at hp
   obtain ⟨rfl,rfl⟩:=hp
   generalize a.eval ox = xv at hx ⊢
   cases hx with
   | s _ bs hb =>
    have hlen : l.length = bs.size:=by rw [← hb,List.length_map,Array.length_toList]; rfl
    refine SemOk.pure H (by constructor) ?_
    simp only [Builtin.len_,Sem.run_bind,List.getElem?_toArray,List.getElem?_cons_zero,rU ht,Result.andThen_ok,goInt,Sem.run_pure,hlen]
  ·rename_i e ht
   unfold cB at hp
   split at hp <;> (try (cases hp; done))
   ·simp only [aU,bG] at hp
    obtain ⟨rfl,rfl⟩:=hp
    generalize a.eval ox = xv at hx ⊢
    cases hx with
    | l _ _ _ _ L hL =>
     refine SemOk.pure H (by constructor) ?_
     simp only [Builtin.len_,Sem.run_bind,List.getElem?_toArray,List.getElem?_cons_zero,rU ht,Result.andThen_ok,goInt,Sem.run_pure]
   ·simp only [aU,bG] at hp
    obtain ⟨rfl,rfl⟩:=hp
    generalize a.eval ox = xv at hx ⊢
    cases hx with
    | lx _ _ _ _ L hL =>
     refine SemOk.pure H (by constructor) ?_
     simp only [Builtin.len_,Sem.run_bind,List.getElem?_toArray,List.getElem?_cons_zero,rU ht,Result.andThen_ok,goInt,Sem.run_pure]
   ·simp only [aU,bG] at hp
    obtain ⟨rfl,rfl⟩:=hp
    generalize a.eval ox = xv at hx ⊢
    cases hx
    refine SemOk.pure H (by constructor) ?_
    simp only [Builtin.len_,Sem.run_bind,List.getElem?_toArray,List.getElem?_cons_zero,rU ht,Result.andThen_ok,goInt,Sem.run_pure]
    simp
   ·simp only [aU,bG] at hp
    obtain ⟨rfl,rfl⟩:=hp
    generalize a.eval ox = xv at hx ⊢
    cases hx
    refine SemOk.pure H (by constructor) ?_
    simp only [Builtin.len_,Sem.run_bind,List.getElem?_toArray,List.getElem?_cons_zero,rU ht,Result.andThen_ok,goInt,Sem.run_pure]
    simp
 ·
  unfold tN at hp
  split at hp <;> (try (cases hp; done))
  rename_i x y hxs
  obtain ⟨ox,oy,hca,hox,hoy⟩ : ∃ ox oy,c.args = #[ox,oy] ∧ opr env ox = x ∧ opr env oy = y:=by
   rcases c with ⟨callee,args,ats⟩
   simp only at hxs ⊢
   have:=congrArg List.length hxs
   match args,this with
   | ⟨[y1,y2]⟩,_=>simp at hxs; exact ⟨y1,y2,rfl,hxs.1,hxs.2⟩
  have hx:=aW he ox
  have hy:=aW he oy
  rw [hox] at hx
  rw [hoy] at hy
  refine dXx (hrun (Builtin.min_ c.argTypes o.type #[a.eval ox,a.eval oy]) (by intro cons; rw [hca]; simp [builtin])) ?_
  unfold cDk at hp
  split at hp <;> (try (cases hp; done))
  simp only [aU,bG] at hp
  obtain ⟨rfl,rfl⟩:=hp
  generalize a.eval ox = xv at hx ⊢
  generalize a.eval oy = yv at hy ⊢
  cases hx
  cases hy
  refine SemOk.pure H (by constructor) ?_
  simp [Builtin.min_,Builtin.min2]
 ·
  unfold tF at hp
  split at hp <;> (try (cases hp; done))
  rename_i x y hxs
  obtain ⟨ox,oy,hca,hox,hoy⟩ : ∃ ox oy,c.args = #[ox,oy] ∧ opr env ox = x ∧ opr env oy = y:=by
   rcases c with ⟨callee,args,ats⟩
   simp only at hxs ⊢
   have:=congrArg List.length hxs
   match args,this with
   | ⟨[y1,y2]⟩,_=>simp at hxs; exact ⟨y1,y2,rfl,hxs.1,hxs.2⟩
  have hx:=aW he ox
  have hy:=aW he oy
  rw [hox] at hx
  rw [hoy] at hy
  refine dXx (hrun (Builtin.max_ c.argTypes o.type #[a.eval ox,a.eval oy]) (by intro cons; rw [hca]; simp [builtin])) ?_
  unfold dBd at hp
  split at hp <;> (try (cases hp; done))
  simp only [aU,bG] at hp
  obtain ⟨rfl,rfl⟩:=hp
  generalize a.eval ox = xv at hx ⊢
  generalize a.eval oy = yv at hy ⊢
  cases hx
  cases hy
  refine SemOk.pure H (by constructor) ?_
  simp [Builtin.max_,Builtin.max2]
 ·
  split at hp <;> (try (cases hp; done))
  rename_i t x hts hxs
  have hat : c.argTypes = #[t]:=Array.toList_inj.1 (by simpa using hts)
  obtain ⟨ox,hca,hox⟩ : ∃ ox,c.args = #[ox] ∧ opr env ox = x:=by
   rcases c with ⟨callee,args,ats⟩
   simp only at hxs ⊢
   have:=congrArg List.length hxs
   match args,this with
   | ⟨[y]⟩,_=>simp at hxs; exact ⟨y,rfl,hxs⟩
  have hx:=aW he ox
  rw [hox] at hx
  refine dXx (hrun (Builtin.clear_ #[t] o.type #[a.eval ox]) (by intro cons; rw [hat,hca]; simp [builtin])) ?_
  split at hp <;> (try (cases hp; done))
  ·rename_i e ht
   split at hp <;> (try (cases hp; done))
   rename_i i hi
   split at hp <;> (try (cases hp; done))
   rename_i z hz
   split at hp <;> (try (cases hp; done))
   rename_i h0
   exact bTk H ht hi hz h0 hx hp
 ·
  split at hp <;> (try (cases hp; done))
  rename_i t u s x hts hxs
  have hat : c.argTypes = #[t,u]:=Array.toList_inj.1 (by simpa using hts)
  obtain ⟨ox,oy,hca,hox,hoy⟩ : ∃ ox oy,c.args = #[ox,oy] ∧ opr env ox = s ∧ opr env oy = x:=by
   rcases c with ⟨callee,args,ats⟩
   simp only at hxs ⊢
   have:=congrArg List.length hxs
   match args,this with
   | ⟨[y1,y2]⟩,_=>simp at hxs; exact ⟨y1,y2,rfl,hxs.1,hxs.2⟩
  have hx:=aW he ox
  have hy:=aW he oy
  rw [hox] at hx
  rw [hoy] at hy
  refine dXx (hrun (Builtin.append_ #[t,u] o.type #[a.eval ox,a.eval oy]) (by intro cons; rw [hat,hca]; simp [builtin])) ?_
  have hmain : ∀ e d,C.P.underlying t = some (.slice e) → C.P.underlying u = some d → (∀ k,d ≠ .int k) → (match C.P.info? e with
    | some i=>match i.zero with
     | some z=>if 0 < i.size ∧ 0 < i.bytes ∧ z.cells.size = i.size then bB i.size i.bytes s x h else none
     | none=>none
    | none=>none) = some (v,h1) → SemOk C.P G ρ w v h1 (Builtin.append_ #[t,u] o.type #[a.eval ox,a.eval oy]):=by
   intro e d ht hu hd hp
   split at hp <;> (try (cases hp; done))
   rename_i i hi
   split at hp <;> (try (cases hp; done))
   rename_i z hz
   split at hp <;> (try (cases hp; done))
   rename_i hc3
   exact bHn H ht hu hd hi hz hc3.1 hc3.2.1 hc3.2.2 hx hy hp
  split at hp <;> (try (cases hp; done))
  ·rename_i e u0 ht hu
   exact hmain e _ ht hu (by simp) hp
  ·rename_i e ht hu
   exact hmain e _ ht hu (by simp) hp
 ·
  split at hp <;> (try (cases hp; done))
  rename_i t u x y hts hxs
  have hat : c.argTypes = #[t,u]:=Array.toList_inj.1 (by simpa using hts)
  obtain ⟨ox,oy,hca,hox,hoy⟩ : ∃ ox oy,c.args = #[ox,oy] ∧ opr env ox = x ∧ opr env oy = y:=by
   rcases c with ⟨callee,args,ats⟩
   simp only at hxs ⊢
   have:=congrArg List.length hxs
   match args,this with
   | ⟨[y1,y2]⟩,_=>simp at hxs; exact ⟨y1,y2,rfl,hxs.1,hxs.2⟩
  have hx:=aW he ox
  have hy:=aW he oy
  rw [hox] at hx
  rw [hoy] at hy
  refine dXx (hrun (Builtin.copy_ #[t,u] o.type #[a.eval ox,a.eval oy]) (by intro cons; rw [hat,hca]; simp [builtin])) ?_
  split at hp <;> (try (cases hp; done))
  rename_i e ht
  split at hp <;> (try (cases hp; done))
  rename_i i hi
  split at hp <;> (try (cases hp; done))
  rename_i h0
  exact cJw H ht hi h0 hx hy hp
theorem aOj (K : OkC C rec) (H : HR G ρ h w) (he : EnvR ρ env a) {o : Oper} (hp : jX C rec o env h = some (v,h1)) : OpOk C.P G ρ w v h1 a o:=by
 unfold jX at hp
 split at hp <;> (try (cases hp; done))
 ·rename_i x ho
  simp only [aU,bG] at hp
  obtain ⟨rfl,rfl⟩:=hp
  exact .inl ⟨ρ,w,a.eval x,.inl (by unfold execOp; simp [ho]),Ex.refl G ρ,aW he x,H,Kp.refl G w⟩
 ·rename_i x ho
  simp only [aU,bG] at hp
  obtain ⟨rfl,rfl⟩:=hp
  exact .inl ⟨ρ,w,a.eval x,.inl (by unfold execOp; simp [ho]),Ex.refl G ρ,aW he x,H,Kp.refl G w⟩
 ·rename_i c x y ho
  have hc:=aW he c
  unfold aP at hp
  split at hp <;> (try (cases hp; done))
  all_goals
   rename_i hcb
   simp only [aU,bG] at hp
   obtain ⟨rfl,rfl⟩:=hp
   rw [hcb] at hc
   generalize hcv : a.eval c = cv at hc
   cases hc
  ·exact .inl ⟨ρ,w,a.eval x,.inl (by unfold execOp; simp [ho,hcv,asBool]),Ex.refl G ρ,aW he x,H,Kp.refl G w⟩
  ·exact .inl ⟨ρ,w,a.eval y,.inl (by unfold execOp; simp [ho,hcv,asBool]),Ex.refl G ρ,aW he y,H,Kp.refl G w⟩
 ·rename_i t ho
  split at hp <;> (try (cases hp; done))
  rename_i i hi
  split at hp <;> (try (cases hp; done))
  rename_i z hz
  exact dXx (by unfold execOp; simp [ho]) (bWh H hi hz hp)
 ·rename_i t x ho
  exact dXx (s:=Instr.box t (a.eval x)) (by unfold execOp; simp [ho]) (dGj H (aW he x) hp)
 ·rename_i t ps ho
  split at hp <;> (try (cases hp; done))
  ·rename_i fs i ht hi
   split at hp <;> (try (cases hp; done))
   rename_i z pl hz hpl
   split at hp <;> (try (cases hp; done))
   rename_i l hl
   exact dXx (by unfold execOp; simp only [ho]) (cAt H (aW he) ht hi hz hpl hl hp)
  ·rename_i n e i ht hi
   split at hp <;> (try (cases hp; done))
   rename_i z ei hz hps he'
   exact dXx (by unfold execOp; simp only [ho]) (bEr (ev:=a.eval) H ht hi hz hps he' hp)
 ·rename_i t n ps ho
  split at hp <;> (try (cases hp; done))
  rename_i e ht
  split at hp <;> (try (cases hp; done))
  rename_i i hi
  split at hp <;> (try (cases hp; done))
  rename_i z hz
  split at hp <;> (try (cases hp; done))
  rename_i hc
  exact dXx (by unfold execOp; simp only [ho]) (aCi H (aW he) ht hi hz hc.1 hc.2.1 hc.2.2 hp)
 ·rename_i t x ho
  split at hp <;> (try (cases hp; done))
  rename_i d i ht hi
  cases hd : jW d with
  | true=>rw [hd] at hp; exact dXx (by unfold execOp; simp [ho]) (bKq H ht hi hd (aW he x) hp)
  | false=>rw [hd] at hp; exact dXx (by unfold execOp; simp [ho]) (bQd H ht hd (aW he x) hp)
 ·rename_i t x y ho
  split at hp <;> (try (cases hp; done))
  rename_i i hi
  obtain ⟨rfl,w',s1,s2,s3⟩:=cAo (P:=C.P) H hi (aW he x) (aW he y) hp
  refine .inl ⟨ρ,w',undef,.inr ⟨?_,rfl⟩,Ex.refl G ρ,.t [] #[] .nil,s2,s3⟩
  unfold execOp
  simp [ho,s1]
 ·rename_i x ho
  obtain ⟨h2,h3,h4⟩:=cXb (P:=C.P) H ho (aW he x) hp
  subst h4
  exact .inl ⟨ρ,w,_,.inl h2,Ex.refl G ρ,h3,H,Kp.refl G w⟩
 ·rename_i op t x y yt ho
  split at hp <;> (try (cases hp; done))
  ·rename_i fs ht
   exact dXx (by unfold execOp; simp only [ho]) (dCd (ox:=x) (oy:=y) H ht (aW he x) (aW he y) hp)
  ·rename_i ms ht
   exact dXx (by unfold execOp; simp only [ho]) (dBa (ox:=x) (oy:=y) H ⟨ms,ht⟩ (aW he x) (aW he y) hp)
  rename_i d _ _ ht
  exact dXx (by unfold execOp; simp only [ho]) (cWy (ox:=x) (oy:=y) H ht (aW he x) (aW he y) hp)
 ·rename_i op t x ho
  exact dXx (by unfold execOp; simp [ho]) (dPa H (aW he x) hp)
 ·rename_i src dst x ho
  split at hp <;> (try (cases hp; done))
  ·rename_i d k hs hd
   exact dXx (by unfold execOp; simp [ho]) (bIu H hs hd (aW he x) hp)
  ·rename_i hs hd
   exact dXx (by unfold execOp; simp [ho]) (bKg H hs hd (aW he x) hp)
  ·rename_i e hs hd
   split at hp <;> (try (cases hp; done))
   rename_i hu
   exact dXx (by unfold execOp; simp [ho]) (bRe H hs hu hd (aW he x) hp)
  ·rename_i e hs hd
   split at hp <;> (try (cases hp; done))
   rename_i hu
   exact dXx (by unfold execOp; simp [ho]) (bIa H hs hd hu (aW he x) hp)
 ·rename_i t x ho
  split at hp <;> (try (cases hp; done))
  rename_i d hni hd
  simp only [aU,bG] at hp
  obtain ⟨rfl,rfl⟩:=hp
  refine .inl ⟨ρ,w,.iface t (a.eval x),.inl ?_,Ex.refl G ρ,.c t _ _ (aW he x),H,Kp.refl G w⟩
  unfold execOp
  simp only [ho,Instr.makeInterface,Sem.run_bind,rU hd,Result.andThen_ok]
  cases d <;> first | rfl | exact absurd rfl (hni _)
 ·rename_i fn first captured ho
  split at hp <;> (try (cases hp; done))
  rename_i g
  simp only [aU,bG] at hp
  obtain ⟨rfl,rfl⟩:=hp
  refine .inl ⟨ρ,w,.func (.func g) (first.map a.eval) (captured.map a.eval),.inl ?_,Ex.refl G ρ, ?_,H,Kp.refl G w⟩
  ·unfold execOp; simp [ho,Instr.makeFunc]
  ·exact .f g _ _ _ _ (by simpa using dZf he first.toList) (by simpa using dZf he captured.toList)
 ·rename_i t x lo hi mx ho
  split at hp <;> (try (cases hp; done))
  ·rename_i ht
   exact dXx (by unfold execOp; simp [ho]) (bHy H ht (aW he x) (OR.map he lo) (OR.map he hi) hp)
  ·rename_i e ht
   split at hp <;> (try (cases hp; done))
   rename_i i hi0
   exact dXx (by unfold execOp; simp [ho]) (bPw H ht hi0 (aW he x) (OR.map he lo) (OR.map he hi) hp)
  ·rename_i e m ht
   split at hp <;> (try (cases hp; done))
   rename_i i hv hi0
   exact dXx (by unfold execOp; simp [ho]) (bHu H ht hi0 (aW he x) (OR.map he lo) (aW he hv) (aW he m) hp)
 ·rename_i t x f ho
  split at hp <;> (try (cases hp; done))
  rename_i fs ht
  split at hp <;> (try (cases hp; done))
  rename_i fl hf
  split at hp <;> (try (cases hp; done))
  rename_i i hi
  split at hp <;> (try (cases hp; done))
  rename_i h0
  exact dXx (by unfold execOp; simp [ho]) (bRg H ht hf hi h0 (aW he x) hp)
 ·rename_i t x f ho
  split at hp <;> (try (cases hp; done))
  rename_i fs ht
  split at hp <;> (try (cases hp; done))
  rename_i fl hf
  split at hp <;> (try (cases hp; done))
  rename_i d i hd hi
  cases ha : jW d with
  | true=>rw [ha] at hp; exact dXx (by unfold execOp; simp [ho]) (bRs H ht hf hd hi ha (aW he x) hp)
  | false=>rw [ha] at hp; exact dXx (by unfold execOp; simp [ho]) (bVo H ht hf hd ha (aW he x) hp)
 ·rename_i t x ix ho
  split at hp <;> (try (cases hp; done))
  ·rename_i e ht
   split at hp <;> (try (cases hp; done))
   rename_i i hi
   exact dXx (by unfold execOp; simp [ho]) (aGv H ht hi (aW he x) (aW he ix) hp)
  ·rename_i n e ht
   split at hp <;> (try (cases hp; done))
   rename_i i hi
   exact dXx (by unfold execOp; simp [ho]) (aNr H ht hi (aW he x) (aW he ix) hp)
 ·rename_i t x ix ho
  split at hp <;> (try (cases hp; done))
  rename_i ht
  exact dXx (by unfold execOp; simp [ho]) (bEk H ht (aW he x) (aW he ix) hp)
 ·rename_i t ho
  exact dXx (s:=Instr.makeMap t none) (by unfold execOp; simp [ho]) (aRt H hp)
 ·rename_i t x k ok ho
  split at hp <;> (try (cases hp; done))
  rename_i kt et ht
  split at hp <;> (try (cases hp; done))
  rename_i d i hd hi
  split at hp <;> (try (cases hp; done))
  rename_i z hz
  cases hkt : iP d with
  | false =>
   rw [hkt] at hp
   simp only [cond_false] at hp
   cases hks : (uM C.P d && bHe d (opr env k)) with
   | false=>rw [hks] at hp; cases hp
   | true =>
    rw [hks] at hp
    simp only [Bool.and_eq_true] at hks
    exact dXx (s:=Instr.lookup t (a.eval x) (a.eval k) ok) (by unfold execOp; simp [ho]) (aTm H ht hd hi hz hks.1 hks.2 (aW he x) (aW he k) hp)
  | true =>
   rw [hkt] at hp
   exact dXx (s:=Instr.lookup t (a.eval x) (a.eval k) ok) (by unfold execOp; simp [ho]) (bFj H ht hd hi hz hkt (aW he x) (aW he k) hp)
 ·rename_i t m k x ho
  split at hp <;> (try (cases hp; done))
  rename_i kt et ht
  split at hp <;> (try (cases hp; done))
  rename_i d hd
  cases hkt : iP d with
  | false=>rw [hkt] at hp; cases hp
  | true =>
   rw [hkt] at hp
   obtain ⟨w',s1,s2,s3,rfl⟩:=aCr (P:=C.P) H ht hd hkt (aW he m) (aW he k) (aW he x) hp
   refine .inl ⟨ρ,w',undef,.inr ⟨?_,rfl⟩,Ex.refl G ρ,.t [] #[] .nil,s2,s3⟩
   unfold execOp
   simp [ho,s1]
 ·rename_i t m k x ho
  split at hp <;> (try (cases hp; done))
  rename_i kt et ht
  split at hp <;> (try (cases hp; done))
  rename_i d hd
  cases hkt : iP d with
  | false=>rw [hkt] at hp; cases hp
  | true =>
   rw [hkt] at hp
   obtain ⟨w',s1,s2,s3,rfl⟩:=aCr (P:=C.P) H ht hd hkt (aW he m) (aW he k) (aW he x) hp
   refine .inl ⟨ρ,w',undef,.inr ⟨?_,rfl⟩,Ex.refl G ρ,.t [] #[] .nil,s2,s3⟩
   unfold execOp
   simp [ho,s1]
 ·rename_i t m k ho
  split at hp <;> (try (cases hp; done))
  rename_i kt et ht
  split at hp <;> (try (cases hp; done))
  rename_i d i hd hi
  split at hp <;> (try (cases hp; done))
  rename_i z hz
  cases hkt : iP d with
  | false=>rw [hkt] at hp; cases hp
  | true =>
   rw [hkt] at hp
   exact dXx (s:=Instr.mapEntry t (a.eval m) (a.eval k)) (by unfold execOp; simp [ho]) (aLv H ht hd hi hz hkt (aW he m) (aW he k) hp)
 ·rename_i t m s x ho
  obtain ⟨w',s1,s2,s3,rfl⟩:=aCk (P:=C.P) (t:=t) H (aW he m) (aW he s) (aW he x) hp
  refine .inl ⟨ρ,w',undef,.inr ⟨?_,rfl⟩,Ex.refl G ρ,.t [] #[] .nil,s2,s3⟩
  unfold execOp
  simp [ho,s1]
 ·rename_i t n c ho
  split at hp <;> (try (cases hp; done))
  rename_i e ht
  split at hp <;> (try (cases hp; done))
  rename_i i hi
  split at hp <;> (try (cases hp; done))
  rename_i z hz
  split at hp <;> (try (cases hp; done))
  rename_i hc
  exact dXx (s:=Instr.makeSlice t (a.eval n) (a.eval c)) (by unfold execOp; simp [ho]) (aLj H ht hi hz hc.1 hc.2 (aW he n) (aW he c) hp)
 ·rename_i x i ho
  exact dXx (by unfold execOp; simp [ho]) (aVf H (aW he x) hp)
 ·rename_i t x ho
  split at hp <;> (try (cases hp; done))
  rename_i ht
  exact dXx (by unfold execOp; simp [ho]) (bVg H ht (aW he x) hp)
 ·rename_i x str ho
  split at hp <;> (try (cases hp; done))
  rename_i hs
  subst hs
  exact dXx (by unfold execOp; simp [ho]) (cGl (ty:=o.type) H (aW he x) hp)
 ·rename_i c ho
  split at hp <;> (try (cases hp; done))
  ·rename_i b hb
   exact aRw H he ho hb hp
  ·rename_i f hf
   have hfv:=aW he f
   unfold jY at hp
   split at hp <;> (try (cases hp; done))
   rename_i g first cap hg
   rw [hg] at hfv
   generalize hfe : a.eval f = fv at hfv
   cases hfv with
   | f _ _ _ x' y' hx hy =>
    have hargs : VRs ρ (first ++ c.args.toList.map (opr env) ++ cap) (x' ++ c.args.map a.eval ++ y').toList:=by
     simpa using (hx.append (dZf he c.args.toList)).append hy
    have hex : execOp a.eval o = callFunc g (x' ++ c.args.map a.eval ++ y'):=by
     unfold execOp
     simp only [ho,resolve,hf,hfe,Deferred.ofValue,pure_bind,invoke]
    have hcf : CallFn C.P G ρ w v h1 g (x' ++ c.args.map a.eval ++ y'):=by
     unfold cD at hp
     split at hp
     ·rename_i F hF
      exact K.own G g F hF _ _ _ _ hp ρ w _ H hargs
     ·exact K.fns G g _ _ _ _ hp ρ w _ H hargs
    rcases hcf with ⟨c1,c2⟩ | ⟨ρ',w',v',c1,c2,c3,c4,c5⟩
    ·exact .inr ⟨g,_,by rw [hex]; exact c1,c2⟩
    ·exact .inl ⟨ρ',w',v',.inl (by rw [hex]; exact c1),c2,c3,c4,c5⟩
  ·rename_i r m hf
   have hrv:=aW he r
   unfold aUm at hp
   split at hp <;> (try (cases hp; done))
   rename_i t v0 hr
   split at hp <;> (try (cases hp; done))
   rename_i g hg
   rw [hr] at hrv
   generalize hre : a.eval r = rv at hrv
   cases hrv with
   | c _ _ v0' hv0 =>
    have hargs : VRs ρ ([] ++ (v0 :: c.args.toList.map (opr env)) ++ []) (#[v0'] ++ c.args.map a.eval).toList:=by
     simpa using VRs.cons _ _ _ _ hv0 (dZf he c.args.toList)
    have hex : (execOp a.eval o).run C.P w = (callFunc g (#[v0'] ++ c.args.map a.eval)).run C.P w:=by
     unfold execOp
     have hk0 : ∀ a b : Nat,0 < b → ∃ k,a + b = k + 1:=fun a b hb=>⟨a + b - 1,by omega⟩
     obtain ⟨k,hk⟩:=hk0 C.P.types.size Made.depth (by decide)
     simp only [ho,resolve,hf,hre,pure_bind,invoke]
     have e0 : (#[Value.iface t v0'] ++ Array.map a.eval c.args)[0]? = some (Value.iface t v0'):=by
      rw [Array.getElem?_append_left (by simp)]
      rfl
     have e1 : (Array.map a.eval c.args).extract 0 c.args.size = Array.map a.eval c.args:=by
      have : c.args.size = (Array.map a.eval c.args).size:=by simp
      rw [this]
      exact Array.extract_size
     simp [callMethod]
     rw [e0]
     simp [hk,aUe hg,e1]
    have hcf : CallFn C.P G ρ w v h1 g (#[v0'] ++ c.args.map a.eval):=by
     unfold jY cD at hp
     dsimp only at hp
     split at hp
     ·rename_i F hF
      exact K.own G g F hF _ _ _ _ hp ρ w _ H hargs
     ·exact K.fns G g _ _ _ _ hp ρ w _ H hargs
    rcases hcf with ⟨c1,c2⟩ | ⟨ρ',w',v',c1,c2,c3,c4,c5⟩
    ·exact .inr ⟨g,_,by rw [hex]; exact c1,c2⟩
    ·exact .inl ⟨ρ',w',v',.inl (by rw [hex]; exact c1),c2,c3,c4,c5⟩
end
end Go.Dd

namespace Go.Dd
open Go.RowKit (Below)
section
variable {C : Cfg} {G : Gd} {rec : FuncId → List DV → Hp → aH} {ρ : Ren} {w : World} {h h1 : Hp} {v : DV} {a : Act} {env : bA} {ops : Array Oper}
def bIp (P : Program) (G : Gd) (ρ : Ren) (w : World) (v : DV) (h h1 : Hp) (a : Act) (ops : Array Oper) (o : Oper) : Prop :=
 (Region.wanted o (yielded ops a.tmps) = true ∧ OpOk P G ρ w v h1 a o) ∨ (Region.wanted o (yielded ops a.tmps) = false ∧ v = aS ∧ h1 = h)
theorem xO (K : OkC C rec) (H : HR G ρ h w) (he : EnvR ρ env a) {o : Oper} (hp : bL C rec ops o env h = some (v,h1)) : bIp C.P G ρ w v h h1 a ops o:=by
 unfold bL at hp
 split at hp
 ·rename_i hg
  exact .inl ⟨by simp [Region.wanted,hg],aOj K H he hp⟩
 ·rename_i j want hg
  have hw : Region.wanted o (yielded ops a.tmps) = (yielded ops a.tmps j == some want):=by simp [Region.wanted,hg]
  have hy : ∀ d,(ops[j]?).bind (·.dst) = some d → ∀ x,a.tmps.getD d undef = .bool x → yielded ops a.tmps j = some x:=by
   intro d hd x hx
   unfold yielded
   rw [hd]
   simp only [Option.bind_some]
   have hx' : a.tmps[d]? = some (.bool x):=by
    cases ht : a.tmps[d]? with
    | none=>simp [ht,undef] at hx
    | some y=>simp [ht] at hx; rw [hx]
   rw [hx']
  unfold gD aXr at hp
  cases hd : (ops[j]?).bind (·.dst) with
  | none =>
   simp only [hd,aS] at hp
   simp only [aU,bG] at hp
   refine .inr ⟨?_,hp.1.symm,hp.2.symm⟩
   rw [hw]
   unfold yielded
   rw [hd]
   rfl
  | some d =>
   simp only [hd] at hp
   have hv:=he d
   split at hp <;> (try (cases hp; done))
   ·rename_i x hx
    rw [hx] at hv
    generalize hvv : a.tmps.getD d undef = vv at hv
    cases hv
    have hyy:=hy d hd x hvv
    split at hp
    ·rename_i hxw
     refine .inl ⟨?_,aOj K H he hp⟩
     rw [hw,hyy]
     simpa using hxw
    ·rename_i hxw
     simp only [aU,bG] at hp
     refine .inr ⟨?_,hp.1.symm,hp.2.symm⟩
     rw [hw,hyy]
     simpa using hxw
   ·rename_i hx
    rw [hx] at hv
    simp only [aU,bG] at hp
    refine .inr ⟨?_,hp.1.symm,hp.2.symm⟩
    rw [hw]
    generalize hvv : a.tmps.getD d undef = vv at hv
    cases hv with
    | t _ x' hx' =>
     unfold yielded
     rw [hd]
     simp only [Option.bind_some]
     cases ht : a.tmps[d]? with
     | none=>rfl
     | some y=>simp [ht] at hvv; subst hvv; rfl
theorem vX {o' : Oper} (hs : bIp C.P G ρ w v h h1 a ops o') {o : Oper} (ho : o' = o) {i : Nat} (hi : ops[i]? = some o) (H : HR G ρ h w) {Kc : Act → World → Prop} {Q : Exit → Act → World → Prop}
  (hn : ∀ ρ' w' v',Ex G ρ ρ' → VR ρ' v v' → HR G ρ' h1 w' → Kp G w w' → Kc (a.put o.dst v') w') : wpOp C.P ops Q i Kc a w:=by
 subst ho
 unfold wpOp
 simp only [hi]
 rcases hs with ⟨hw,hok⟩ | ⟨hw,rfl,rfl⟩
 ·rw [if_pos hw]
  refine .inl ?_
  unfold Oper.wp
  rcases hok with ⟨ρ',w',v',hr | ⟨hr,rfl⟩,h2,h3,h4,h5⟩ | ⟨g,args,hr,hc⟩
  ·rw [hr]; exact hn ρ' w' v' h2 h3 h4 h5
  ·rw [hr]; exact hn ρ' w' _ h2 h3 h4 h5
  ·rw [hr]
   refine hc.mono fun e w'' he => ?_
   obtain ⟨ρ',v',rfl,h2,h3,h4,h5⟩:=he
   exact hn ρ' w'' v' h2 h3 h4 h5
 ·rw [if_neg (by rw [hw]; simp)]
  exact hn ρ w undef (Ex.refl G ρ) (.t [] #[] .nil) H (Kp.refl G w)
theorem mA (a : Act) (d : Option Tmp) (x : Value) : (a.put d x).tmps.size = a.tmps.size:=by
 cases d <;> simp [Act.put]
theorem iW (a : Act) (d : Option Tmp) (x : Value) : (a.put d x).defers = a.defers:=by
 cases d <;> rfl
theorem EnvR.put {ρ' : Ren} (he : EnvR ρ env a) (hext : Ext ρ ρ') {d : Option Tmp} {v' : Value} (hv : VR ρ' v v') {nt : Nat} (hf : dK nt d = true) (hnt : nt ≤ a.tmps.size) : EnvR ρ' (bO env d v) (a.put d v'):=by
 intro t
 cases d with
 | none=>exact (he t).mono hext
 | some d =>
  simp only [dK] at hf
  have hlt : d < a.tmps.size:=Nat.lt_of_lt_of_le (Nat.le_of_ble_eq_true hf) hnt
  simp only [bO,Act.put]
  by_cases e : t = d
  ·subst e
   simp [hlt,hv]
  ·have e' : Nat.beq t d = false:=by
    cases hb : Nat.beq t d with
    | false=>rfl
    | true=>exact absurd (Nat.eq_of_beq_eq_true hb) e
   rw [e']
   have h0:=(he t).mono hext
   simpa [Array.getElem?_setIfInBounds_ne (Ne.symm e)] using h0
theorem EnvR.mono {ρ' : Ren} (he : EnvR ρ env a) (hext : Ext ρ ρ') : EnvR ρ' env a:=fun t=>(he t).mono hext
def aBn (C : Cfg) (rec : FuncId → List DV → Hp → aH) (nt : Nat) (ops : Array Oper) : List Oper → bA → Hp → bA → Hp → Prop
 | [],e,h,e',h'=>e = e' ∧ h = h'
 | o :: os,e,h,e',h'=>dK nt o.dst = true ∧ ∃ v h1,bL C rec ops o e h = some (v,h1) ∧ aBn C rec nt ops os (bO e o.dst v) h1 e' h'
theorem cZ {r : aH} {k : DV → Hp → aH} {z : DV × Hp} (hb : bnd r k = some z) : ∃ v h,r = some (v,h) ∧ k v h = some z:=by
 unfold bnd at hb
 split at hb
 ·rename_i v h; exact ⟨v,h,rfl,hb⟩
 ·cases hb
theorem oE {nt : Nat} : ∀ (l : List Oper) (k : K) (env : bA) (h : Hp) (r : DV × Hp),gY C rec nt ops l k env h = some r → ∃ env' h',aBn C rec nt ops l env h env' h' ∧ k env' h' = some r
 | [],k,env,h,r,hp=>⟨env,h,⟨rfl,rfl⟩,hp⟩
 | o :: os,k,env,h,r,hp=>by
  change cnd (dK nt o.dst) (bnd (bL C rec ops o env h) fun v h'=>gY C rec nt ops os k (bO env o.dst v) h') = some r at hp
  cases hf : dK nt o.dst with
  | false=>rw [hf] at hp; cases hp
  | true =>
   rw [hf] at hp
   obtain ⟨v,h1,h2,h3⟩:=cZ hp
   obtain ⟨env',h',h4,h5⟩:=oE os k _ _ r h3
   exact ⟨env',h',⟨hf,v,h1,h2,h4⟩,h5⟩
theorem aKz (K : OkC C rec) {nt : Nat} {DD : List Deferred} {Q : Exit → Act → World → Prop} {env' : bA} {h' : Hp} : ∀ (l : List Oper) (i : Nat) (ρ : Ren) (env : bA) (h : Hp) (a : Act) (w : World),
  (∀ j : Nat,l[j]? = ops[i + j]?) → aBn C rec nt ops l env h env' h' → HR G ρ h w → EnvR ρ env a → nt ≤ a.tmps.size → a.defers = DD →
  (∀ ρ' a' w',Ex G ρ ρ' → HR G ρ' h' w' → EnvR ρ' env' a' → Kp G w w' → nt ≤ a'.tmps.size → a'.defers = DD → Q .normal a' w') → wpOps C.P ops Q (List.range' i l.length) a w
 | [],i, ρ,env,h,a,w,_,hr,H,he,hnt,hd,hQ=>by
  obtain ⟨rfl,rfl⟩:=hr
  exact hQ ρ a w (Ex.refl G ρ) H he (Kp.refl G w) hnt hd
 | o :: os,i, ρ,env,h,a,w,hl,hr,H,he,hnt,hd,hQ=>by
  obtain ⟨hf,v,h1,hs,hr'⟩:=hr
  have hi : ops[i]? = some o:=by simpa using (hl 0).symm
  simp only [List.length_cons,List.range'_succ]
  rw [wpOps_cons]
  refine vX (xO K H he hs) rfl hi H fun ρ' w' v' h2 h3 h4 h5 => ?_
  refine aKz (DD:=DD) K os (i + 1) ρ' _ h1 _ w' (fun j => ?_) hr' h4 (he.put h2.ext h3 hf hnt) (by rw [mA]; exact hnt) (by rw [iW]; exact hd) fun ρ2 a2 w2 e1 e2 e3 e4 e5 e6 => ?_
  ·have:=hl (j + 1)
   simpa [Nat.add_assoc,Nat.add_comm 1 j] using this
  ·exact hQ ρ2 a2 w2 (h2.trans e1) e2 e3 (h5.trans e4) e5 e6
end
end Go.Dd

namespace Go.Dd
open Go.RowKit (Below)
def PureP (F : Hp → aH) : Prop:=∀ h v h1,F h = some (v,h1) → h1 = h ∧ ∀ h',F h' = some (v,h')
theorem PureP.none : PureP (fun _=>Option.none):=fun _ _ _ h=>by cases h
theorem PureP.val (v : DV) : PureP (fun h=>some (v,h)):=fun h u h1 hp=>by
 simp only [aU,bG] at hp
 obtain ⟨rfl,rfl⟩:=hp
 exact ⟨rfl,fun _=>rfl⟩
theorem dZx {c : Prop} [Decidable c] {F G : Hp → aH} (hF : PureP F) (hG : PureP G) : PureP (fun h=>if c then F h else G h):=by
 by_cases hc : c
 ·simpa [hc] using hF
 ·simpa [hc] using hG
theorem aLw (x : DV) : PureP (aY x):=by cases x <;> first | exact PureP.none | exact PureP.val _
theorem aAp (op : BinOp) (x y : DV) : PureP (aD op x y):=by
 intro h v h1 hp
 unfold aD at *
 split at hp <;> (try (cases hp; done))
 split at hp <;> (try (cases hp; done))
 split at hp <;> (try (cases hp; done))
 rename_i hk _ r hr
 simp only [aU,bG] at hp
 obtain ⟨rfl,rfl⟩:=hp
 exact ⟨rfl,fun h'=>by simp [hk,hr]⟩
theorem bJw (op : BinOp) (x y : DV) : PureP (bI op x y):=by
 intro h v h1 hp
 unfold bI at *
 split at hp <;> (try (cases hp; done))
 split at hp <;> (try (cases hp; done))
 rename_i r hr
 simp only [aU,bG] at hp
 obtain ⟨rfl,rfl⟩:=hp
 exact ⟨rfl,fun h'=>by simp [hr]⟩
theorem aTf (op : BinOp) (x y : DV) : PureP (dZ op x y):=by
 intro h v h1 hp
 unfold dZ at *
 split at hp <;> (try (cases hp; done))
 split at hp <;> (try (cases hp; done))
 rename_i hb
 split at hp <;> (try (cases hp; done)) <;> (simp only [aU,bG] at hp; obtain ⟨rfl,rfl⟩:=hp; exact ⟨rfl,fun h'=>by simp [hb]⟩)
theorem cKn (d : TypeDesc) (pos : Bool) (x y : DV) : PureP (pEq d pos x y):=by
 intro h v h1 hp
 unfold pEq at *
 split at hp <;> (try (cases hp; done))
 rename_i r hr
 simp only [aU,bG] at hp
 obtain ⟨rfl,rfl⟩:=hp
 exact ⟨rfl,fun h'=>by simp [hr]⟩
theorem aOx (op : BinOp) (d : TypeDesc) (x y : DV) : PureP (bKt op d x y):=by
 intro h v h1 hp
 cases d <;> cases op <;> simp only [bKt] at hp ⊢ <;> first | exact aTf _ _ _ h v h1 hp | exact aAp _ _ _ h v h1 hp | exact bJw _ _ _ h v h1 hp | exact cKn _ _ _ _ h v h1 hp | (cases hp; done)
theorem bXz (ok : Bool) (op : BinOp) (x y : DV) : PureP (cBb ok op x y):=by
 intro h v h1 hp
 unfold cBb at *
 split at hp <;> (try (cases hp; done))
 split at hp <;> (try (cases hp; done))
 rename_i hb
 split at hp <;> (try (cases hp; done)) <;> (simp only [aU,bG] at hp; obtain ⟨rfl,rfl⟩:=hp; exact ⟨rfl,fun h'=>by simp [hb]⟩)
theorem bJv (op : BinOp) (x y : DV) : PureP (bLg op x y):=by
 intro h v h1 hp
 unfold bLg at *
 split at hp <;> (try (cases hp; done))
 split at hp <;> (try (cases hp; done))
 rename_i hb
 split at hp <;> (try (cases hp; done)) <;> (simp only [aU,bG] at hp; obtain ⟨rfl,rfl⟩:=hp; exact ⟨rfl,fun h'=>by simp [hb]⟩)
theorem aOi (o2 o3 : Bool) (op : BinOp) (x y : DV) : PureP (cKb o2 o3 op x y):=by
 cases o3 with
 | true=>exact bJv op x y
 | false=>exact bXz o2 op x y
theorem bCw (op : UnOp) (x : DV) : PureP (gQ op x):=by cases op <;> cases x <;> first | exact PureP.val _ | exact PureP.none
theorem qP (k : IntKind) (x : DV) : PureP (dV k x):=by cases x <;> first | exact PureP.val _ | exact PureP.none
theorem aNk (op : BinOp) (c : Bool) (x y : DV) : PureP (aGr op c x y):=by
 intro h v h1 hp
 unfold aGr at hp ⊢
 split at hp <;> (try (cases hp; done))
 ·split at hp <;> (try (cases hp; done))
  rename_i hc
  simp only [aU,bG] at hp
  obtain ⟨rfl,rfl⟩:=hp
  exact ⟨rfl,fun h'=>by simp [hc]⟩
 ·split at hp <;> (try (cases hp; done))
  rename_i hc
  simp only [aU,bG] at hp
  obtain ⟨rfl,rfl⟩:=hp
  exact ⟨rfl,fun h'=>by simp [hc]⟩
 ·simp only [aU,bG] at hp
  obtain ⟨rfl,rfl⟩:=hp
  exact ⟨rfl,fun h'=>rfl⟩
 ·simp only [aU,bG] at hp
  obtain ⟨rfl,rfl⟩:=hp
  exact ⟨rfl,fun h'=>rfl⟩
theorem qW (x : DV) : PureP (aDz x):=by cases x <;> first | exact PureP.val _ | exact PureP.none
theorem oA (x : DV) (lo hi : Option DV) : PureP (cK x lo hi):=by
 intro h v h1 hp
 unfold cK at *
 split at hp <;> (try (cases hp; done))
 split at hp <;> (try (cases hp; done))
 rename_i e he
 split at hp <;> (try (cases hp; done))
 rename_i s hs
 simp only [aU,bG] at hp
 obtain ⟨rfl,rfl⟩:=hp
 exact ⟨rfl,fun h'=>by simp [he,hs]⟩
theorem zK (off : Nat) (x : DV) : PureP (aB off x):=by cases x <;> first | exact PureP.val _ | exact PureP.none
theorem zB (off : Nat) (x : DV) : PureP (uF off x):=by
 intro h v h1 hp
 unfold uF at *
 split at hp <;> (try (cases hp; done))
 split at hp <;> (try (cases hp; done))
 rename_i r hr
 simp only [aU,bG] at hp
 obtain ⟨rfl,rfl⟩:=hp
 exact ⟨rfl,fun h'=>by simp [hr]⟩
theorem aAj (off size : Nat) (x : DV) : PureP (aFw off size x):=by cases x <;> first | exact PureP.val _ | exact PureP.none
theorem oB (size : Nat) (x ix : DV) : PureP (aE size x ix):=by
 intro h v h1 hp
 unfold aE at hp ⊢
 split at hp <;> (try (cases hp; done))
 all_goals
  split at hp <;> (try (cases hp; done))
  rename_i hr
  simp only [aU,bG] at hp
  obtain ⟨rfl,rfl⟩:=hp
  exact ⟨rfl,fun h'=>by rw [if_pos hr]⟩
theorem pM (n size : Nat) (x ix : DV) : PureP (eL n size x ix):=by
 intro h v h1 hp
 unfold eL at *
 split at hp <;> (try (cases hp; done))
 split at hp <;> (try (cases hp; done))
 rename_i hr
 simp only [aU,bG] at hp
 obtain ⟨rfl,rfl⟩:=hp
 exact ⟨rfl,fun h'=>by simp [hr]⟩
theorem vG (x ix : DV) : PureP (bX x ix):=by
 intro h v h1 hp
 unfold bX at *
 split at hp <;> (try (cases hp; done))
 split at hp <;> (try (cases hp; done))
 rename_i h0
 split at hp <;> (try (cases hp; done))
 rename_i c hc
 simp only [aU,bG] at hp
 obtain ⟨rfl,rfl⟩:=hp
 exact ⟨rfl,fun h'=>by simp [h0,hc]⟩
theorem sL (i : Nat) (x : DV) : PureP (aC i x):=by
 intro h v h1 hp
 unfold aC at *
 split at hp <;> (try (cases hp; done))
 split at hp <;> (try (cases hp; done))
 rename_i r hr
 simp only [aU,bG] at hp
 obtain ⟨rfl,rfl⟩:=hp
 exact ⟨rfl,fun h'=>by simp [hr]⟩
theorem aDa (c x y : DV) : PureP (aP c x y):=by
 cases c with
 | b z=>cases z <;> exact PureP.val _
 | _=>exact PureP.none
theorem aDq (x : DV) : PureP (cM x):=by cases x <;> first | exact PureP.val _ | exact PureP.none
theorem nX (x : DV) : PureP (cB x):=by cases x <;> first | exact PureP.val _ | exact PureP.none
theorem aLs (x y : DV) : PureP (cDk x y):=by cases x <;> cases y <;> first | exact PureP.val _ | exact PureP.none
theorem aNj (x y : DV) : PureP (dBd x y):=by cases x <;> cases y <;> first | exact PureP.val _ | exact PureP.none
theorem mX (z : List DV) (ps : List (Nat × Nat × DV)) : PureP (bK z ps):=by
 intro h v h1 hp
 unfold bK at *
 split at hp <;> (try (cases hp; done))
 rename_i r hr
 simp only [aU,bG] at hp
 obtain ⟨rfl,rfl⟩:=hp
 exact ⟨rfl,fun h'=>by simp [hr]⟩
section
variable {C : Cfg} {rec : FuncId → List DV → Hp → aH}
theorem aAu {o : Oper} {env : bA} (hc : bV C.P o.op = .pure) : PureP (jX C rec o env):=by
 obtain ⟨dst,op,ty,pos,after,guard⟩:=o
 simp only at hc
 unfold jX
 cases op <;> simp only [bV] at hc <;> (try (cases hc; done)) <;> (try ((rename_i r; cases r <;> cases hc); done)) <;> simp only
 case move x=>exact PureP.val _
 case assign x=>exact PureP.val _
 case pick c a b=>exact aDa _ _ _
 case build t ps =>
  split
  ·split
   ·split
    ·exact mX _ _
    ·exact PureP.none
   ·exact PureP.none
  ·split
   ·exact mX _ _
   ·exact PureP.none
  ·exact PureP.none
 case nilCheck x=>exact aLw _
 case binOp op t x y yt =>
  split
  ·exact aOi _ _ _ _ _
  ·exact aNk _ _ _ _
  ·exact aOx _ _ _ _
  ·exact PureP.none
 case unOp op t x=>exact bCw _ _
 case convert src dst x =>
  split
  ·exact qP _ _
  ·exact qW _
  ·rename_i hs _
   rw [hs] at hc
   cases hc
  ·rename_i hs hd
   rw [hs] at hc
   simp only [hd] at hc
   cases hc
  ·exact PureP.none
 case makeFunc fn first cap =>
  split
  ·exact PureP.val _
  ·exact PureP.none
 case slice t x lo hi mx =>
  split at hc <;> (try (cases hc; done)) <;> (try (cases mx <;> cases hc; done))
  rename_i ht
  rw [ht]
  cases mx with
  | none=>exact oA _ _ _
  | some m=>exact PureP.none
 case fieldAddr t x f =>
  split
  ·split
   ·split
    ·exact dZx PureP.none (zK _ _)
    ·exact PureP.none
   ·exact PureP.none
  ·exact PureP.none
 case field t x f =>
  split
  ·split
   ·split
    ·rename_i d i _ _; cases jW d <;> first | exact aAj _ _ _ | exact zB _ _
    ·exact PureP.none
   ·exact PureP.none
  ·exact PureP.none
 case indexAddr t x ix =>
  split
  ·split
   ·exact oB _ _ _
   ·exact PureP.none
  ·split
   ·exact pM _ _ _ _
   ·exact PureP.none
  ·exact PureP.none
 case index t x ix =>
  split
  ·exact vG _ _
  ·exact PureP.none
 case extract x i=>exact sL _ _
 case call c =>
  obtain ⟨callee,args,ats⟩:=c
  cases callee with
  | value f=>cases hc
  | invoke r m=>cases hc
  | builtin b =>
   cases b <;> (try (cases hc; done)) <;> simp only [kN]
   case len =>
    split
    ·split
     ·exact aDq _
     ·exact nX _
     ·exact PureP.none
    ·exact PureP.none
   case max =>
    unfold tF
    split
    ·exact aNj _ _
    ·exact PureP.none
   case min =>
    unfold tN
    split
    ·exact aLs _ _
    ·exact PureP.none
theorem aRb {size : Nat} {x : DV} {lo hi : Option DV} {h h1 : Hp} {v : DV} (hp : dF size x lo hi h = some (v,h1)) : h1 = h:=by
 unfold dF at hp
 repeat' (split at hp <;> (try (cases hp; done)))
 all_goals (simp only [aU,bG] at hp; exact hp.2.symm)
theorem vA {o : Oper} {env : bA} (hc : bV C.P o.op = .reads) {h h1 : Hp} {v : DV} (hp : jX C rec o env h = some (v,h1)) : h1 = h:=by
 obtain ⟨dst,op,ty,pos,after,guard⟩:=o
 simp only at hc
 unfold jX at hp
 cases op <;> simp only [bV] at hc <;> (try (cases hc; done)) <;> (try ((rename_i r; cases r <;> cases hc); done))
 case slice t x lo hi mx =>
  split at hc
  ·cases hc
  ·cases mx with
   | some m=>cases hc
   | none =>
    simp only at hp
    split at hp <;> (try (cases hp; done))
    ·exact (oA _ _ _ _ _ _ hp).1
    ·split at hp <;> (try (cases hp; done))
     exact aRb hp
    ·rename_i hm
     cases hm
 case convert src dst x =>
  simp only at hp
  split at hp <;> (try (cases hp; done))
  ·exact (qP _ _ _ _ _ hp).1
  ·exact (qW _ _ _ _ hp).1
  ·split at hp <;> (try (cases hp; done))
   unfold eZ at hp
   split at hp <;> (try (cases hp; done))
   ·simp only [aU,bG] at hp
    exact hp.2.symm
   ·split at hp <;> (try (cases hp; done))
    split at hp <;> (try (cases hp; done))
    simp only [aU,bG] at hp
    exact hp.2.symm
  ·rename_i hs hd
   rw [hs] at hc
   simp only [hd] at hc
   cases hc
 case load t x =>
  simp only at hp
  split at hp <;> (try (cases hp; done))
  rename_i d i _ _
  cases hd : jW d with
  | true =>
   rw [hd] at hp
   simp only [cond_true] at hp
   unfold aK at hp
   split at hp <;> (try (cases hp; done))
   split at hp <;> (try (cases hp; done))
   simp only [aU,bG] at hp
   exact hp.2.symm
  | false =>
   rw [hd] at hp
   simp only [cond_false] at hp
   unfold aA at hp
   split at hp <;> (try (cases hp; done))
   split at hp <;> (try (cases hp; done))
   simp only [aU,bG] at hp
   exact hp.2.symm
 case lookup t x k ok =>
  simp only at hp
  split at hp <;> (try (cases hp; done))
  split at hp <;> (try (cases hp; done))
  split at hp <;> (try (cases hp; done))
  rename_i d _ _ _ _ _ _
  have look : ∀ {d : TypeDesc} {z x k : DV} {v : DV} {h1 : Hp},eH d z ok x k h = some (v,h1) → h1 = h:=by
   intro d z x k v h1 hp
   unfold eH at hp
   split at hp <;> (try (cases hp; done))
   split at hp <;> (try (cases hp; done))
   all_goals
    simp only [aU,bG] at hp
    exact hp.2.symm
  cases hkt : iP d with
  | false =>
   rw [hkt] at hp
   simp only [cond_false] at hp
   cases hks : (uM C.P d && bHe d (opr env k)) with
   | false=>rw [hks] at hp; cases hp
   | true =>
    rw [hks] at hp
    exact look hp
  | true =>
   rw [hkt] at hp
   exact look hp
 case call c =>
  obtain ⟨callee,args,ats⟩:=c
  cases callee with
  | value f=>cases hc
  | invoke r m=>cases hc
  | builtin b=>cases b <;> cases hc
theorem uW {ops : Array Oper} {o : Oper} {env : bA} (hc : bV C.P o.op = .pure) : PureP (bL C rec ops o env):=by
 unfold bL
 split
 ·exact aAu hc
 ·intro h v h1 hp
  unfold gD at *
  split at hp <;> (try (cases hp; done))
  ·split at hp
   ·rename_i x hx hw
    obtain ⟨h2,h3⟩:=aAu (rec:=rec) (env:=env) hc h v h1 hp
    exact ⟨h2,fun h'=>by simp only [hx]; rw [if_pos hw]; exact h3 h'⟩
   ·rename_i x hx hw
    simp only [aU,bG] at hp
    obtain ⟨rfl,rfl⟩:=hp
    exact ⟨rfl,fun h'=>by simp only [hx]; rw [if_neg hw]⟩
  ·rename_i hx
   simp only [aU,bG] at hp
   obtain ⟨rfl,rfl⟩:=hp
   exact ⟨rfl,fun h'=>by simp only [hx]⟩
theorem rB {ops : Array Oper} {o : Oper} {env : bA} (hc : bV C.P o.op = .reads) {h h1 : Hp} {v : DV} (hp : bL C rec ops o env h = some (v,h1)) : h1 = h:=by
 unfold bL at hp
 split at hp
 ·exact vA hc hp
 ·unfold gD at hp
  split at hp <;> (try (cases hp; done))
  ·split at hp
   ·exact vA hc hp
   ·simp only [aU,bG] at hp
    exact hp.2.symm
  ·simp only [aU,bG] at hp
   exact hp.2.symm
theorem aDs {env env' : bA} {x : Operand} (h : ∀ t,x = .tmp t → env t = env' t) : opr env x = opr env' x:=by
 cases x with
 | tmp t=>exact h t rfl
 | _=>rfl
theorem aMb {o : Oper} {env env' : bA} {h : Hp} (hs : ∀ x ∈ o.op.operands,opr env x = opr env' x) : jX C rec o env h = jX C rec o env' h:=by
 obtain ⟨dst,op,ty,pos,after,guard⟩:=o
 simp only at hs
 have pairs : ∀ (ps : Array (Nat × Operand)),(∀ x ∈ ps.toList.map (·.2),opr env x = opr env' x) → ∀ q ∈ ps.toList,opr env q.2 = opr env' q.2:=fun ps hp q hq=>hp _ (List.mem_map_of_mem hq)
 have lst : ∀ (l : Array Operand),(∀ x ∈ l,opr env x = opr env' x) → l.toList.map (opr env) = l.toList.map (opr env'):=fun l hl=>List.map_congr_left fun x hx=>hl x (by simpa using hx)
 unfold jX
 cases op <;> simp only [Op.operands] at hs <;> simp only
 case move x=>rw [hs x (by simp)]
 case assign x=>rw [hs x (by simp)]
 case pick c x y=>rw [hs c (by simp),hs x (by simp),hs y (by simp)]
 case box t x=>rw [hs x (by simp)]
 case build t ps =>
  have hp:=pairs ps (by simpa using hs)
  have e : ∀ pl : List (Nat × Nat),ps.toList.mapM (fun (q : Nat × Operand)=>(pl[q.1]?).map fun s=>(s.1,s.2,opr env q.2)) = ps.toList.mapM (fun (q : Nat × Operand)=>(pl[q.1]?).map fun s=>(s.1,s.2,opr env' q.2)):=by
   intro pl
   generalize ps.toList = l at hp
   induction l with
   | nil=>rfl
   | cons q l ih =>
    simp only [List.mapM_cons]
    rw [ih (fun x hx=>hp x (by simp [hx])),hp q (by simp)]
  simp only [e]
 case buildSlice t n ps =>
  have hp:=pairs ps (by simpa using hs)
  have e : ∀ sz : Nat,(ps.toList.map fun (q : Nat × Operand)=>(q.1 * sz,sz,opr env q.2)) = (ps.toList.map fun (q : Nat × Operand)=>(q.1 * sz,sz,opr env' q.2)):=fun sz=>List.map_congr_left fun q hq=>by rw [hp q hq]
  simp only [e]
 case load t x=>rw [hs x (by simp)]
 case store t x y=>rw [hs x (by simp),hs y (by simp)]
 case nilCheck x=>rw [hs x (by simp)]
 case binOp op t x y yt=>rw [hs x (by simp),hs y (by simp)]
 case unOp op t x=>rw [hs x (by simp)]
 case convert src dst x=>rw [hs x (by simp)]
 case makeInterface t x=>rw [hs x (by simp)]
 case makeFunc fn first cap=>rw [lst first (fun x hx=>hs x (by simp [hx])),lst cap (fun x hx=>hs x (by simp [hx]))]
 case slice t x lo hi mx =>
  have e0:=hs x (by simp)
  have e1 : lo.map (opr env) = lo.map (opr env'):=by cases lo <;> simp_all
  have e2 : hi.map (opr env) = hi.map (opr env'):=by cases hi <;> simp_all
  rw [e0,e1,e2]
  cases mx with
  | none =>
   cases hu : C.P.underlying t with
   | none=>rfl
   | some d=>cases d <;> rfl
  | some m =>
   have e3:=hs m (by simp)
   cases hu : C.P.underlying t with
   | none=>rfl
   | some d =>
    cases d <;> (try rfl)
    rename_i el
    simp only
    cases hie : C.P.info? el with
    | none=>cases hi <;> rfl
    | some ie =>
     cases hi with
     | none=>rfl
     | some hv=>simp only; rw [e3,hs hv (by simp)]
 case fieldAddr t x f=>rw [hs x (by simp)]
 case field t x f=>rw [hs x (by simp)]
 case indexAddr t x ix=>rw [hs x (by simp),hs ix (by simp)]
 case index t x ix=>rw [hs x (by simp),hs ix (by simp)]
 case makeMap t r=>cases r <;> rfl
 case lookup t x k ok=>rw [hs x (by simp),hs k (by simp)]
 case mapUpdate t m k x=>rw [hs m (by simp),hs k (by simp),hs x (by simp)]
 case insert t m k x=>rw [hs m (by simp),hs k (by simp),hs x (by simp)]
 case mapEntry t m k=>rw [hs m (by simp),hs k (by simp)]
 case entryStore t m s x=>rw [hs m (by simp),hs s (by simp),hs x (by simp)]
 case makeSlice t n c=>rw [hs n (by simp),hs c (by simp)]
 case extract x i=>rw [hs x (by simp)]
 case range t x=>rw [hs x (by simp)]
 case next x str=>rw [hs x (by simp)]
 case call c =>
  obtain ⟨callee,args,ats⟩:=c
  simp only [Call.operands] at hs
  rw [lst args (fun x hx=>hs x (by simp [hx]))]
  cases callee with
  | value f=>simp only; rw [hs f (by simp)]
  | invoke r m=>simp only; rw [hs r (by simp)]
  | builtin b=>rfl
theorem aCf {o : Oper} {b : Pos} {env env' : bA} {h : Hp} (hs : ∀ x ∈ o.op.operands,opr env x = opr env' x) : eI C o b env h = eI C o b env' h:=by
 obtain ⟨dst,op,ty,pos,after,guard⟩:=o
 simp only at hs
 unfold eI
 cases op <;> simp only [Op.operands] at hs <;> simp only
 case makeMap t r=>cases r <;> rfl
 case box t x=>rw [hs x (by simp)]
 case buildSlice t n ps =>
  have hp : ∀ q ∈ ps.toList,opr env q.2 = opr env' q.2:=fun q hq=>hs _ (by simpa using ⟨q.1,by simpa using hq⟩)
  have e : ∀ sz : Nat,(ps.toList.map fun (q : Nat × Operand)=>(q.1 * sz,sz,opr env q.2)) = (ps.toList.map fun (q : Nat × Operand)=>(q.1 * sz,sz,opr env' q.2)):=fun sz=>List.map_congr_left fun q hq=>by rw [hp q hq]
  simp only [e]
theorem aOs {ops : Array Oper} {o : Oper} {env env' : bA} {h : Hp} (hs : ∀ t ∈ o.looksAt ops,env t = env' t) : bL C rec ops o env h = bL C rec ops o env' h:=by
 have hop : jX C rec o env h = jX C rec o env' h:=aMb fun x hx=>aDs fun t ht=>hs t (by
  unfold Oper.looksAt
  refine List.mem_append_left _ (List.mem_filterMap.2 ⟨x,by simpa using hx, ?_⟩)
  rw [ht])
 unfold bL
 cases hg : o.guard with
 | none=>exact hop
 | some g =>
  obtain ⟨j,want⟩:=g
  simp only
  rw [hop]
  congr 1
  unfold aXr
  cases hd : (ops[j]?).bind (·.dst) with
  | none=>rfl
  | some d=>exact hs d (by unfold Oper.looksAt; simp [hg,hd])
end
theorem bYu (acc : Array Nat) : ∀ (es : List Edge) (s j : Nat),(es.foldl (fun s e=>if Region.binds .any e then s ||| 2 ^ e.on ||| acc.getD e.on 0 else s) s).testBit j = true →
  s.testBit j = true ∨ ∃ e ∈ es,Region.binds .any e = true ∧ (e.on = j ∨ (acc.getD e.on 0).testBit j = true)
 | [],s,j,h=>.inl h
 | e :: es,s,j,h=>by
  simp only [List.foldl_cons] at h
  rcases bYu acc es _ j h with h1 | ⟨e',he',h2⟩
  ·split at h1
   ·rename_i hb
    simp only [Nat.testBit_or,Bool.or_eq_true] at h1
    rcases h1 with (h1 | h1) | h1
    ·exact .inl h1
    ·exact .inr ⟨e,by simp,hb,.inl (by simpa [Nat.testBit_two_pow] using h1)⟩
    ·exact .inr ⟨e,by simp,hb,.inr h1⟩
   ·exact .inl h1
  ·exact .inr ⟨e',by simp [he'],h2⟩
def kU (acc : Array Nat) (o : Oper) : Array Nat:=acc.push (o.after.foldl (fun s e=>if Region.binds .any e then s ||| 2 ^ e.on ||| acc.getD e.on 0 else s) 0)
theorem qI : ∀ (l : List Oper) (acc : Array Nat) (i : Nat),i < acc.size → (l.foldl kU acc).getD i 0 = acc.getD i 0
 | [],acc,i,h=>rfl
 | o :: l,acc,i,h=>by
  simp only [List.foldl_cons]
  rw [qI l _ i (by simp [kU]; omega)]
  simp [kU,Array.getElem?_push,Nat.ne_of_lt h]
theorem aAw : ∀ (l : List Oper) (acc : Array Nat) (i j : Nat) (o : Oper),l[i]? = some o → ((l.foldl kU acc).getD (acc.size + i) 0).testBit j = true →
  ∃ e ∈ o.after,Region.binds .any e = true ∧ (e.on = j ∨ ((l.foldl kU acc).getD e.on 0).testBit j = true)
 | [],acc,i,j,o,h,_=>by simp at h
 | o' :: l,acc,0,j,o,h,hb=>by
  simp at h; subst h
  simp only [List.foldl_cons,Nat.add_zero] at hb ⊢
  rw [qI l _ acc.size (by simp [kU])] at hb
  have hv : (kU acc o').getD acc.size 0 = o'.after.foldl (fun s e=>if Region.binds .any e then s ||| 2 ^ e.on ||| acc.getD e.on 0 else s) 0:=by simp [kU]
  rw [hv,← Array.foldl_toList] at hb
  rcases bYu acc _ 0 j hb with h1 | ⟨e,he,h2,h3⟩
  ·simp at h1
  ·refine ⟨e,by simpa using he,h2,h3.imp id fun h4 => ?_⟩
   have hlt : e.on < acc.size:=by
    rcases Nat.lt_or_ge e.on acc.size with h | h
    ·exact h
    ·simp [Array.getElem?_eq_none h] at h4
   rw [qI l _ e.on (by simp [kU]; omega)]
   have : (kU acc o').getD e.on 0 = acc.getD e.on 0:=by simp [kU,Array.getElem?_push,Nat.ne_of_lt hlt]
   rw [this]
   exact h4
 | o' :: l,acc,i + 1,j,o,h,hb=>by
  simp at h
  simp only [List.foldl_cons] at hb ⊢
  have:=aAw l (kU acc o') i j o h (by
   have e : (kU acc o').size + i = acc.size + (i + 1):=by simp [kU]; omega
   rw [e]
   exact hb)
  exact this
theorem aMj {ops : Array Oper} {i j : Nat} {o : Oper} (ho : ops[i]? = some o) (h : gL (Region.before ops) j i = true) :
  ∃ e ∈ o.after,Region.binds .any e = true ∧ (e.on = j ∨ gL (Region.before ops) j e.on = true):=by
 have hb : Region.before ops = ops.toList.foldl kU #[]:=by
  unfold Region.before
  rw [← Array.foldl_toList]
  rfl
 unfold gL at *
 rw [hb] at h ⊢
 have:=aAw ops.toList #[] i j o (by simpa using ho) (by simpa using h)
 exact this
end Go.Dd

namespace Go.Dd
open Go.RowKit (Below)
section
variable {C : Cfg} {G : Gd} {rec : FuncId → List DV → Hp → aH} {ops : Array Oper} {m : Array Nat} {nt : Nat} {k : K}
def kJ (C : Cfg) (ops : Array Oper) (j : Nat) : Bool :=
 match ops[j]? with
 | some o=>decide (bV C.P o.op = .acts)
 | none=>false
theorem bEw {j : Nat} {o : Oper} (ho : ops[j]? = some o) : kJ C ops j = true ↔ bV C.P o.op = .acts:=by
 unfold kJ; rw [ho]; simp
def jR (C : Cfg) (ops : Array Oper) (Hh : Nat → Hp) (lo : Nat) : Nat → List (Option Nat × Hp)
 | 0=>[]
 | d + 1=>(if kJ C ops (lo + d) then [(some (lo + d),Hh (lo + d + 1))] else []) ++ jR C ops Hh lo d
theorem vM {Hh Hh' : Nat → Hp} {lo : Nat} : ∀ d,(∀ p,lo < p → p ≤ lo + d → Hh p = Hh' p) → jR C ops Hh lo d = jR C ops Hh' lo d
 | 0,_=>rfl
 | d + 1,h=>by
  simp only [jR]
  rw [vM d (fun p h1 h2=>h p h1 (by omega)),h (lo + d + 1) (by omega) (by omega)]
theorem uX {Hh : Nat → Hp} {lo : Nat} : ∀ d,jR C ops Hh lo (d + 1) = jR C ops Hh (lo + 1) d ++ (if kJ C ops lo then [(some lo,Hh (lo + 1))] else [])
 | 0=>by simp [jR]
 | d + 1=>by
  have ih:=uX (Hh:=Hh) (lo:=lo) d
  rw [jR,ih]
  simp only [jR,List.append_assoc]
  rw [show lo + 1 + d = lo + (d + 1) from by omega]
def uA (m : Array Nat) (p : Nat) (Pv : Hp → Prop) : List (Option Nat × Hp) → Prop
 | []=>True
 | (j,hj) :: rest=>Pv hj ∧ (match j with
  | none=>True
  | some j=>gL m j p = true ∨ uA m p Pv rest)
theorem qJ {m : Array Nat} {i : Nat} {v : DV} {look : Hp → aH} {Pv : Hp → Prop} (hP : ∀ h,bJ (look h) v = true → Pv h) : ∀ (hs : List (Option Nat × Hp)),eY m i v look true hs = true → uA m i Pv hs
 | [],_=>trivial
 | (j, hj) :: rest, hc => by
  simp only [eY,cond_true,Bool.and_eq_true] at hc
  refine ⟨hP hj hc.1, ?_⟩
  cases j with
  | none=>trivial
  | some j =>
   simp only at hc ⊢
   cases ho : gL m j i with
   | true=>exact .inl rfl
   | false =>
    rw [ho] at hc
    exact .inr (qJ hP rest hc.2)
structure StepT (C : Cfg) (rec : FuncId → List DV → Hp → aH) (ops : Array Oper) (m : Array Nat) (nt : Nat) (b : Pos) (E : Nat → bA) (Hh : Nat → Hp) (V : Nat → DV) (lo : Nat) (hs : List (Option Nat × Hp)) (p : Nat) (o : Oper) : Prop where
 fits : dK nt o.dst = true
 step : bV C.P o.op ≠ .makes → bL C rec ops o (E p) (Hh p) = some (V p,Hh (p + 1))
 made : bV C.P o.op = .makes → eI C o b (E p) (Hh p) = some (V p,Hh (p + 1))
 env : E (p + 1) = bO (E p) o.dst (V p)
 reads : bV C.P o.op = .reads → uA m p (fun h=>bL C rec ops o (E p) h = some (V p,h)) (jR C ops Hh lo (p - lo) ++ hs)
 acts : bV C.P o.op = .acts → ∀ j oj,lo ≤ j → j < p → ops[j]? = some oj → bV C.P oj.op = .reads → gL m j p = true ∨ bJ (bL C rec ops oj (E j) (Hh (p + 1))) (V j) = true
theorem uY {o : Oper} {env : bA} {h : Hp} {v : DV} (hc : bV C.P o.op = .reads) (hs : bJ (bL C rec ops o env h) v = true) : bL C rec ops o env h = some (v,h):=by
 cases hr : bL C rec ops o env h with
 | none=>rw [hr] at hs; cases hs
 | some r =>
  obtain ⟨x,h1⟩:=r
  rw [hr] at hs
  have:=dZe _ _ hs
  have h2:=rB hc hr
  rw [this,h2]
theorem vH {p0 : Pos} : ∀ (l : List Oper) (i c : Nat) (dirty : Bool) (rd : List Seen) (hs : List (Option Nat × Hp)) (env : bA) (h : Hp) (r : DV × Hp),
  eV C rec nt ops m p0 l k i c dirty rd hs env h = some r → (∀ j : Nat,l[j]? = ops[i + j]?) → (dirty = false → ∃ j rest,hs = (j,h) :: rest) →
  ∃ (E : Nat → bA) (Hh : Nat → Hp) (V : Nat → DV),E i = env ∧ Hh i = h ∧ k (E (i + l.length)) (Hh (i + l.length)) = some r ∧
   ∀ p o,i ≤ p → p < i + l.length → ops[p]? = some o → StepT C rec ops m nt (cW (c + cJ C.P (l.take (p - i))) p0) E Hh V i hs p o ∧
    (bV C.P o.op = .acts → ∀ q ∈ rd,gL m q.at_ p = true ∨ bJ (q.look (Hh (p + 1))) q.v = true)
 | [],i,c,dirty,rd,hs,env,h,r,hp,hl,_=>⟨fun _=>env,fun _=>h,fun _=>.u,rfl,rfl,hp,fun p o h1 h2=>by simp at h2; omega⟩
 | o :: os,i,c,dirty,rd,hs,env,h,r,hp,hl,hdirty=>by
  have hi : ops[i]? = some o:=by simpa using (hl 0).symm
  have hl' : ∀ j : Nat,os[j]? = ops[i + 1 + j]? := fun j=>by
   have:=hl (j + 1)
   simpa [Nat.add_assoc,Nat.add_comm 1 j] using this
  have hstep : ∃ v h1 c' dirty' rd' hs',dK nt o.dst = true ∧ (bV C.P o.op ≠ .makes → bL C rec ops o env h = some (v,h1)) ∧ (bV C.P o.op = .makes → eI C o (cW c p0) env h = some (v,h1)) ∧
    eV C rec nt ops m p0 os k (i + 1) c' dirty' rd' hs' (bO env o.dst v) h1 = some r ∧ (dirty' = false → ∃ j rest,hs' = (j,h1) :: rest) ∧
    (∀ q ∈ rd,q ∈ rd') ∧ hs' = (if kJ C ops i then [(some i,h1)] else []) ++ hs ∧ c' = c + cJ C.P [o] ∧
    (bV C.P o.op = .reads → uA m i (fun h=>bL C rec ops o env h = some (v,h)) hs ∧ ⟨i,bL C rec ops o env,v⟩ ∈ rd') ∧
    (bV C.P o.op = .acts → (∀ q ∈ rd,gL m q.at_ i = true ∨ bJ (q.look h1) q.v = true)):=by
   change cnd (dK nt o.dst) (
     match bV C.P o.op with
     | .pure=>bnd (bL C rec ops o env h) fun v h'=>eV C rec nt ops m p0 os k (i + 1) c dirty rd hs (bO env o.dst v) h'
     | .reads=>bnd (bL C rec ops o env h) fun v h' =>
       cnd (eY m i v (bL C rec ops o env) dirty hs) (eV C rec nt ops m p0 os k (i + 1) c dirty (⟨i,bL C rec ops o env,v⟩ :: rd) hs (bO env o.dst v) h')
     | .makes=>bnd (eI C o (cW c p0) env h) fun v h'=>eV C rec nt ops m p0 os k (i + 1) (c + 1) true rd hs (bO env o.dst v) h'
     | .acts=>bnd (bL C rec ops o env h) fun v h' =>
       cnd (rd.all (fun q=>gL m q.at_ i || bJ (q.look h') q.v)) (eV C rec nt ops m p0 os k (i + 1) c false rd ((some i,h') :: hs) (bO env o.dst v) h')) = some r at hp
   cases hf : dK nt o.dst with
   | false=>rw [hf] at hp; cases hp
   | true =>
    rw [hf] at hp
    dsimp only [cnd] at hp
    cases hc : bV C.P o.op with
    | pure =>
     have ha : kJ C ops i = false:=by unfold kJ; rw [hi]; simp [hc]
     rw [hc] at hp
     obtain ⟨v,h1,h2,h3⟩:=cZ hp
     have hh:=(uW hc _ _ _ h2).1
     refine ⟨v,h1,c,dirty,rd,hs,rfl,fun _=>h2,(fun h=>by cases h),h3,(by rw [hh]; exact hdirty),fun q hq=>hq,by simp [ha],by simp [cJ,hc],(fun h=>by cases h),(fun h=>by cases h)⟩
    | reads =>
     have ha : kJ C ops i = false:=by unfold kJ; rw [hi]; simp [hc]
     rw [hc] at hp
     obtain ⟨v,h1,h2,h3⟩:=cZ hp
     have hh:=rB hc h2
     cases hall : eY m i v (bL C rec ops o env) dirty hs with
     | false=>rw [hall] at h3; cases h3
     | true =>
      rw [hall] at h3
      refine ⟨v,h1,c,dirty,_,hs,rfl,fun _=>h2,(fun h=>by cases h),h3,(by rw [hh]; exact hdirty),(fun q hq=>by simp [hq]),by simp [ha],by simp [cJ,hc],fun _=>⟨?_,by simp⟩,(fun h=>by cases h)⟩
      have hP : ∀ h,bJ (bL C rec ops o env h) v = true → bL C rec ops o env h = some (v,h):=fun h hs=>uY hc hs
      cases hd : dirty with
      | true=>rw [hd] at hall; exact qJ hP hs hall
      | false =>
       obtain ⟨j,rest,hcons⟩:=hdirty hd
       subst hcons
       rw [hd] at hall
       simp only [eY,cond_false,Bool.true_and] at hall
       refine ⟨by rw [hh] at h2; exact h2, ?_⟩
       cases j with
       | none=>trivial
       | some j =>
        simp only at hall ⊢
        cases ho : gL m j i with
        | true=>exact .inl rfl
        | false=>rw [ho] at hall; exact .inr (qJ hP rest hall)
    | makes =>
     have ha : kJ C ops i = false:=by unfold kJ; rw [hi]; simp [hc]
     rw [hc] at hp
     obtain ⟨v,h1,h2,h3⟩:=cZ hp
     exact ⟨v,h1,c + 1,true,rd,hs,rfl,(fun h=>absurd rfl h),fun _=>h2,h3,(fun h=>by cases h),fun q hq=>hq,by simp [ha],by simp [cJ,hc],(fun h=>by cases h),(fun h=>by cases h)⟩
    | acts =>
     have ha : kJ C ops i = true:=by unfold kJ; rw [hi]; simp [hc]
     rw [hc] at hp
     obtain ⟨v,h1,h2,h3⟩:=cZ hp
     cases hall : rd.all (fun q=>gL m q.at_ i || bJ (q.look h1) q.v) with
     | false=>rw [hall] at h3; cases h3
     | true =>
      rw [hall] at h3
      refine ⟨v,h1,c,false,rd,_,rfl,fun _=>h2,(fun h=>by cases h),h3,fun _=>⟨_,_,rfl⟩,fun q hq=>hq,by simp [ha],by simp [cJ,hc],(fun h=>by cases h),fun _ q hq => ?_⟩
      have:=List.all_eq_true.1 hall q hq
      simpa using this
  obtain ⟨v,h1,c',dirty',rd',hs',hf,hst,hmk,hrest,hdirty',hrd,hhs,hcc,hR,hA⟩:=hstep
  obtain ⟨E',Hh',V',e1,e2,e3,e4⟩:=vH os (i + 1) c' dirty' rd' hs' _ h1 r hrest hl' hdirty'
  refine ⟨fun p=>if p = i then env else E' p,fun p=>if p = i then h else Hh' p,fun p=>if p = i then v else V' p,by simp,by simp, ?_, ?_⟩
  ·simp only [List.length_cons]
   rw [if_neg (by omega),if_neg (by omega),show i + (os.length + 1) = i + 1 + os.length from by omega]
   exact e3
  ·intro p o' hp1 hp2 ho'
   by_cases hpi : p = i
   ·subst hpi
    rw [hi] at ho'
    cases ho'
    refine ⟨⟨hf, ?_, ?_, ?_, ?_, ?_⟩, ?_⟩
    ·intro hc
     simp only [if_true]
     rw [if_neg (by omega),e2]
     exact hst hc
    ·intro hc
     simp only [if_true,Nat.sub_self,List.take_zero,cJ,Nat.add_zero]
     rw [if_neg (by omega),e2]
     exact hmk hc
    ·simp only [if_true]
     rw [if_neg (by omega),e1]
    ·intro hc
     simpa [jR] using (hR hc).1
    ·intro _ j oj hj1 hj2; omega
    ·intro hc q hq
     simp only [show p + 1 ≠ p from by omega,if_false,e2]
     exact hA hc q hq
   ·simp only [List.length_cons] at hp2
    obtain ⟨s,sa⟩:=e4 p o' (by omega) (by omega) ho'
    refine ⟨⟨s.fits, ?_, ?_, ?_, ?_, ?_⟩, ?_⟩
    ·intro hc; simp only [hpi,if_false,show p + 1 ≠ i from by omega]; exact s.step hc
    ·intro hc
     simp only [hpi,if_false,show p + 1 ≠ i from by omega]
     have:=s.made hc
     rw [hcc] at this
     have e : c + cJ C.P ((o :: os).take (p - i)) = c + cJ C.P [o] + cJ C.P (os.take (p - (i + 1))):=by
      rw [show p - i = (p - (i + 1)) + 1 from by omega,List.take_succ_cons]
      simp [cJ,Nat.add_assoc]
     rw [e]
     exact this
    ·simp only [hpi,if_false,show p + 1 ≠ i from by omega]; exact s.env
    ·intro hc
     have:=s.reads hc
     simp only [hpi,if_false]
     have e : jR C ops (fun p=>if p = i then h else Hh' p) i (p - i) ++ hs = jR C ops Hh' (i + 1) (p - (i + 1)) ++ hs':=by
      rw [show p - i = (p - (i + 1)) + 1 from by omega,uX,hhs]
      rw [vM (Hh':=Hh') (p - (i + 1)) (fun q h1 h2=>by simp [show q ≠ i from by omega])]
      simp only [show i + 1 ≠ i from by omega,if_false,e2,List.append_assoc]
     rw [e]
     exact this
    ·intro hc j oj hj1 hj2 hoj hcj
     by_cases hji : j = i
     ·subst hji
      rw [hi] at hoj
      cases hoj
      simp only [if_true,show p + 1 ≠ j from by omega,if_false]
      exact sa hc ⟨j,bL C rec ops o env,v⟩ (hR hcj).2
     ·simp only [hji,if_false,show p + 1 ≠ i from by omega]
      exact s.acts hc j oj (by omega) hj2 hoj hcj
    ·intro hc q hq
     simp only [show p + 1 ≠ i from by omega,if_false]
     exact sa hc q (hrd q hq)
theorem eB (hd : fC C.P ops = true) {j : Nat} {y : Oper} (hy : ops[j]? = some y) :
  (∀ e ∈ y.after,Region.binds .any e = true → e.on < j) ∧ (bV C.P y.op = .makes → y.guard = none) ∧
  ∀ i x,i < j → ops[i]? = some x → gL (Region.before ops) i j = true ∨ (Oper.apart ops x y = true ∧ ¬ ((bV C.P x.op = .acts ∨ bV C.P x.op = .makes) ∧ bV C.P y.op = .acts)):=by
 unfold fC at hd
 have hj : j < ops.size:=by
  rcases Nat.lt_or_ge j ops.size with h | h
  ·exact h
  ·simp [Array.getElem?_eq_none h] at hy
 have h1:=List.all_eq_true.1 hd j (by simpa using hj)
 simp only [hy,Bool.and_eq_true] at h1
 obtain ⟨⟨h2,hg⟩,h3⟩:=h1
 refine ⟨fun e he hb => ?_,fun hm => ?_,fun i x hij hx => ?_⟩
 ·have:=(Array.all_eq_true_iff_forall_mem.1 h2) e he
  simp only [hb,Bool.not_true,Bool.false_or] at this
  exact Nat.le_of_ble_eq_true this
 ·cases hgd : y.guard with
  | none=>rfl
  | some g=>rw [hgd] at hg; simp [hm] at hg
 ·have:=List.all_eq_true.1 h3 i (by simpa using hij)
  simp only [hx,Bool.or_eq_true,Bool.and_eq_true] at this
  rcases this with h | ⟨h,h'⟩
  ·exact .inl h
  ·refine .inr ⟨h, ?_⟩
   rintro ⟨a1,a2⟩
   rcases a1 with a1 | a1 <;> simp [a1,a2] at h'
def S (listed : Array Bool) (j : Nat) : Prop:=listed.getD j false = true
def TS (ops : Array Oper) (V : Nat → DV) (env : bA) (listed : Array Bool) : Nat → bA
 | 0=>env
 | p + 1=>match ops[p]? with
  | some o=>if listed.getD p false then bO (TS ops V env listed p) o.dst (V p) else TS ops V env listed p
  | none=>TS ops V env listed p
theorem nF (env : bA) (d : Option Tmp) (v : DV) (t : Nat) : bO env d v t = if d = some t then v else env t:=by
 cases d with
 | none=>simp [bO]
 | some d =>
  simp only [bO,aU]
  by_cases e : t = d
  ·subst e
   rw [if_pos rfl]
   have : Nat.beq t t = true:=Nat.beq_refl t
   rw [this]; rfl
  ·rw [if_neg (fun h=>e h.symm)]
   have : Nat.beq t d = false:=by
    cases hb : Nat.beq t d with
    | false=>rfl
    | true=>exact absurd (Nat.eq_of_beq_eq_true hb) e
   rw [this]; rfl
theorem cCk {V : Nat → DV} {env : bA} {listed : Array Bool} {t i : Nat} (hno : ∀ j o,i ≤ j → ops[j]? = some o → o.dst = some t → ¬ S listed j) :
  ∀ p,i ≤ p → TS ops V env listed p t = TS ops V env listed i t:=by
 intro p
 induction p with
 | zero => intro h; have : i = 0 := by omega
           subst this; rfl
 | succ p ih =>
  intro h
  by_cases e : i = p + 1
  ·rw [e]
  ·have ih':=ih (by omega)
   cases ho : ops[p]? with
   | none=>simp only [TS,ho]; exact ih'
   | some o =>
    simp only [TS,ho]
    split
    ·rename_i hl
     rw [nF]
     rw [if_neg (fun hd=>hno p o (by omega) ho hd hl)]
     exact ih'
    ·exact ih'
theorem bTg {V : Nat → DV} {env : bA} {listed : Array Bool} {E : Nat → bA} (h0 : E 0 = env) {t i : Nat} (hE : ∀ p o,p < i → ops[p]? = some o → E (p + 1) = bO (E p) o.dst (V p))
  (hin : ∀ p,p < i → ∃ o,ops[p]? = some o) (hyes : ∀ j o,j < i → ops[j]? = some o → o.dst = some t → S listed j) :
  ∀ p,p ≤ i → TS ops V env listed p t = E p t:=by
 intro p
 induction p with
 | zero=>intro _; simp [TS,h0]
 | succ p ih =>
  intro h
  have ih':=ih (by omega)
  obtain ⟨o,ho⟩:=hin p (by omega)
  rw [hE p o (by omega) ho,nF]
  simp only [TS,ho]
  split
  ·rw [nF,ih']
  ·rename_i hl
   rw [if_neg (fun hd=>hl (hyes p o (by omega) ho hd))]
   exact ih'
end
end Go.Dd

end
