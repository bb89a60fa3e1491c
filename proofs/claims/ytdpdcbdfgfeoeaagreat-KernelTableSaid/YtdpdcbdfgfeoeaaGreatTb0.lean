/- A part of the proof: A B C0 C D E F G H I I2 J K L M N0: each text has a comment of its own. -/
import Derived.Orders
import Derived.Below
import Derived.Laws.Tables
import Derived.Laws.Append
import Derived.Laws.Strings
import Derived.Laws.Slices
import Derived.Laws.BytesString
import Derived.Laws.RangeString
import Derived.MapKept
set_option linter.unusedVariables false
set_option linter.unusedSimpArgs false
set_option linter.constructorNameAsVariable false
set_option maxRecDepth 100000
namespace Go.Dd
theorem dA0 {α : Type} {l r : List α} {i : Nat} {x : α} (h : l.drop i = x :: r) : l[i]? = some x := by
 have := congrArg (fun l => l[0]?) h
 simpa using this
theorem dA1 {α : Type} {l r : List α} {i : Nat} {x : α} (h : l.drop i = x :: r) : l.drop (i + 1) = r := by
 have := congrArg (List.drop 1) h
 simpa [List.drop_drop] using this
theorem gLt {α : Type} {l : List α} {i : Nat} {x : α} (h : l[i]? = some x) : i < l.length := (List.getElem?_eq_some_iff.1 h).1
theorem mH0 {α : Type} {a : α} {l : List α} : a ∈ a :: l := List.Mem.head _
theorem mH1 {α : Type} {a b : α} {l : List α} : a ∈ b :: a :: l := List.Mem.tail _ (List.Mem.head _)
theorem laE {α : Type} {a b : List α} : (a ++ b).length = a.length + b.length := List.length_append
theorem lcE {α : Type} {a : α} {b : List α} : (a :: b).length = b.length + 1 := List.length_cons
theorem lnE {α : Type} : ([] : List α).length = 0 := List.length_nil
theorem bD {α : Type} (a b : α) : (some a = some b) = (a = b) := Option.some.injEq a b
theorem bM {α β : Type} (a c : α) (b d : β) : ((a, b) = (c, d)) = (a = c ∧ b = d) := Prod.mk.injEq a b c d
theorem obs {α β : Type} {o : Option α} {f : α → Option β} {b : β} (h : o.bind f = some b) : ∃ a, o = some a ∧ f a = some b := Option.bind_eq_some_iff.1 h
noncomputable section
inductive Pos where
 | h
 | o (p : Pos)
 | i (p : Pos)
 deriving DecidableEq
def Pos.toNat : Pos → Nat
 | .h => 1
 | .o p => 2 * p.toNat
 | .i p => 2 * p.toNat + 1
noncomputable def Pos.succ (p : Pos) : Pos := Pos.rec (motive := fun _ => Pos) (.o .h) (fun p _ => .i p) (fun _ ih => .o ih) p
theorem eNw : Pos.h.succ = .o .h := rfl
theorem eNx (p : Pos) : (Pos.o p).succ = .i p := rfl
theorem eNy (p : Pos) : (Pos.i p).succ = .o p.succ := rfl
inductive Tr (α : Type) where
 | e
 | n (l : Tr α) (v : Option α) (r : Tr α)
noncomputable def Tr.get {α : Type} (t : Tr α) : Pos → Option α :=
 Tr.rec (motive := fun _ => Pos → Option α) (fun _ => none)
  (fun _ v _ ihl ihr p => Pos.rec (motive := fun _ => Option α) v (fun q _ => ihl q) (fun q _ => ihr q) p) t
noncomputable def Tr.set {α : Type} (x : α) (p : Pos) : Tr α → Tr α :=
 Pos.rec (motive := fun _ => Tr α → Tr α)
  (fun t => Tr.rec (motive := fun _ => Tr α) (.n .e (some x) .e) (fun l _ r _ _ => .n l (some x) r) t)
  (fun _ ih t => Tr.rec (motive := fun _ => Tr α) (.n (ih .e) none .e) (fun l v r _ _ => .n (ih l) v r) t)
  (fun _ ih t => Tr.rec (motive := fun _ => Tr α) (.n .e none (ih .e)) (fun l v r _ _ => .n l v (ih r)) t) p
theorem eMz {α : Type} (p : Pos) : (Tr.e : Tr α).get p = none := rfl
theorem eNg {α : Type} (l : Tr α) (v : Option α) (r : Tr α) : (Tr.n l v r).get .h = v := rfl
theorem eNh {α : Type} (l : Tr α) (v : Option α) (r : Tr α) (p : Pos) : (Tr.n l v r).get (.o p) = l.get p := rfl
theorem eNi {α : Type} (l : Tr α) (v : Option α) (r : Tr α) (p : Pos) : (Tr.n l v r).get (.i p) = r.get p := rfl
theorem eNa {α : Type} (x : α) : Tr.set x .h .e = .n .e (some x) .e := rfl
theorem eNb {α : Type} (x : α) (l : Tr α) (v : Option α) (r : Tr α) : Tr.set x .h (.n l v r) = .n l (some x) r := rfl
theorem eNc {α : Type} (x : α) (p : Pos) : Tr.set x (.o p) .e = .n (Tr.set x p .e) none .e := rfl
theorem eNd {α : Type} (x : α) (p : Pos) (l : Tr α) (v : Option α) (r : Tr α) : Tr.set x (.o p) (.n l v r) = .n (Tr.set x p l) v r := rfl
theorem eNe {α : Type} (x : α) (p : Pos) : Tr.set x (.i p) .e = .n .e none (Tr.set x p .e) := rfl
theorem eNf {α : Type} (x : α) (p : Pos) (l : Tr α) (v : Option α) (r : Tr α) : Tr.set x (.i p) (.n l v r) = .n l v (Tr.set x p r) := rfl
inductive DV where
 | u
 | b (x : Bool)
 | i (k : IntKind) (n : Int)
 | s (l : List Nat)
 | p0
 | p (b : Pos) (o : Nat)
 | l0
 | l (b : Pos) (o len cap : Nat)
 | lx (b : Pos) (o len cap : Nat)
 | le
 | m0
 | m (b : Pos)
 | f0
 | f (g : FuncId) (first cap : List DV)
 | n0
 | c (t : TypeId) (v : DV)
 | a (cs : List DV)
 | t (vs : List DV)
 | yl (b : Pos)
inductive Kind where
 | ro
 | ex
 | gr (es : Nat)
 | sp
 deriving DecidableEq
inductive WT where
 | e
 | n (l : WT) (v : Int) (r : WT)
inductive Ob where
 | row (k : Kind) (l : List DV)
 | it (s : List Nat) (pos : Nat)
 | mp (es : List (DV × DV))
 | big (n : Nat) (t : WT)
 | mi (t : WT)
def Ob.sg : Ob → Bool
 | .it _ _ => true
 | .mp _ => true
 | _ => false
structure Hp where
 next : Pos
 bl : Tr Ob
abbrev aH := Option (DV × Hp)
abbrev aZ := Nat → DV
abbrev K := aZ → Hp → aH
def DV.one : DV → Bool
 | .u | .a _ | .t _ => false
 | _ => true
def aY : DV := .t []
def dR : DV → Option (List DV)
 | .u => none
 | .t _ => none
 | .a cs => some cs
 | v => some [v]
def cv : Value → DV
 | .bool x => .b x
 | .int k n => .i k n
 | .string s => .s (s.data.toList.map (·.toNat))
 | .pointer none => .p0
 | .slice none 0 0 => .l0
 | .map none => .m0
 | .nilFunc => .f0
 | .nilIface => .n0
 | _ => .u
def zvD (z : Value) : DV :=
 match z with
 | .agg cs => .a (cs.toList.map cv)
 | v => cv v
def xZ (v : Value) : List DV := v.cells.toList.map cv
def Hp.new (h : Hp) (o : Ob) : Pos × Hp := (h.next, ⟨h.next.succ, Tr.set o h.next h.bl⟩)
def bS (cs : List DV) (h : Hp) : aH := some (.p h.next 0, ⟨h.next.succ, Tr.set (.row .ex cs) h.next h.bl⟩)
def iQ (b : Pos) (cs : List DV) (h : Hp) : aH := some (.p b 0, ⟨h.next, Tr.set (.row .ex cs) b h.bl⟩)
def xJ (b : Pos) (v : DV) (h : Hp) : aH :=
 match dR v with
 | some cs => iQ b cs h
 | none => none
def bQ (v : DV) (h : Hp) : aH :=
 match dR v with
 | some cs => bS cs h
 | none => none
def rB : Nat → List DV → Option (List DV)
 | 0, _ => some []
 | n + 1, x :: xs => if x.one then (rB n xs).map (x :: ·) else none
 | _ + 1, [] => none
def rowOf (b : Pos) (h : Hp) : Option (List DV) :=
 match h.bl.get b with
 | some (.row _ l) => some l
 | _ => none
def cellD (b : Pos) (o : Nat) (h : Hp) : Option DV :=
 match rowOf b h with
 | some l => match l[o]? with
  | some v => if v.one then some v else none
  | none => none
 | none => none
def cellsAt (b : Pos) (o n : Nat) (h : Hp) : Option (List DV) :=
 match rowOf b h with
 | some l => rB n (l.drop o)
 | none => none
def aA (x : DV) (h : Hp) : aH :=
 match x with
 | .p b o => match cellD b o h with
  | some v => some (v, h)
  | none => none
 | _ => none
def aL (n : Nat) (x : DV) (h : Hp) : aH :=
 match x with
 | .p b o => match cellsAt b o n h with
  | some cs => some (.a cs, h)
  | none => none
 | _ => none
def nS : List DV → List DV → Option (List DV)
 | l, [] => some l
 | x :: l, v :: vs => if x.one && v.one then (nS l vs).map (v :: ·) else none
 | [], _ :: _ => none
def fT : Nat → List DV → List DV → Option (List DV)
 | 0, l, vs => nS l vs
 | n + 1, x :: l, vs => (fT n l vs).map (x :: ·)
 | _ + 1, [], vs => if vs.isEmpty then some [] else none
def Kind.writable : Kind → Bool
 | .ro => false
 | _ => true
def dF (b : Pos) (o : Nat) (vs : List DV) (h : Hp) : Option Hp :=
 match h.bl.get b with
 | some (.row k l) => if k.writable then (match fT o l vs with
  | some l' => some ⟨h.next, Tr.set (.row k l') b h.bl⟩
  | none => none) else none
 | _ => none
def aJ (n : Nat) (x v : DV) (h : Hp) : aH :=
 match x, dR v with
 | .p b o, some cs => if cs.length = n then (match dF b o cs h with
  | some h' => some (aY, h')
  | none => none) else none
 | _, _ => none
def aX (x : DV) (h : Hp) : aH :=
 match x with
 | .p b o => some (.p b o, h)
 | .f g a c => some (.f g a c, h)
 | .c t v => some (.c t v, h)
 | _ => none
def nY : List Nat → List Nat → Bool
 | _, [] => false
 | [], _ :: _ => true
 | a :: x, b :: y => Nat.blt a b || (Nat.beq a b && nY x y)
def eqD : List Nat → List Nat → Bool
 | [], [] => true
 | a :: x, b :: y => Nat.beq a b && eqD x y
 | _, _ => false
def gK (op : BinOp) (k : IntKind) (a b : Int) : Option DV :=
 match op with
 | .add => some (.i k (k.wrap (a + b)))
 | .sub => some (.i k (k.wrap (a - b)))
 | .mul => some (.i k (k.wrap (a * b)))
 | .quo => if b = 0 then none else some (.i k (k.wrap (a.tdiv b)))
 | .rem => if b = 0 then none else some (.i k (a.tmod b))
 | .eql => some (.b (a == b))
 | .neq => some (.b (a != b))
 | .lss => some (.b (a < b))
 | .leq => some (.b (a ≤ b))
 | .gtr => some (.b (a > b))
 | .geq => some (.b (a ≥ b))
 | .and => some (.i k (k.wrap ((BitVec.ofInt k.bits a &&& BitVec.ofInt k.bits b).toNat)))
 | .or => some (.i k (k.wrap ((BitVec.ofInt k.bits a ||| BitVec.ofInt k.bits b).toNat)))
 | .xor => some (.i k (k.wrap ((BitVec.ofInt k.bits a ^^^ BitVec.ofInt k.bits b).toNat)))
 | _ => none
def bVb (op : BinOp) (a b : List Nat) : Option DV :=
 match op with
 | .add => if ((a.length + b.length : Nat) : Int) > IntKind.i64.max then none else some (.s (a ++ b))
 | .eql => some (.b (eqD a b))
 | .neq => some (.b (!eqD a b))
 | .lss => some (.b (nY a b))
 | .leq => some (.b (nY a b || eqD a b))
 | .gtr => some (.b (!(nY a b || eqD a b)))
 | .geq => some (.b (!nY a b))
 | _ => none
def aOx (d : TypeDesc) (x y : DV) : Option Bool :=
 match d, x, y with
 | .bool, .b a, .b b => some (a == b)
 | .pointer _, .p0, .p0 => some true
 | .pointer _, .p0, .p _ _ => some false
 | .pointer _, .p _ _, .p0 => some false
 | .slice _, .l0, .l0 => some true
 | .slice _, .l0, .l _ _ _ _ => some false
 | .slice _, .l _ _ _ _, .l0 => some false
 | .slice _, .l0, .lx _ _ _ _ => some false
 | .slice _, .lx _ _ _ _, .l0 => some false
 | .slice _, .l0, .le => some false
 | .slice _, .le, .l0 => some false
 | .func _ _ _, .f0, .f0 => some true
 | .func _ _ _, .f0, .f _ _ _ => some false
 | .func _ _ _, .f _ _ _, .f0 => some false
 | .map _ _, .m0, .m0 => some true
 | .map _ _, .m0, .m _ => some false
 | .map _ _, .m _, .m0 => some false
 | _, _, _ => none
def aD (op : BinOp) (x y : DV) (h : Hp) : aH :=
 match x, y with
 | .i k a, .i k' b => if k = k' then (match gK op k a b with
  | some v => some (v, h)
  | none => none) else none
 | _, _ => none
def fK (op : BinOp) (x y : DV) (h : Hp) : aH :=
 match x, y with
 | .s a, .s b => match bVb op a b with
  | some v => some (v, h)
  | none => none
 | _, _ => none
def dL (op : BinOp) (x y : DV) (h : Hp) : aH :=
 match x, y with
 | .i k a, .i _ b =>
  if b < 0 then none else
  match op with
  | .shl => some (.i k (k.wrap (a * 2 ^ (min b.toNat k.bits))), h)
  | .shr => some (.i k (a.fdiv (2 ^ (min b.toNat k.bits))), h)
  | _ => none
 | _, _ => none
def kW (d : Option TypeDesc) : Bool :=
 match d with
 | some (.int _) => true
 | _ => false
def pEq (d : TypeDesc) (pos : Bool) (x y : DV) (h : Hp) : aH :=
 match aOx d x y with
 | some r => some (.b (if pos then r else !r), h)
 | none => none
def aPs (P : Program) (t : TypeId) (fs : Array Field) : Bool :=
 match fs.toList with
 | [f, g] => (f.name != "_") && ((g.name != "_") && (Nat.beq f.offset 0 && (Nat.beq g.offset 1 && (kW (P.underlying f.type) && (kW (P.underlying g.type) && (!(P.stoodInHeld t) && !(P.eqGuardType P.depth t)))))))
 | _ => false
def aBg (P : Program) (t : TypeId) (fs : Array Field) : Bool :=
 match fs.toList with
 | [f, g, e] => (f.name != "_") && ((g.name != "_") && ((e.name != "_") && (Nat.beq f.offset 0 && (Nat.beq g.offset 1 && (Nat.beq e.offset 2 && (kW (P.underlying f.type) && (kW (P.underlying g.type) && (kW (P.underlying e.type) && (!(P.stoodInHeld t) && !(P.eqGuardType P.depth t))))))))))
 | _ => false
def bZz (ok : Bool) (op : BinOp) (x y : DV) (h : Hp) : aH :=
 match x, y with
 | .a [.i k a, .i l b], .a [.i k' a', .i l' b'] =>
  if ok = true ∧ k = k' ∧ l = l' then (match op with
   | .eql => some (.b (a == a' && b == b'), h)
   | .neq => some (.b (!(a == a' && b == b')), h)
   | _ => none) else none
 | _, _ => none
def bNg (op : BinOp) (x y : DV) (h : Hp) : aH :=
 match x, y with
 | .a [.i k a, .i l b, .i m c], .a [.i k' a', .i l' b', .i m' c'] =>
  if k = k' ∧ l = l' ∧ m = m' then (match op with
   | .eql => some (.b (a == a' && (b == b' && c == c')), h)
   | .neq => some (.b (!(a == a' && (b == b' && c == c'))), h)
   | _ => none) else none
 | _, _ => none
def dBl (o2 o3 : Bool) (op : BinOp) (x y : DV) (h : Hp) : aH := bif o3 then bNg op x y h else bZz o2 op x y h
def cMx (op : BinOp) (d : TypeDesc) (x y : DV) (h : Hp) : aH :=
 match d with
 | .int _ => match op with
  | .shl => dL .shl x y h
  | .shr => dL .shr x y h
  | op => aD op x y h
 | .string => fK op x y h
 | d => match op with
  | .eql => pEq d true x y h
  | .neq => pEq d false x y h
  | _ => none
def gP (op : UnOp) (x : DV) (h : Hp) : aH :=
 match op, x with
 | .neg, .i k n => some (.i k (k.wrap (0 - n)), h)
 | .not, .b b => some (.b (!b), h)
 | _, _ => none
def cX (k : IntKind) (x : DV) (h : Hp) : aH :=
 match x with
 | .i _ n => some (.i k (k.wrap n), h)
 | _ => none
def aKz (x : DV) (h : Hp) : aH :=
 match x with
 | .s l => some (.s l, h)
 | _ => none
def xS : List DV → Option (List Nat)
 | [] => some []
 | .i .u8 (.ofNat n) :: l => if n < 256 then (xS l).map (n :: ·) else none
 | _ :: _ => none
def gY (x : DV) (h : Hp) : aH :=
 match x with
 | .l0 => some (.s [], h)
 | .l b o len _ => match cellsAt b o len h with
  | some cs => match xS cs with
   | some l => some (.s l, h)
   | none => none
  | none => none
 | _ => none
def iI (x : DV) (y : Nat) : Option Nat :=
 match x with
 | .i _ i => if 0 ≤ i ∧ i ≤ (y : Int) then some i.toNat else none
 | _ => none
def loD (lo : Option DV) (y : Nat) : Option Nat :=
 match lo with
 | none => some 0
 | some v => iI v y
def hiD (hi : Option DV) (len cap : Nat) : Option Nat :=
 match hi with
 | none => if len ≤ cap then some len else none
 | some v => iI v cap
def fW (x : DV) (lo hi : Option DV) (h : Hp) : aH :=
 match x with
 | .s l => match hiD hi l.length l.length with
  | some e => match loD lo e with
   | some b => some (.s ((l.take e).drop b), h)
   | none => none
  | none => none
 | _ => none
def cT (size : Nat) (x : DV) (lo hi : Option DV) (h : Hp) : aH :=
 match x with
 | .l b o len cap => match hiD hi len cap with
  | some e => match loD lo e with
   | some s =>
    match h.bl.get b with
    | some (.row .ro _) | some (.row .ex _) => some (.l b (if cap = s then o else o + s * size) (e - s) (cap - s), h)
    | some (.row _ _) => if cap = s then some (.le, h) else some (.l b (o + s * size) (e - s) (cap - s), h)
    | _ => none
   | none => none
  | none => none
 | .lx b o len cap => match hiD hi len cap with
  | some e => match loD lo e with
   | some s => some (.lx b (if cap = s then o else o + s * size) (e - s) (cap - s), h)
   | none => none
  | none => none
 | .l0 => match hiD hi 0 0 with
  | some e => match loD lo e with
   | some _ => some (.l0, h)
   | none => none
  | none => none
 | .le => match hiD hi 0 0 with
  | some e => match loD lo e with
   | some _ => some (.le, h)
   | none => none
  | none => none
 | _ => none
def nQ (x : DV) (lo : Option DV) (hi mx : DV) (h : Hp) : aH :=
 match x, lo with
 | .l b o _ cap, none => match iI mx cap with
  | some m => match iI hi m with
   | some n => some (.lx b o n m, h)
   | none => none
  | none => none
 | .lx b o _ cap, none => match iI mx cap with
  | some m => match iI hi m with
   | some n => some (.lx b o n m, h)
   | none => none
  | none => none
 | .l0, none => match iI mx 0, iI hi 0 with
  | some _, some _ => some (.l0, h)
  | _, _ => none
 | .le, none => match iI mx 0, iI hi 0 with
  | some _, some _ => some (.le, h)
  | _, _ => none
 | _, _ => none
def aB (off : Nat) (x : DV) (h : Hp) : aH :=
 match x with
 | .p b o => some (.p b (o + off), h)
 | _ => none
def gJ (off : Nat) (x : DV) (h : Hp) : aH :=
 match x with
 | .a cs => match cs[off]? with
  | some v => some (v, h)
  | none => none
 | _ => none
def aGz (off size : Nat) (x : DV) (h : Hp) : aH :=
 match x with
 | .a cs => some (.a ((cs.drop off).take size), h)
 | _ => none
def aC (size : Nat) (x ix : DV) (h : Hp) : aH :=
 match x, ix with
 | .l b o len _, .i _ i => if 0 ≤ i ∧ i < (len : Int) then some (.p b (o + i.toNat * size), h) else none
 | .lx b o len _, .i _ i => if 0 ≤ i ∧ i < (len : Int) then some (.p b (o + i.toNat * size), h) else none
 | _, _ => none
def lL (n size : Nat) (x ix : DV) (h : Hp) : aH :=
 match x, ix with
 | .p b o, .i _ i => if 0 ≤ i ∧ i < (n : Int) then some (.p b (o + i.toNat * size), h) else none
 | _, _ => none
def cQ (x ix : DV) (h : Hp) : aH :=
 match x, ix with
 | .s l, .i _ i => if 0 ≤ i then (match l[i.toNat]? with
  | some c => some (.i .u8 (c : Int), h)
  | none => none) else none
 | _, _ => none
def aE (i : Nat) (x : DV) (h : Hp) : aH :=
 match x with
 | .t vs => match vs[i]? with
  | some v => some (v, h)
  | none => none
 | _ => none
def aN (c x y : DV) (h : Hp) : aH :=
 match c with
 | .b true => some (x, h)
 | .b false => some (y, h)
 | _ => none
def dI (x : DV) (h : Hp) : aH :=
 match x with
 | .s l => some (.i .i64 (l.length : Int), h)
 | _ => none
def bJ (x : DV) (h : Hp) : aH :=
 match x with
 | .l _ _ n _ => some (.i .i64 (n : Int), h)
 | .lx _ _ n _ => some (.i .i64 (n : Int), h)
 | .l0 => some (.i .i64 0, h)
 | .le => some (.i .i64 0, h)
 | _ => none
def aXo (x y : DV) (h : Hp) : aH :=
 match x, y with
 | .i k a, .i _ b => some (.i k (if b < a then b else a), h)
 | _, _ => none
def dMr (x y : DV) (h : Hp) : aH :=
 match x, y with
 | .i k a, .i _ b => some (.i k (if b > a then b else a), h)
 | _, _ => none
def mE (cells : List DV) : List (Nat × Nat × DV) → Option (List DV)
 | [] => some cells
 | (off, size, v) :: rest =>
  match dR v with
  | some cs => if cs.length = size ∧ off + size ≤ cells.length then mE (cells.take off ++ cs ++ cells.drop (off + size)) rest else none
  | none => none
def bL (zero : List DV) (parts : List (Nat × Nat × DV)) (h : Hp) : aH :=
 match mE zero parts with
 | some cs => some (.a cs, h)
 | none => none
def aO (zeros : List DV) (n : Nat) (parts : List (Nat × Nat × DV)) (h : Hp) : aH :=
 match mE zeros parts with
 | some cs => some (.l h.next 0 n n, ⟨h.next.succ, Tr.set (.row .ex cs) h.next h.bl⟩)
 | none => none
def bB (b : Pos) (zeros : List DV) (n : Nat) (parts : List (Nat × Nat × DV)) (h : Hp) : aH :=
 match mE zeros parts with
 | some cs => some (.l b 0 n n, ⟨h.next, Tr.set (.row .ex cs) b h.bl⟩)
 | none => none
def bV : Nat → List DV → List DV
 | 0, l => l.map fun _ => .u
 | _ + 1, [] => []
 | n + 1, x :: l => x :: bV n l
def aAy (size : Nat) (x : DV) (h : Hp) : Option (Nat × List DV) :=
 match x with
 | .l0 => some (0, [])
 | .le => some (0, [])
 | .l b o n _ => match cellsAt b o (n * size) h with
  | some cs => some (n, cs)
  | none => none
 | .lx b o n _ => match cellsAt b o (n * size) h with
  | some cs => some (n, cs)
  | none => none
 | .s l => if size = 1 then some (l.length, l.map fun (c : Nat) => DV.i .u8 (c : Int)) else none
 | _ => none
def tF : Nat := 70368744177664
def aW (size bytes : Nat) (s x : DV) (h : Hp) : aH :=
 match aAy size x h with
 | none => none
 | some (n, new) =>
  match s with
  | .l0 => if n = 0 then some (.l0, h) else
   if n * bytes ≤ tF then some (.l h.next 0 n n, ⟨h.next.succ, Tr.set (.row (.gr size) new) h.next h.bl⟩) else none
  | .le => if n = 0 then some (.le, h) else none
  | .l b o len cap =>
   if len + n ≤ cap then
    match dF b (o + len * size) new h with
    | some h' => some (.l b o (len + n) cap, h')
    | none => none
   else
    match h.bl.get b, cellsAt b o (len * size) h with
    | some (.row k l), some old =>
     if (len + n) * bytes ≤ tF then
      match k with
      | .ro | .ex => some (.l h.next 0 (len + n) (len + n), ⟨h.next.succ, Tr.set (.row (.gr size) (old ++ new)) h.next h.bl⟩)
      | .gr es => if es = size ∧ o + cap * size = l.length then
        some (.l h.next 0 (len + n) (len + n), ⟨h.next.succ, Tr.set (.row (.gr size) (old ++ new)) h.next (Tr.set (.row .sp (bV o l)) b h.bl)⟩) else none
      | .sp => none
     else none
    | _, _ => none
  | .lx b o len cap => if n = 0 then (if len ≤ cap then some (.lx b o len cap, h) else none) else
   if len + n ≤ cap then none else
   match cellsAt b o (len * size) h with
   | some old => if (len + n) * bytes ≤ tF then some (.l h.next 0 (len + n) (len + n), ⟨h.next.succ, Tr.set (.row (.gr size) (old ++ new)) h.next h.bl⟩) else none
   | none => none
  | _ => none
def pO (x : DV) (h : Hp) : aH :=
 match x with
 | .s l => some (.p h.next 0, ⟨h.next.succ, Tr.set (.it l 0) h.next h.bl⟩)
 | _ => none
def xH (x : DV) (h : Hp) : aH :=
 match x with
 | .p b 0 => match h.bl.get b with
  | some (.it l pos) => match l[pos]? with
   | some c => if c < 128 then some (.t [.b true, .i .i64 (pos : Int), .i .i32 (c : Int)], ⟨h.next, Tr.set (.it l (pos + 1)) b h.bl⟩) else none
   | none => some (.t [.b false], h)
  | _ => none
 | _ => none
def yV (d : TypeDesc) (x y : DV) : Option Bool :=
 match d, x, y with
 | .int _, .i k a, .i k' b => if k = k' then some (a == b) else none
 | .string, .s a, .s b => some (eqD a b)
 | _, _, _ => none
def jU : TypeDesc → Bool
 | .int _ => true
 | .string => true
 | _ => false
def iJ (d : TypeDesc) (k : DV) : List (DV × DV) → Option (Option DV)
 | [] => some none
 | e :: es => match yV d k e.1 with
  | some true => some (some e.2)
  | some false => iJ d k es
  | none => none
def aOw (d : TypeDesc) (k : DV) : List (DV × DV) → Nat → Option (Option (Nat × DV))
 | [], _ => some none
 | e :: es, i => match yV d k e.1 with
  | some true => some (some (i, e.2))
  | some false => aOw d k es (i + 1)
  | none => none
def rP (d : TypeDesc) (k v : DV) : List (DV × DV) → List (DV × DV)
 | [] => [(k, v)]
 | e :: es => match yV d k e.1 with
  | some true => (k, v) :: es
  | _ => e :: rP d k v es
def dX (h : Hp) : aH := some (.m h.next, ⟨h.next.succ, Tr.set (.mp []) h.next h.bl⟩)
def jO (b : Pos) (h : Hp) : aH := some (.m b, ⟨h.next, Tr.set (.mp []) b h.bl⟩)
def jS (x : DV) (h : Hp) : Option (List (DV × DV)) :=
 match x with
 | .m0 => some []
 | .m b => match h.bl.get b with
  | some (.mp es) => some es
  | _ => none
 | _ => none
def gG (d : TypeDesc) (z : DV) (ok : Bool) (x k : DV) (h : Hp) : aH :=
 match jS x h with
 | some es => match iJ d k es with
  | some (some v) => some (bif ok then .t [v, .b true] else v, h)
  | some none => some (bif ok then .t [z, .b false] else z, h)
  | none => none
 | none => none
def gI (d : TypeDesc) (x k v : DV) (h : Hp) : aH :=
 match x with
 | .m b => match h.bl.get b with
  | some (.mp es) => match iJ d k es with
   | some _ => some (aY, ⟨h.next, Tr.set (.mp (rP d k v es)) b h.bl⟩)
   | none => none
  | _ => none
 | _ => none
def cJ (size bytes : Nat) (z : List DV) (n c : DV) (h : Hp) : aH :=
 match n, c with
 | .i .i64 n, .i .i64 c => if 0 ≤ n ∧ n ≤ c ∧ c.toNat * bytes ≤ 2 ^ 30 ∧ c.toNat * size ≤ 2 ^ 24 ∧ c < 2 ^ 32 then
   some (.l h.next 0 n.toNat c.toNat, ⟨h.next.succ, Tr.set (.row .ex (List.replicate c.toNat z).flatten) h.next h.bl⟩) else none
 | _, _ => none
def jZ (z : List DV) (x : DV) (h : Hp) : aH :=
 match x with
 | .l0 => some (.t [], h)
 | .le => some (.t [], h)
 | .l b o n _ => if n = 0 then some (.t [], h) else match dF b o (List.replicate n z).flatten h with
  | some h' => some (.t [], h')
  | none => none
 | _ => none
def iM (d : TypeDesc) (z : DV) (x k : DV) (h : Hp) : aH :=
 match x with
 | .m b => match h.bl.get b with
  | some (.mp es) => match aOw d k es 0 with
   | some (some (j, v)) => some (.t [v, .i .i64 (j : Int)], ⟨h.next, Tr.set (.mp (es.set j (k, v))) b h.bl⟩)
   | some none => some (.t [z, .i .i64 (es.length : Int)], ⟨h.next, Tr.set (.mp (es ++ [(k, z)])) b h.bl⟩)
   | none => none
  | _ => none
 | _ => none
def fR (x s v : DV) (h : Hp) : aH :=
 match x, s with
 | .m b, .i .i64 (.ofNat j) => match h.bl.get b with
  | some (.mp es) => match es[j]? with
   | some e => some (aY, ⟨h.next, Tr.set (.mp (es.set j (e.1, v))) b h.bl⟩)
   | none => none
  | _ => none
 | _, _ => none
def jG (d : TypeDesc) : Bool :=
 match d with
 | .struct _ | .array _ _ => true
 | _ => false
def opr (env : aZ) : Operand → DV
 | .tmp t => env t
 | .const v => zvD v
 | .global _ => .u
 | .func f => .f f [] []
structure Cfg where
 P : Program
 I : FuncId → Option (List DV → Hp → aH)
section
variable (C : Cfg) (rec : FuncId → List DV → Hp → aH)
def bX (g : FuncId) (args : List DV) (h : Hp) : aH :=
 match C.I g with
 | some F => F args h
 | none => rec g args h
def jX (f : DV) (args : List DV) (h : Hp) : aH :=
 match f with
 | .f g first cap => bX C rec g (first ++ args ++ cap) h
 | _ => none
def sJ (l : List DV) (h : Hp) : aH :=
 match l with
 | [x, y] => aXo x y h
 | _ => none
def rV (l : List DV) (h : Hp) : aH :=
 match l with
 | [x, y] => dMr x y h
 | _ => none
def jR (b : Builtin) (ts : List TypeId) (args : List DV) (h : Hp) : aH :=
 match b with
 | .len => match ts, args with
  | [t], [x] => match C.P.underlying t with
   | some .string => dI x h
   | some (.slice _) => bJ x h
   | _ => none
  | _, _ => none
 | .min => sJ args h
 | .max => rV args h
 | .clear => match ts, args with
  | [t], [x] => match C.P.underlying t with
   | some (.slice e) => match C.P.info? e with
    | some i => match i.zero with
     | some z => if 0 < z.cells.size then jZ (xZ z) x h else none
     | none => none
    | none => none
   | _ => none
  | _, _ => none
 | .append => match ts, args with
  | [t, u], [s, x] => match C.P.underlying t, C.P.underlying u with
   | some (.slice e), some (.slice _) | some (.slice e), some .string => match C.P.info? e with
    | some i => match i.zero with
     | some z => if 0 < i.size ∧ 0 < i.bytes ∧ z.cells.size = i.size then aW i.size i.bytes s x h else none
     | none => none
    | none => none
   | _, _ => none
  | _, _ => none
 | _ => none
def jE (o : Oper) (env : aZ) (h : Hp) : aH :=
 match o.op with
 | .move x => some (opr env x, h)
 | .assign x => some (opr env x, h)
 | .pick c a b => aN (opr env c) (opr env a) (opr env b) h
 | .alloc t => match C.P.info? t with
  | some i => match i.zero with
   | some z => bS (xZ z) h
   | none => none
  | none => none
 | .box _ x => bQ (opr env x) h
 | .build t ps => match C.P.underlying t, C.P.info? t with
  | some (.struct fs), some i => match i.zero, fs.toList.mapM (fun f => (C.P.info? f.type).map fun fi => (f.offset, fi.size)) with
   | some z, some pl => match ps.toList.mapM (fun (q : Nat × Operand) => (pl[q.1]?).map fun s => (s.1, s.2, opr env q.2)) with
    | some l => bL (xZ z) l h
    | none => none
   | _, _ => none
  | some (.array _ e), some i => match i.zero, ps.toList, C.P.info? e with
   | some z, [], some _ => bL (xZ z) [] h
   | _, _, _ => none
  | _, _ => none
 | .buildSlice t n ps => match C.P.underlying t with
  | some (.slice e) => match C.P.info? e with
   | some i => match i.zero with
    | some z => if n * i.size ≤ 2 ^ 24 ∧ 0 < i.size ∧ z.cells.size = i.size then
      aO ((List.replicate n (xZ z)).flatten) n (ps.toList.map fun (q : Nat × Operand) => (q.1 * i.size, i.size, opr env q.2)) h else none
    | none => none
   | none => none
  | _ => none
 | .load t a => match C.P.underlying t, C.P.info? t with
  | some d, some i => bif jG d then aL i.size (opr env a) h else aA (opr env a) h
  | _, _ => none
 | .store t a x => match C.P.info? t with
  | some i => aJ i.size (opr env a) (opr env x) h
  | none => none
 | .nilCheck x => aX (opr env x) h
 | .binOp op t x y _ => match C.P.underlying t with
  | some (.struct fs) => dBl (aPs C.P t fs) (aBg C.P t fs) op (opr env x) (opr env y) h
  | some d => cMx op d (opr env x) (opr env y) h
  | none => none
 | .unOp op _ x => gP op (opr env x) h
 | .convert src dst x => match C.P.underlying src, C.P.underlying dst with
  | some _, some (.int k) => cX k (opr env x) h
  | some .string, some .string => aKz (opr env x) h
  | some (.slice e), some .string => match C.P.underlying e with
   | some (.int .u8) => gY (opr env x) h
   | _ => none
  | _, _ => none
 | .makeFunc fn first captured => match fn with
  | .func g => some (.f g (first.toList.map (opr env)) (captured.toList.map (opr env)), h)
  | _ => none
 | .slice t x lo hi mx => match C.P.underlying t, mx with
  | some .string, none => fW (opr env x) (lo.map (opr env)) (hi.map (opr env)) h
  | some (.slice e), none => match C.P.info? e with
   | some i => cT i.size (opr env x) (lo.map (opr env)) (hi.map (opr env)) h
   | none => none
  | some (.slice e), some m => match C.P.info? e, hi with
   | some _, some hv => nQ (opr env x) (lo.map (opr env)) (opr env hv) (opr env m) h
   | _, _ => none
  | _, _ => none
 | .fieldAddr t x f => match C.P.underlying t with
  | some (.struct fs) => match fs[f]? with
   | some fl => match C.P.info? fl.type with
    | some i => if i.size = 0 then none else aB fl.offset (opr env x) h
    | none => none
   | none => none
  | _ => none
 | .field t x f => match C.P.underlying t with
  | some (.struct fs) => match fs[f]? with
   | some fl => match C.P.underlying fl.type, C.P.info? fl.type with
    | some d, some i => bif jG d then aGz fl.offset i.size (opr env x) h else gJ fl.offset (opr env x) h
    | _, _ => none
   | none => none
  | _ => none
 | .indexAddr t x ix => match C.P.underlying t with
  | some (.slice e) => match C.P.info? e with
   | some i => aC i.size (opr env x) (opr env ix) h
   | none => none
  | some (.array n e) => match C.P.info? e with
   | some i => lL n i.size (opr env x) (opr env ix) h
   | none => none
  | _ => none
 | .index t x ix => match C.P.underlying t with
  | some .string => cQ (opr env x) (opr env ix) h
  | _ => none
 | .makeMap _ none => dX h
 | .lookup t x k ok => match C.P.underlying t with
  | some (.map kt et) => match C.P.underlying kt, C.P.info? et with
   | some d, some i => match i.zero with
    | some z => bif jU d then gG d (zvD z) ok (opr env x) (opr env k) h else none
    | none => none
   | _, _ => none
  | _ => none
 | .mapUpdate t m k x => match C.P.underlying t with
  | some (.map kt _) => match C.P.underlying kt with
   | some d => bif jU d then gI d (opr env m) (opr env k) (opr env x) h else none
   | none => none
  | _ => none
 | .mapEntry t m k => match C.P.underlying t with
  | some (.map kt et) => match C.P.underlying kt, C.P.info? et with
   | some d, some i => match i.zero with
    | some z => bif jU d then iM d (zvD z) (opr env m) (opr env k) h else none
    | none => none
   | _, _ => none
  | _ => none
 | .entryStore _ m s x => fR (opr env m) (opr env s) (opr env x) h
 | .makeSlice t n c => match C.P.underlying t with
  | some (.slice e) => match C.P.info? e with
   | some i => match i.zero with
    | some z => if 0 < i.size ∧ z.cells.size = i.size then cJ i.size i.bytes (xZ z) (opr env n) (opr env c) h else none
    | none => none
   | none => none
  | _ => none
 | .extract x i => aE i (opr env x) h
 | .range t x => match C.P.underlying t with
  | some .string => pO (opr env x) h
  | _ => none
 | .next x str => if str then xH (opr env x) h else none
 | .call c => match c.callee with
  | .builtin b => jR C b c.argTypes.toList (c.args.toList.map (opr env)) h
  | .value f => jX C rec (opr env f) (c.args.toList.map (opr env)) h
  | .invoke _ _ => none
 | _ => none
def bG (env : aZ) (d : Option Tmp) (v : DV) : aZ :=
 match d with
 | some t => fun j => bif Nat.beq j t then v else env j
 | none => env
def dD (nt : Nat) : Option Tmp → Bool
 | some t => Nat.blt t nt
 | none => true
def bnd (r : aH) (k : DV → Hp → aH) : aH :=
 match r with
 | some (v, h) => k v h
 | none => none
def aU (c : DV) (a b : aH) : aH :=
 match c with
 | .b true => a
 | .b false => b
 | _ => none
def gD (g : DV) (want : Bool) (r : aH) (h : Hp) : aH :=
 match g with
 | .b x => if x == want then r else some (aY, h)
 | .t [] => some (aY, h)
 | _ => none
def bGq (all : Array Oper) (j : Nat) (env : aZ) : DV :=
 match (all[j]?).bind (·.dst) with
 | some d => env d
 | none => aY
def bH (all : Array Oper) (o : Oper) (env : aZ) (h : Hp) : aH :=
 match o.guard with
 | none => jE C rec o env h
 | some (j, want) => gD (bGq all j env) want (jE C rec o env h) h
@[reducible] noncomputable def cnd (b : Bool) (x : aH) : aH := Bool.rec (motive := fun _ => aH) none x b
noncomputable def gM (nt : Nat) (all : Array Oper) (l : List Oper) (k : K) : K :=
 List.rec (motive := fun _ => K) k (fun o _ ih => fun env h =>
  cnd (dD nt o.dst) (bnd (bH C rec all o env h) fun v h' => ih (bG env o.dst v) h')) l
mutual
def DV.beq : DV → DV → Bool
 | .b x, .b y => x == y
 | .i q x, .i q' y => q == q' && x == y
 | .s x, .s y => eqD x y
 | .p0, .p0 => true
 | .p x y, .p x' y' => x == x' && y == y'
 | .l0, .l0 => true
 | .le, .le => true
 | .l x y z w, .l x' y' z' w' => x == x' && y == y' && z == z' && w == w'
 | .lx x y z w, .lx x' y' z' w' => x == x' && y == y' && z == z' && w == w'
 | .m0, .m0 => true
 | .m x, .m x' => x == x'
 | .f0, .f0 => true
 | .f z x y, .f z' x' y' => z == z' && eNk x x' && eNk y y'
 | .n0, .n0 => true
 | .c x y, .c x' y' => x == x' && DV.beq y y'
 | .a x, .a y => eNk x y
 | .t x, .t y => eNk x y
 | _, _ => false
def eNk : List DV → List DV → Bool
 | [], [] => true
 | x :: xs, y :: ys => DV.beq x y && eNk xs ys
 | _, _ => false
end
def bR (r : aH) (v : DV) : Bool :=
 match r with
 | some (x, _) => DV.beq x v
 | none => false
inductive Cls where
 | pure
 | reads
 | makes
 | acts
 deriving DecidableEq
def bU (P : Program) : Op → Cls
 | .move _ | .assign _ | .pick _ _ _ | .nilCheck _ | .binOp .. | .unOp .. | .fieldAddr .. | .field .. | .index .. | .indexAddr .. | .extract .. | .makeFunc .. | .build .. => .pure
 | .convert src _ _ => match P.underlying src with
  | some (.slice _) => .reads
  | _ => .pure
 | .slice t _ _ _ mx => match P.underlying t with
  | some .string => .pure
  | _ => match mx with
   | none => .reads
   | some _ => .acts
 | .load .. => .reads
 | .lookup .. => .reads
 | .alloc _ => .makes
 | .box .. => .makes
 | .buildSlice .. => .makes
 | .makeMap _ none => .makes
 | .call { callee := .builtin .len, .. } => .pure
 | .call { callee := .builtin .min, .. } => .pure
 | .call { callee := .builtin .max, .. } => .pure
 | _ => .acts
def dQ (o : Oper) (b : Pos) (env : aZ) (h : Hp) : aH :=
 match o.op with
 | .alloc t => match C.P.info? t with
  | some i => match i.zero with
   | some z => iQ b (xZ z) h
   | none => none
  | none => none
 | .box _ x => xJ b (opr env x) h
 | .buildSlice t n ps => match C.P.underlying t with
  | some (.slice e) => match C.P.info? e with
   | some i => match i.zero with
    | some z => if n * i.size ≤ 2 ^ 24 ∧ 0 < i.size ∧ z.cells.size = i.size then
      bB b ((List.replicate n (xZ z)).flatten) n (ps.toList.map fun (q : Nat × Operand) => (q.1 * i.size, i.size, opr env q.2)) h else none
    | none => none
   | none => none
  | _ => none
 | .makeMap _ none => jO b h
 | _ => none
def bN : Nat → Pos → Pos
 | 0, p => p
 | n + 1, p => bN n p.succ
def resv (k : Nat) (h : Hp) : Hp :=
 match k with
 | 0 => h
 | k + 1 => ⟨bN (k + 1) h.next, h.bl⟩
def cG (P : Program) (l : List Oper) : Nat :=
 match l with
 | [] => 0
 | o :: l => (match bU P o.op with
  | .makes => 1
  | _ => 0) + cG P l
def gL (m : Array Nat) (i j : Nat) : Bool := (m.getD j 0).testBit i
def eE (P : Program) (ops : Array Oper) : Bool :=
 let m := Region.before ops
 (List.range ops.size).all fun j =>
  (match ops[j]? with
   | some y => (y.after.all fun e => !Region.binds .any e || Nat.blt e.on j) &&
    (match y.guard with
     | some (g, _) => gL m g j && !(bU P y.op == .makes)
     | none => true) &&
    (List.range j).all fun i =>
     match ops[i]? with
     | some x => gL m i j || (Oper.apart ops x y && !((bU P x.op == .acts || bU P x.op == .makes) && bU P y.op == .acts))
     | none => false
   | none => false)
structure Seen where
 at_ : Nat
 look : Hp → aH
 v : DV
def eK (m : Array Nat) (i : Nat) (v : DV) (look : Hp → aH) : Bool → List (Option Nat × Hp) → Bool
 | _, [] => true
 | dirty, (j, hj) :: rest =>
  (bif dirty then bR (look hj) v else true) && (match j with
   | none => true
   | some j => bif gL m j i then true else eK m i v look true rest)
noncomputable def eI (nt : Nat) (all : Array Oper) (m : Array Nat) (p0 : Pos) (l : List Oper) (k : K) : Nat → Nat → Bool → List Seen → List (Option Nat × Hp) → K :=
 List.rec (motive := fun _ => Nat → Nat → Bool → List Seen → List (Option Nat × Hp) → K) (fun _ _ _ _ _ => k) (fun o _ ih => fun i c dirty rd hs env h =>
  cnd (dD nt o.dst) (
   match bU C.P o.op with
   | .pure => bnd (bH C rec all o env h) fun v h' => ih (i + 1) c dirty rd hs (bG env o.dst v) h'
   | .reads => bnd (bH C rec all o env h) fun v h' =>
     cnd (eK m i v (bH C rec all o env) dirty hs) (ih (i + 1) c dirty (⟨i, bH C rec all o env, v⟩ :: rd) hs (bG env o.dst v) h')
   | .makes => bnd (dQ C o (bN c p0) env h) fun v h' => ih (i + 1) (c + 1) true rd hs (bG env o.dst v) h'
   | .acts => bnd (bH C rec all o env h) fun v h' =>
     cnd (rd.all (fun q => gL m q.at_ i || bR (q.look h') q.v)) (ih (i + 1) c false rd ((some i, h') :: hs) (bG env o.dst v) h'))) l
noncomputable def gQ (nt : Nat) (ops : Array Oper) (k : K) : K := fun env h =>
 eI C rec nt ops (Region.before ops) h.next ops.toList k 0 0 false [] [(none, resv (cG C.P ops.toList) h)] env (resv (cG C.P ops.toList) h)
def cM : K := fun _ _ => none
noncomputable def aK (body : K → K) (n : Nat) : K :=
 Nat.rec (motive := fun _ => K) cM (fun _ ih => body ih) n
noncomputable def aP (nt n : Nat) (c : Code) : (Nat → K) → K → K → K :=
 Code.rec (motive := fun _ => (Nat → K) → K → K → K)
  (fun _ _ k => k)
  (fun _ ops dr _ _ k => Bool.rec (motive := fun _ => K) (gM C rec nt ops ops.toList k) (Bool.rec (motive := fun _ => K) cM (gQ C rec nt ops k) (eE C.P ops)) dr)
  (fun _ _ iha ihb X kr k => iha X kr (ihb X kr k))
  (fun c _ _ iha ihb X kr k => fun env h => aU (opr env c) (iha X kr k env h) (ihb X kr k env h))
  (fun id _ ih X kr k => ih (fun j => bif Nat.beq j id then k else X j) kr k)
  (fun _ ih X kr _ => aK (fun kk => ih X kr kk) n)
  (fun _ _ _ _ _ _ _ _ _ => cM)
  (fun id X _ _ => X id)
  (fun _ ih X kr k => ih X kr k)
  (fun _ _ _ k => k)
  (fun _ _ _ _ => cM)
  (fun _ kr _ => kr)
  (fun _ _ _ _ => cM) c
def aBp (t : TypeId) (x : DV) (h : Hp) (k : DV → aH) : aH :=
 match C.P.underlying t, C.P.info? t with
 | some d, some i => bnd (bif jG d then aL i.size x h else aA x h) fun v _ => k v
 | _, _ => none
noncomputable def bEr (env : aZ) (h : Hp) (l : List ResultVar) : (List DV → aH) → aH :=
 List.rec (motive := fun _ => (List DV → aH) → aH) (fun k => k []) (fun r _ ih k => match r with
  | .tmp t => ih fun vs => k (env t :: vs)
  | .cell a t => aBp C t (env a) h fun v => ih fun vs => k (v :: vs)) l
def bZw (h : Hp) (vs : List DV) : aH :=
 match vs with
 | [v] => some (v, h)
 | vs => some (.t vs, h)
noncomputable def aQ (fn : Func) : K := fun env h => bEr C env h fn.results.toList (bZw h)
def aI (args : List DV) : aZ := fun t => args.getD t aY
noncomputable def aG (n : Nat) (f : FuncId) (args : List DV) (h : Hp) : aH :=
 match C.P.funcs[f]? with
 | some fn => match fn.body with
  | some c => aP C rec fn.ntmps n c (fun _ => cM) (aQ C fn) (aQ C fn) (aI args) h
  | none => none
 | none => none
end
noncomputable def tK (C : Cfg) (n : Nat) : FuncId → List DV → Hp → aH :=
 Nat.rec (motive := fun _ => FuncId → List DV → Hp → aH) (fun _ _ _ => none) (fun m ih => aG C ih m) n
end
end Go.Dd

namespace Go.Dd
theorem eNq : ∀ p : Pos, 0 < p.toNat
 | .h => by simp [Pos.toNat]
 | .o p => by have := eNq p; simp [Pos.toNat]; omega
 | .i p => by simp [Pos.toNat]
theorem eMv : ∀ p : Pos, p.succ.toNat = p.toNat + 1
 | .h => rfl
 | .o p => rfl
 | .i p => by have := eMv p; simp [eNw, eNx, eNy, Pos.toNat, this]; omega
theorem eMs {α : Type} (x : α) : ∀ (p : Pos) (t : Tr α), (Tr.set x p t).get p = some x
 | .h, .e => rfl
 | .h, .n _ _ _ => rfl
 | .o p, .e => by simp [eMz, eNg, eNh, eNi, eNa, eNb, eNc, eNd, eNe, eNf, eMs x p]
 | .o p, .n l _ _ => by simp [eMz, eNg, eNh, eNi, eNa, eNb, eNc, eNd, eNe, eNf, eMs x p]
 | .i p, .e => by simp [eMz, eNg, eNh, eNi, eNa, eNb, eNc, eNd, eNe, eNf, eMs x p]
 | .i p, .n _ _ r => by simp [eMz, eNg, eNh, eNi, eNa, eNb, eNc, eNd, eNe, eNf, eMs x p]
theorem Tr.get_e {α : Type} (q : Pos) : (Tr.e : Tr α).get q = none := by cases q <;> rfl
theorem eMr {α : Type} (x : α) : ∀ (p q : Pos) (t : Tr α), q ≠ p → (Tr.set x p t).get q = t.get q
 | .h, .h, _, hn => absurd rfl hn
 | .h, .o q, .e, _ => by simp [eMz, eNg, eNh, eNi, eNa, eNb, eNc, eNd, eNe, eNf, Tr.get_e]
 | .h, .i q, .e, _ => by simp [eMz, eNg, eNh, eNi, eNa, eNb, eNc, eNd, eNe, eNf, Tr.get_e]
 | .h, .o q, .n _ _ _, _ => rfl
 | .h, .i q, .n _ _ _, _ => rfl
 | .o p, .h, .e, _ => rfl
 | .o p, .o q, .e, hn => by simp only [eMz, eNg, eNh, eNi, eNa, eNb, eNc, eNd, eNe, eNf]; rw [eMr x p q _ (fun e => hn (by rw [e]))]; simp [Tr.get_e]
 | .o p, .i q, .e, _ => by simp [eMz, eNg, eNh, eNi, eNa, eNb, eNc, eNd, eNe, eNf, Tr.get_e]
 | .o p, .h, .n _ _ _, _ => rfl
 | .o p, .o q, .n l _ _, hn => by simp only [eMz, eNg, eNh, eNi, eNa, eNb, eNc, eNd, eNe, eNf]; exact eMr x p q l (fun e => hn (by rw [e]))
 | .o p, .i q, .n _ _ _, _ => rfl
 | .i p, .h, .e, _ => rfl
 | .i p, .i q, .e, hn => by simp only [eMz, eNg, eNh, eNi, eNa, eNb, eNc, eNd, eNe, eNf]; rw [eMr x p q _ (fun e => hn (by rw [e]))]; simp [Tr.get_e]
 | .i p, .o q, .e, _ => by simp [eMz, eNg, eNh, eNi, eNa, eNb, eNc, eNd, eNe, eNf, Tr.get_e]
 | .i p, .h, .n _ _ _, _ => rfl
 | .i p, .i q, .n _ _ r, hn => by simp only [eMz, eNg, eNh, eNi, eNa, eNb, eNc, eNd, eNe, eNf]; exact eMr x p q r (fun e => hn (by rw [e]))
 | .i p, .o q, .n _ _ _, _ => rfl
theorem Tr.get_set {α : Type} (x : α) (p q : Pos) (t : Tr α) : (Tr.set x p t).get q = if q = p then some x else t.get q := by
 split
 ·rename_i h; subst h; exact eMs x _ t
 ·rename_i h; exact eMr x p q t h
structure Loc where
 bl : Nat
 of : Nat
 sp : Nat
 spot : Option Nat
abbrev cN := Pos → Option Loc
def Ext (ρ ρ' : cN) : Prop := ∀ b L, ρ b = some L → ρ' b = some L
theorem Ext.refl (ρ : cN) : Ext ρ ρ := fun _ _ h => h
theorem Ext.trans {a b c : cN} (h : Ext a b) (k : Ext b c) : Ext a c := fun x L hx => k x L (h x L hx)
def fN (L : Loc) (i : Nat) : Addr := ⟨L.bl, L.of + i, if i = 0 then L.spot else none⟩
theorem jI {L : Loc} {i j : Nat} (h : fN L i = fN L j) : i = j := by
 simp [fN] at h; exact h.1
mutual
inductive VR (ρ : cN) : DV → Value → Prop
 | u (v : Value) : VR ρ .u v
 | b (x : Bool) : VR ρ (.b x) (.bool x)
 | i (k : IntKind) (n : Int) : VR ρ (.i k n) (.int k n)
 | s (l : List Nat) (bs : ByteArray) (h : bs.data.toList.map (·.toNat) = l) : VR ρ (.s l) (.string bs)
 | p0 : VR ρ .p0 (.pointer none)
 | p (b : Pos) (o : Nat) (L : Loc) (h : ρ b = some L) : VR ρ (.p b o) (.pointer (some (fN L o)))
 | l0 : VR ρ .l0 (.slice none 0 0)
 | le (a : Addr) (c : Nat) : VR ρ .le (.slice (some a) 0 c)
 | l (b : Pos) (o len cap : Nat) (L : Loc) (h : ρ b = some L) : VR ρ (.l b o len cap) (.slice (some (fN L o)) len (cap + L.sp))
 | lx (b : Pos) (o len cap : Nat) (L : Loc) (h : ρ b = some L) : VR ρ (.lx b o len cap) (.slice (some (fN L o)) len cap)
 | m0 : VR ρ .m0 (.map none)
 | m (b : Pos) (L : Loc) (h : ρ b = some L) : VR ρ (.m b) (.map (some L.bl))
 | f0 : VR ρ .f0 .nilFunc
 | f (g : FuncId) (x y : List DV) (x' y' : Array Value) (hx : VRs ρ x x'.toList) (hy : VRs ρ y y'.toList) : VR ρ (.f g x y) (.func (.func g) x' y')
 | n0 : VR ρ .n0 .nilIface
 | c (t : TypeId) (v : DV) (v' : Value) (h : VR ρ v v') : VR ρ (.c t v) (.iface t v')
 | a (x : List DV) (x' : Array Value) (h : VRs ρ x x'.toList) : VR ρ (.a x) (.agg x')
 | t (x : List DV) (x' : Array Value) (h : VRs ρ x x'.toList) : VR ρ (.t x) (.tuple x')
 | yl (b : Pos) (L : Loc) (h : ρ b = some L) : VR ρ (.yl b) (.func (.yield L.bl) #[] #[])
inductive VRs (ρ : cN) : List DV → List Value → Prop
 | nil : VRs ρ [] []
 | cons (x : DV) (x' : Value) (l : List DV) (l' : List Value) (h : VR ρ x x') (hs : VRs ρ l l') : VRs ρ (x :: l) (x' :: l')
end
mutual
theorem VR.mono {ρ ρ' : cN} (e : Ext ρ ρ') : ∀ {x : DV} {x' : Value}, VR ρ x x' → VR ρ' x x'
 | _, _, .u v => .u v
 | _, _, .b x => .b x
 | _, _, .i k n => .i k n
 | _, _, .s l bs h => .s l bs h
 | _, _, .p0 => .p0
 | _, _, .p b o L h => .p b o L (e _ _ h)
 | _, _, .l0 => .l0
 | _, _, .le a c => .le a c
 | _, _, .l b o n c L h => .l b o n c L (e _ _ h)
 | _, _, .lx b o n c L h => .lx b o n c L (e _ _ h)
 | _, _, .m0 => .m0
 | _, _, .m b L h => .m b L (e _ _ h)
 | _, _, .f0 => .f0
 | _, _, .f g x y x' y' hx hy => .f g x y x' y' (VRs.mono e hx) (VRs.mono e hy)
 | _, _, .n0 => .n0
 | _, _, .c t v v' h => .c t v v' (VR.mono e h)
 | _, _, .a x x' h => .a x x' (VRs.mono e h)
 | _, _, .t x x' h => .t x x' (VRs.mono e h)
 | _, _, .yl b L h => .yl b L (e _ _ h)
theorem VRs.mono {ρ ρ' : cN} (e : Ext ρ ρ') : ∀ {x : List DV} {x' : List Value}, VRs ρ x x' → VRs ρ' x x'
 | _, _, .nil => .nil
 | _, _, .cons x x' l l' h hs => .cons x x' l l' (VR.mono e h) (VRs.mono e hs)
end
theorem VRs.length {ρ : cN} : ∀ {x : List DV} {x' : List Value}, VRs ρ x x' → x.length = x'.length
 | _, _, .nil => rfl
 | _, _, .cons _ _ _ _ _ hs => by simp [VRs.length hs]
theorem VRs.get {ρ : cN} : ∀ {x : List DV} {x' : List Value}, VRs ρ x x' → ∀ (i : Nat) (v : DV), x[i]? = some v → ∃ v', x'[i]? = some v' ∧ VR ρ v v'
 | _, _, .nil, i, v, h => by simp at h
 | _, _, .cons x x' l l' h hs, 0, v, hi => by simp at hi; subst hi; exact ⟨x', by simp, h⟩
 | _, _, .cons x x' l l' h hs, i + 1, v, hi => by simp at hi; simpa using VRs.get hs i v hi
theorem VRs.of_get {ρ : cN} : ∀ {x : List DV} {x' : List Value}, x.length = x'.length → (∀ (i : Nat) v v', x[i]? = some v → x'[i]? = some v' → VR ρ v v') → VRs ρ x x'
 | [], [], _, _ => .nil
 | [], _ :: _, h, _ => by simp at h
 | _ :: _, [], h, _ => by simp at h
 | v :: x, v' :: x', h, hg => .cons _ _ _ _ (hg 0 v v' rfl rfl) (VRs.of_get (by simpa using h) fun i u u' hu hu' => hg (i + 1) u u' (by simpa using hu) (by simpa using hu'))
theorem VRs.append {ρ : cN} : ∀ {x : List DV} {x' : List Value} {y : List DV} {y' : List Value}, VRs ρ x x' → VRs ρ y y' → VRs ρ (x ++ y) (x' ++ y')
 | _, _, _, _, .nil, h => h
 | _, _, _, _, .cons x x' l l' h hs, hy => .cons x x' _ _ h (VRs.append hs hy)
theorem VRs.take {ρ : cN} : ∀ {x : List DV} {x' : List Value} (n : Nat), VRs ρ x x' → VRs ρ (x.take n) (x'.take n)
 | _, _, 0, _ => by simp; exact .nil
 | _, _, n + 1, .nil => by simp; exact .nil
 | _, _, n + 1, .cons x x' l l' h hs => by simp only [List.take_succ_cons]; exact .cons x x' _ _ h (VRs.take n hs)
theorem VRs.drop {ρ : cN} : ∀ {x : List DV} {x' : List Value} (n : Nat), VRs ρ x x' → VRs ρ (x.drop n) (x'.drop n)
 | _, _, 0, h => by simpa using h
 | _, _, n + 1, .nil => by simp; exact .nil
 | _, _, n + 1, .cons x x' l l' h hs => by simp only [List.drop_succ_cons]; exact VRs.drop n hs
theorem VRs.map {ρ : cN} {α : Type} (f : α → DV) (g : α → Value) (h : ∀ x, VR ρ (f x) (g x)) : ∀ l : List α, VRs ρ (l.map f) (l.map g)
 | [] => .nil
 | x :: l => .cons _ _ _ _ (h x) (VRs.map f g h l)
theorem eMy {ρ : cN} {x : List DV} {x' : List Value} (h : VRs ρ x x') : ∀ n, VRs ρ (List.replicate n x).flatten (List.replicate n x').flatten
 | 0 => by simp; exact .nil
 | n + 1 => by simp only [List.replicate_succ, List.flatten_cons]; exact h.append (eMy h n)
def bNq : Value → Bool
 | .agg _ | .tuple _ => false
 | _ => true
theorem VR.one {ρ : cN} {x : DV} {x' : Value} (h : VR ρ x x') (ho : x.one = true) : bNq x' = true := by
 cases h <;> first | rfl | (simp [DV.one] at ho)
theorem VR.cells {ρ : cN} {x : DV} {x' : Value} {cs : List DV} (h : VR ρ x x') (hc : dR x = some cs) : VRs ρ cs x'.cells.toList := by
 cases h <;> simp [dR] at hc <;> subst hc <;> simp only [Value.cells] <;>
  first
  | assumption
  | exact .cons _ _ _ _ (by constructor <;> assumption) .nil
theorem VR.cv (ρ : cN) (v : Value) : VR ρ (cv v) v := by
 unfold Dd.cv
 split <;> first | constructor <;> rfl | constructor
theorem eOa (ρ : cN) (z : Value) : VR ρ (zvD z) z := by
 unfold zvD
 split
 ·exact .a _ _ (VRs.of_get (by simp) fun i v v' h h' => by
   simp only [List.getElem?_map] at h
   rw [h'] at h
   simp at h
   subst h
   exact VR.cv ρ v')
 ·exact VR.cv ρ _
theorem eNv (ρ : cN) (z : Value) : VRs ρ (xZ z) z.cells.toList := by
 unfold xZ
 generalize z.cells.toList = l
 induction l with
 | nil => exact .nil
 | cons x l ih => exact .cons _ _ _ _ (VR.cv ρ x) ih
theorem aHr : ∀ a b : List Nat, eqD a b = true ↔ a = b
 | [], [] => by simp [eqD]
 | [], _ :: _ => by simp [eqD]
 | _ :: _, [] => by simp [eqD]
 | x :: a, y :: b => by simp [eqD, aHr a b]
mutual
theorem eNo : ∀ x y : DV, DV.beq x y = true → x = y
 | .b x, .b y, h => by simp [DV.beq] at h; rw [h]
 | .i q x, .i q' y, h => by simp [DV.beq] at h; rw [h.1, h.2]
 | .s x, .s y, h => by simp [DV.beq] at h; rw [(aHr x y).1 h]
 | .p0, .p0, _ => rfl
 | .p x y, .p x' y', h => by simp [DV.beq] at h; rw [h.1, h.2]
 | .l0, .l0, _ => rfl
 | .le, .le, _ => rfl
 | .l x y z w, .l x' y' z' w', h => by simp [DV.beq] at h; rw [h.1.1.1, h.1.1.2, h.1.2, h.2]
 | .lx x y z w, .lx x' y' z' w', h => by simp [DV.beq] at h; rw [h.1.1.1, h.1.1.2, h.1.2, h.2]
 | .m0, .m0, _ => rfl
 | .m x, .m x', h => by simp [DV.beq] at h; rw [h]
 | .f0, .f0, _ => rfl
 | .f z x y, .f z' x' y', h => by simp [DV.beq] at h; rw [h.1.1, eNl _ _ h.1.2, eNl _ _ h.2]
 | .n0, .n0, _ => rfl
 | .c x y, .c x' y', h => by simp [DV.beq] at h; rw [h.1, eNo _ _ h.2]
 | .a x, .a y, h => by simp [DV.beq] at h; rw [eNl _ _ h]
 | .t x, .t y, h => by simp [DV.beq] at h; rw [eNl _ _ h]
theorem eNl : ∀ x y : List DV, eNk x y = true → x = y
 | [], [], _ => rfl
 | x :: xs, y :: ys, h => by simp [eNk] at h; rw [eNo _ _ h.1, eNl _ _ h.2]
 | [], _ :: _, h => by simp [eNk] at h
 | _ :: _, [], h => by simp [eNk] at h
end
end Go.Dd

namespace Go.Dd
open Go
def dZs (_ : World) : Prop := True
end Go.Dd

namespace Go.Dd
open Go.RowKit (Below)
theorem dY {w : World} {a : Addr} {v : Value} (h : w.cell? a = some v) : a.block < w.heap.size := World.block_lt_of_cell? w a h
theorem dM {w : World} {o : Obj} {a : Addr} (h : a.block < w.heap.size) : (w.alloc o).cell? a = w.cell? a := World.cell?_alloc_lt w o a h
theorem fY {w : World} {o : Obj} {a : Addr} (h : a.block ≠ w.heap.size) : (w.alloc o).frozen? a = w.frozen? a := World.frozen?_alloc_old w o a h
theorem aAu {w : World} {a : Addr} {v u : Value} (h : w.cell? a = some u) : (w.setCell a v).cell? a = some v := World.cell?_setCell_same w a v h
theorem nC {w : World} {a b : Addr} {v : Value} (h : a ≠ b) : (w.setCell a v).cell? b = w.cell? b := World.cell?_setCell_other w a b v h
def Claims (ρ : cN) (h : Hp) (b : Pos) (a : Addr) : Prop :=
 ∃ k l L, h.bl.get b = some (.row k l) ∧ ρ b = some L ∧
  ((∃ i v, l[i]? = some v ∧ v.one = true ∧ a = fN L i) ∨ (∃ es j, k = .gr es ∧ j < L.sp * es ∧ a = fN L (l.length + j)))
def isRo (h : Hp) (b : Pos) : Prop := ∃ l, h.bl.get b = some (.row .ro l)
structure Gd where
 B : Nat
 X : Nat → Prop
 N : Nat
 W : Array Obj
 ok : ∀ w : World, (∀ k, k < B → w.heap[k]? = W[k]?) → dZs w
def Own (G : Gd) (k : Nat) : Prop := G.B ≤ k ∧ ¬ G.X k
structure Kp (G : Gd) (w w' : World) : Prop where
 low : Below G.B w w'
 ex : ∀ k, G.X k → w'.heap[k]? = w.heap[k]?
theorem Kp.refl (G : Gd) (w : World) : Kp G w w := ⟨Below.refl _ w, fun _ _ => rfl⟩
theorem Kp.trans {G : Gd} {a b c : World} (h : Kp G a b) (k : Kp G b c) : Kp G a c := ⟨h.low.trans k.low, fun i hi => (k.ex i hi).trans (h.ex i hi)⟩
theorem Kp.drew {G : Gd} {a w : World} (h : Kp G a w) : Kp G a w.drew := ⟨h.low.drew, h.ex⟩
structure Ex (G : Gd) (ρ ρ' : cN) : Prop where
 ext : Ext ρ ρ'
 new : ∀ b L, ρ' b = some L → ρ b = some L ∨ G.N ≤ b.toNat
theorem Ex.refl (G : Gd) (ρ : cN) : Ex G ρ ρ := ⟨Ext.refl ρ, fun _ _ h => .inl h⟩
theorem Ex.trans {G : Gd} {a b c : cN} (h : Ex G a b) (k : Ex G b c) : Ex G a c := ⟨h.ext.trans k.ext, fun x L hx => (k.new x L hx).elim (fun h1 => h.new x L h1) .inr⟩
def SgR (ρ : cN) : Ob → Obj → Prop
 | .it s pos, o => ∃ bs, o = .stringIter bs pos ∧ bs.data.toList.map (·.toNat) = s
 | .mp es, o => ∃ arr clock, o = .map arr clock ∧ VRs ρ (es.map (·.1)) (arr.toList.map (·.key)) ∧ VRs ρ (es.map (·.2)) (arr.toList.map (·.val)) ∧ clock = arr.size ∧ ∀ (i : Nat) (e : MapEntry), arr[i]? = some e → e.born = i
 | _, _ => False
theorem SgR.mono {ρ ρ' : cN} (e : Ext ρ ρ') {o : Ob} {x : Obj} (h : SgR ρ o x) : SgR ρ' o x := by
 cases o with
 | row k l => exact h
 | big n t => exact h
 | mi t => exact h
 | it s pos => exact h
 | mp es =>
  obtain ⟨arr, cl, h1, h2, h3, h4⟩ := h
  exact ⟨arr, cl, h1, h2.mono e, h3.mono e, h4⟩
def nc : Obj → Prop
 | .stringIter _ _ => True
 | .map _ _ => True
 | _ => False
theorem SgR.nc {ρ : cN} {o : Ob} {x : Obj} (h : SgR ρ o x) : nc x := by
 cases o with
 | row k l => exact h.elim
 | big n t => exact h.elim
 | mi t => exact h.elim
 | it s pos => obtain ⟨bs, h1, _⟩ := h; subst h1; trivial
 | mp es => obtain ⟨arr, cl, h1, _⟩ := h; subst h1; trivial
theorem bAq {w : World} {a : Addr} {v : Value} {x : Obj} (ha : w.cell? a = some v) (h : w.heap[a.block]? = some x) (hn : nc x) : False := by
 unfold World.cell? at ha
 rw [h] at ha
 cases x <;> first | exact hn | cases ha
structure HR (G : Gd) (ρ : cN) (h : Hp) (w : World) : Prop where
 gl : ∀ k, k < G.B → w.heap[k]? = G.W[k]?
 sz : G.B ≤ w.heap.size ∧ ∀ k, G.X k → k < w.heap.size
 nx : G.N ≤ h.next.toNat
 ro : ∀ b a, Claims ρ h b a → isRo h b → a.block < G.B
 dom : ∀ b o, h.bl.get b = some o → ∃ L, ρ b = some L
 lt : ∀ b L, ρ b = some L → b.toNat < h.next.toNat
 cell : ∀ b k l L i v, h.bl.get b = some (.row k l) → ρ b = some L → l[i]? = some v → v.one = true → ∃ v', w.cell? (fN L i) = some v' ∧ VR ρ v v'
 spare : ∀ b l L es j, h.bl.get b = some (.row (.gr es) l) → ρ b = some L → j < L.sp * es → ∃ v', w.cell? (fN L (l.length + j)) = some v'
 free : ∀ b a, Claims ρ h b a → ¬ isRo h b → w.frozen? a = false ∧ Own G a.block
 inj : ∀ b b' a, Claims ρ h b a → Claims ρ h b' a → ¬ isRo h b → b = b'
 ex : ∀ b l L, h.bl.get b = some (.row .ro l) ∨ h.bl.get b = some (.row .ex l) → ρ b = some L → L.sp = 0
 grone : ∀ b es l (i : Nat) v, h.bl.get b = some (.row (.gr es) l) → l[i]? = some v → v.one = true
 itr : ∀ b o L, o.sg = true → h.bl.get b = some o → ρ b = some L → Own G L.bl ∧ (L.of = 0 ∧ L.spot = none) ∧ ∃ x, w.heap[L.bl]? = some x ∧ SgR ρ o x
 itj : ∀ b o b' o' L L', o.sg = true → o'.sg = true → h.bl.get b = some o → h.bl.get b' = some o' → ρ b = some L → ρ b' = some L' → L.bl = L'.bl → b = b'
def mH (ρ : cN) (b : Pos) (L : Loc) : cN := fun x => if x = b then some L else ρ x
theorem HR.fresh {G : Gd} {ρ : cN} {h : Hp} {w : World} (H : HR G ρ h w) : ρ h.next = none := by
 cases hr : ρ h.next with
 | none => rfl
 | some L => exact absurd (H.lt _ _ hr) (Nat.lt_irrefl _)
theorem HR.fresh_get {G : Gd} {ρ : cN} {h : Hp} {w : World} (H : HR G ρ h w) : h.bl.get h.next = none := by
 cases hr : h.bl.get h.next with
 | none => rfl
 | some o => obtain ⟨L, hL⟩ := H.dom _ _ hr; rw [H.fresh] at hL; cases hL
theorem HR.ext {G : Gd} {ρ : cN} {h : Hp} {w : World} (H : HR G ρ h w) (L : Loc) : Ext ρ (mH ρ h.next L) := by
 intro b L' hb
 unfold mH
 split
 ·rename_i e; subst e; rw [H.fresh] at hb; cases hb
 ·exact hb
theorem cB (ρ : cN) (b : Pos) (L : Loc) : mH ρ b L b = some L := by simp [mH]
theorem aV (ρ : cN) {b x : Pos} (L : Loc) (h : x ≠ b) : mH ρ b L x = ρ x := by simp [mH, h]
theorem HR.lt_cell {G : Gd} {ρ : cN} {h : Hp} {w : World} (H : HR G ρ h w) {b : Pos} {a : Addr} (hc : Claims ρ h b a) : ∃ v, w.cell? a = some v := by
 obtain ⟨k, l, L, hb, hL, ⟨i, v, hi, hv, rfl⟩ | ⟨es, j, rfl, hj, rfl⟩⟩ := hc
 ·obtain ⟨v', h1, _⟩ := H.cell b k l L i v hb hL hi hv; exact ⟨v', h1⟩
 ·exact H.spare b l L es j hb hL hj
theorem HR.congr {G : Gd} {ρ : cN} {h : Hp} {w w' : World} (H : HR G ρ h w) (e : w'.heap = w.heap) : HR G ρ h w' where
 gl := by rw [e]; exact H.gl
 sz := by rw [e]; exact H.sz
 nx := H.nx
 ro := H.ro
 dom := H.dom
 lt := H.lt
 cell := fun b k l L i v h1 h2 h3 h4 => by
  obtain ⟨v', h5, h6⟩ := H.cell b k l L i v h1 h2 h3 h4
  exact ⟨v', by simpa [World.cell?, e] using h5, h6⟩
 spare := fun b l L es j h1 h2 h3 => by
  obtain ⟨v', h5⟩ := H.spare b l L es j h1 h2 h3
  exact ⟨v', by simpa [World.cell?, e] using h5⟩
 free := fun b a h1 h2 => by simpa [World.frozen?, e] using H.free b a h1 h2
 inj := H.inj
 ex := H.ex
 grone := H.grone
 itr := fun b o L h0 h1 h2 => by rw [e]; exact H.itr b o L h0 h1 h2
 itj := H.itj
theorem HR.drew {G : Gd} {ρ : cN} {h : Hp} {w : World} (H : HR G ρ h w) : HR G ρ h w.drew := H.congr rfl
theorem eMw {ρ : cN} {h : Hp} {o : Ob} {L : Loc} {b : Pos} {a : Addr} (hb : b ≠ h.next)
  (hc : Claims (mH ρ h.next L) ⟨h.next.succ, Tr.set o h.next h.bl⟩ b a) : Claims ρ h b a := by
 obtain ⟨k, l, L', h1, h2, h3⟩ := hc
 simp only [eMr _ _ _ _ hb] at h1
 rw [aV _ _ hb] at h2
 exact ⟨k, l, L', h1, h2, h3⟩
theorem iE {h : Hp} {o : Ob} {b : Pos} (hb : b ≠ h.next) : isRo ⟨h.next.succ, Tr.set o h.next h.bl⟩ b ↔ isRo h b := by
 simp [isRo, eMr _ _ _ _ hb]
theorem tW {G : Gd} {ρ : cN} {h : Hp} {w : World} (H : HR G ρ h w) (L : Loc) : ∀ b L', mH ρ h.next L b = some L' → b.toNat < h.next.succ.toNat := by
 intro b L' hb
 rw [eMv]
 unfold mH at hb
 split at hb
 ·rename_i e; subst e; omega
 ·have := H.lt _ _ hb; omega
theorem HR.exx {G : Gd} {ρ : cN} {h : Hp} {w : World} (H : HR G ρ h w) (L : Loc) : Ex G ρ (mH ρ h.next L) := ⟨H.ext L, fun b L' hb => by
 unfold mH at hb
 split at hb
 ·rename_i e; subst e; exact .inr H.nx
 ·exact .inl hb⟩
theorem HR.own_new {G : Gd} {ρ : cN} {h : Hp} {w : World} (H : HR G ρ h w) : Own G w.heap.size := ⟨H.sz.1, fun hx => Nat.lt_irrefl _ (H.sz.2 _ hx)⟩
theorem dV {G : Gd} {w : World} (hB : G.B ≤ w.heap.size ∧ ∀ k, G.X k → k < w.heap.size) (o : Obj) : Kp G w (w.alloc o) :=
 ⟨(Below.refl _ w).alloc hB.1 o, fun k hk => Below.heap_alloc _ _ _ (hB.2 k hk)⟩
theorem HR.newRow {G : Gd} {ρ : cN} {h : Hp} {w : World} (H : HR G ρ h w) (k : Kind) (cs : List DV) (vs : List Value) (arr : Array Value) (t : TypeId) (sp : Nat)
  (hcs : VRs ρ cs vs) (harr : ∀ (i : Nat) v, vs[i]? = some v → arr[i]? = some v)
  (hk : (k = .ex ∧ sp = 0) ∨ (∃ es, k = .gr es ∧ vs.length + sp * es ≤ arr.size ∧ ∀ v ∈ cs, v.one = true)) :
  HR G (mH ρ h.next ⟨w.heap.size, 0, sp, none⟩) ⟨h.next.succ, Tr.set (.row k cs) h.next h.bl⟩ (w.alloc (.cells arr t)) := by
 have hext := H.ext ⟨w.heap.size, 0, sp, none⟩
 have hro : k ≠ .ro := by rintro rfl; rcases hk with ⟨h1, _⟩ | ⟨es, h1, _, _⟩ <;> cases h1
 have hnew : ∀ a, Claims (mH ρ h.next ⟨w.heap.size, 0, sp, none⟩) ⟨h.next.succ, Tr.set (.row k cs) h.next h.bl⟩ h.next a → ∃ j, j < arr.size ∧ a = ⟨w.heap.size, j, none⟩ := by
  rintro a ⟨k', l', L', h1, h2, h3⟩
  simp only [eMs, bD, Ob.row.injEq] at h1
  obtain ⟨rfl, rfl⟩ := h1
  rw [cB] at h2
  cases h2
  rcases h3 with ⟨i, v, hi, hv, rfl⟩ | ⟨es, j, rfl, hj, rfl⟩
  ·obtain ⟨v', hv', _⟩ := hcs.get i v hi
   have := harr i v' hv'
   refine ⟨i, ?_, by simp [fN]⟩
   rcases Nat.lt_or_ge i arr.size with h | h
   ·exact h
   ·simp [Array.getElem?_eq_none h] at this
  ·refine ⟨cs.length + j, ?_, by simp [fN]⟩
   rcases hk with ⟨h1, _⟩ | ⟨es', h1, h2, _⟩
   ·cases h1
   ·cases h1
    rw [hcs.length]
    simp only at hj
    omega
 have hold : ∀ b a, b ≠ h.next → Claims (mH ρ h.next ⟨w.heap.size, 0, sp, none⟩) ⟨h.next.succ, Tr.set (.row k cs) h.next h.bl⟩ b a → a.block < w.heap.size := by
  intro b a hb hc
  obtain ⟨v, hv⟩ := H.lt_cell (eMw hb hc)
  exact dY hv
 refine { gl := fun k hk => by rw [Below.heap_alloc _ _ _ (Nat.lt_of_lt_of_le hk H.sz.1)]; exact H.gl k hk, sz := ?_, nx := ?_, ro := ?_, dom := ?_, lt := tW H _, cell := ?_, spare := ?_, free := ?_, inj := ?_, ex := ?_, grone := ?_, itr := ?_, itj := ?_ }
 ·obtain ⟨h1, h2⟩ := H.sz
  refine ⟨by simp; omega, fun k hk => ?_⟩
  have := h2 k hk
  simp; omega
 ·have := H.nx; simp only [eMv]; omega
 ·intro b a hc hr
  by_cases e : b = h.next
  ·subst e
   obtain ⟨l0, h0⟩ := hr
   simp only [eMs, bD, Ob.row.injEq] at h0
   exact absurd h0.1 hro
  ·exact H.ro b a (eMw e hc) ((iE e).1 hr)
 ·intro b o hb
  by_cases e : b = h.next
  ·subst e; exact ⟨_, cB _ _ _⟩
  ·rw [aV _ _ e]; simp only [eMr _ _ _ _ e] at hb; exact H.dom b o hb
 ·intro b k' l' L' i v hb hL hi hv
  by_cases e : b = h.next
  ·subst e
   simp only [eMs, bD, Ob.row.injEq] at hb
   obtain ⟨rfl, rfl⟩ := hb
   rw [cB] at hL
   cases hL
   obtain ⟨v', hv', hr⟩ := hcs.get i v hi
   refine ⟨v', ?_, hr.mono hext⟩
   have := harr i v' hv'
   simpa [fN] using this
  ·simp only [eMr _ _ _ _ e] at hb
   rw [aV _ _ e] at hL
   obtain ⟨v', h5, h6⟩ := H.cell b k' l' L' i v hb hL hi hv
   exact ⟨v', by rw [dM (dY h5)]; exact h5, h6.mono hext⟩
 ·intro b l' L' es j hb hL hj
  by_cases e : b = h.next
  ·subst e
   simp only [eMs, bD, Ob.row.injEq] at hb
   obtain ⟨rfl, rfl⟩ := hb
   rw [cB] at hL
   cases hL
   rcases hk with ⟨h1, _⟩ | ⟨es', h1, h2, _⟩
   ·cases h1
   ·cases h1
    simp only at hj
    have hlt : cs.length + j < arr.size := by rw [hcs.length]; omega
    exact ⟨arr[cs.length + j], by simp [fN, hlt]⟩
  ·simp only [eMr _ _ _ _ e] at hb
   rw [aV _ _ e] at hL
   obtain ⟨v', h5⟩ := H.spare b l' L' es j hb hL hj
   exact ⟨v', by rw [dM (dY h5)]; exact h5⟩
 ·intro b a hc hr
  by_cases e : b = h.next
  ·subst e
   obtain ⟨j, hj, rfl⟩ := hnew a hc
   exact ⟨by simp, H.own_new⟩
  ·have hlt := hold b a e hc
   have := H.free b a (eMw e hc) (fun h => hr ((iE e).2 h))
   rw [fY (by omega)]
   exact this
 ·intro b b' a hc hc' hr
  by_cases e : b = h.next
  ·subst e
   by_cases e' : b' = h.next
   ·exact e'.symm
   ·obtain ⟨j, hj, rfl⟩ := hnew a hc
    have := hold b' _ e' hc'
    exact absurd this (by simp)
  ·by_cases e' : b' = h.next
   ·subst e'
    obtain ⟨j, hj, rfl⟩ := hnew a hc'
    have := hold b _ e hc
    exact absurd this (by simp)
   ·exact H.inj b b' a (eMw e hc) (eMw e' hc') (fun h => hr ((iE e).2 h))
 ·intro b l' L' hb hL
  by_cases e : b = h.next
  ·subst e
   simp only [eMs, bD, Ob.row.injEq] at hb
   rw [cB] at hL
   cases hL
   rcases hk with ⟨_, h1⟩ | ⟨es, h1, _, _⟩
   ·exact h1
   ·rcases hb with ⟨h2, _⟩ | ⟨h2, _⟩ <;> rw [h1] at h2 <;> cases h2
  ·simp only [eMr _ _ _ _ e] at hb
   rw [aV _ _ e] at hL
   exact H.ex b l' L' hb hL
 ·intro b es l' i v hb hi
  by_cases e : b = h.next
  ·subst e
   simp only [eMs, bD, Ob.row.injEq] at hb
   obtain ⟨h1, rfl⟩ := hb
   rcases hk with ⟨h2, _⟩ | ⟨es', h2, _, h3⟩
   ·rw [h1] at h2; cases h2
   ·exact h3 v (List.mem_of_getElem? hi)
  ·simp only [eMr _ _ _ _ e] at hb
   exact H.grone b es l' i v hb hi
 ·intro b o L' h0 hb hL
  by_cases e : b = h.next
  ·subst e; simp [eMs] at hb; subst hb; cases h0
  ·simp only [eMr _ _ _ _ e] at hb
   rw [aV _ _ e] at hL
   obtain ⟨h1, h2, bs, h3, h4⟩ := H.itr b o L' h0 hb hL
   refine ⟨h1, h2, bs, ?_, h4.mono (H.ext _)⟩
   have hlt : L'.bl < w.heap.size := by
    rcases Nat.lt_or_ge L'.bl w.heap.size with h | h
    ·exact h
    ·simp [Array.getElem?_eq_none h] at h3
   rw [Below.heap_alloc _ _ _ hlt]
   exact h3
 ·intro b o b' o' L1 L2 h0 h0' hb hb' hL hL' he
  by_cases e : b = h.next
  ·subst e; simp [eMs] at hb; subst hb; cases h0
  ·by_cases e' : b' = h.next
   ·subst e'; simp [eMs] at hb'; subst hb'; cases h0'
   ·simp only [eMr _ _ _ _ e] at hb
    simp only [eMr _ _ _ _ e'] at hb'
    rw [aV _ _ e] at hL
    rw [aV _ _ e'] at hL'
    exact H.itj b o b' o' L1 L2 h0 h0' hb hb' hL hL' he
theorem eOb {G : Gd} {ρ : cN} {h : Hp} {w : World} (H : HR G ρ h w) (k : Kind) (L : Loc)
  (hk : (k = .ex ∧ L.sp = 0) ∨ k = .sp) :
  HR G (mH ρ h.next L) ⟨h.next.succ, Tr.set (.row k []) h.next h.bl⟩ w := by
 have hext := H.ext L
 have hnew : ∀ a, ¬ Claims (mH ρ h.next L) ⟨h.next.succ, Tr.set (.row k []) h.next h.bl⟩ h.next a := by
  rintro a ⟨k', l', L', h1, h2, h3⟩
  simp only [eMs, bD, Ob.row.injEq] at h1
  obtain ⟨rfl, rfl⟩ := h1
  rcases h3 with ⟨i, v, hi, hv, rfl⟩ | ⟨es, j, rfl, hj, rfl⟩
  ·simp at hi
  ·rcases hk with ⟨h1, _⟩ | h1 <;> cases h1
 refine { gl := H.gl, sz := H.sz, nx := ?_, ro := ?_, dom := ?_, lt := tW H _, cell := ?_, spare := ?_, free := ?_, inj := ?_, ex := ?_, grone := ?_, itr := ?_, itj := ?_ }
 ·have := H.nx; simp only [eMv]; omega
 ·intro b a hc hr
  by_cases e : b = h.next
  ·subst e; exact absurd hc (hnew a)
  ·exact H.ro b a (eMw e hc) ((iE e).1 hr)
 ·intro b o hb
  by_cases e : b = h.next
  ·subst e; exact ⟨_, cB _ _ _⟩
  ·rw [aV _ _ e]; simp only [eMr _ _ _ _ e] at hb; exact H.dom b o hb
 ·intro b k' l' L' i v hb hL hi hv
  by_cases e : b = h.next
  ·subst e
   simp only [eMs, bD, Ob.row.injEq] at hb
   obtain ⟨rfl, rfl⟩ := hb
   simp at hi
  ·simp only [eMr _ _ _ _ e] at hb
   rw [aV _ _ e] at hL
   obtain ⟨v', h5, h6⟩ := H.cell b k' l' L' i v hb hL hi hv
   exact ⟨v', h5, h6.mono hext⟩
 ·intro b l' L' es j hb hL hj
  by_cases e : b = h.next
  ·subst e
   simp only [eMs, bD, Ob.row.injEq] at hb
   rcases hk with ⟨h1, _⟩ | h1 <;> rw [h1] at hb <;> cases hb.1
  ·simp only [eMr _ _ _ _ e] at hb
   rw [aV _ _ e] at hL
   exact H.spare b l' L' es j hb hL hj
 ·intro b a hc hr
  by_cases e : b = h.next
  ·subst e; exact absurd hc (hnew a)
  ·exact H.free b a (eMw e hc) (fun h => hr ((iE e).2 h))
 ·intro b b' a hc hc' hr
  by_cases e : b = h.next
  ·subst e; exact absurd hc (hnew a)
  ·by_cases e' : b' = h.next
   ·subst e'; exact absurd hc' (hnew a)
   ·exact H.inj b b' a (eMw e hc) (eMw e' hc') (fun h => hr ((iE e).2 h))
 ·intro b l' L' hb hL
  by_cases e : b = h.next
  ·subst e
   simp only [eMs, bD, Ob.row.injEq] at hb
   rw [cB] at hL
   cases hL
   rcases hk with ⟨_, h1⟩ | h1
   ·exact h1
   ·rcases hb with ⟨h2, _⟩ | ⟨h2, _⟩ <;> rw [h1] at h2 <;> cases h2
  ·simp only [eMr _ _ _ _ e] at hb
   rw [aV _ _ e] at hL
   exact H.ex b l' L' hb hL
 ·intro b es l' i v hb hi
  by_cases e : b = h.next
  ·subst e
   simp only [eMs, bD, Ob.row.injEq] at hb
   obtain ⟨h1, rfl⟩ := hb
   simp at hi
  ·simp only [eMr _ _ _ _ e] at hb
   exact H.grone b es l' i v hb hi
 ·intro b o L' h0 hb hL
  by_cases e : b = h.next
  ·subst e; simp [eMs] at hb; subst hb; cases h0
  ·simp only [eMr _ _ _ _ e] at hb
   rw [aV _ _ e] at hL
   obtain ⟨h1, h2, x, h3, h4⟩ := H.itr b o L' h0 hb hL
   exact ⟨h1, h2, x, h3, h4.mono (H.ext _)⟩
 ·intro b o b' o' L1 L2 h0 h0' hb hb' hL hL' he
  by_cases e : b = h.next
  ·subst e; simp [eMs] at hb; subst hb; cases h0
  ·by_cases e' : b' = h.next
   ·subst e'; simp [eMs] at hb'; subst hb'; cases h0'
   ·simp only [eMr _ _ _ _ e] at hb
    simp only [eMr _ _ _ _ e'] at hb'
    rw [aV _ _ e] at hL
    rw [aV _ _ e'] at hL'
    exact H.itj b o b' o' L1 L2 h0 h0' hb hb' hL hL' he
end Go.Dd

namespace Go.Dd
open Go.RowKit (Below)
theorem gH (L : Loc) (o i : Nat) : (fN L o).add i = fN L (o + i) := by
 unfold Addr.add fN
 split
 ·rename_i h; subst h; rfl
 ·rename_i h; simp [Nat.add_assoc]; intro _ h2; exact absurd h2 h
theorem aBc {P : Program} {w : World} {a : Addr} {v x : Value} (h : w.cell? a = some x) (hf : w.frozen? a = false) (ho : bNq v = true) :
  (store a v).run P w = .ok () (w.setCell a v) := by
 cases v <;> simp [bNq] at ho <;> simp [store, Sem.run, h, hf]
structure Wrote (w w' : World) (L : Loc) (n : Nat) (vs : List Value) : Prop where
 os : w'.os = w.os
 tape : w'.tape = w.tape
 output : w'.output = w.output
 size : w'.heap.size = w.heap.size
 block : ∀ k : Nat, k ≠ L.bl → w'.heap[k]? = w.heap[k]?
 new : ∀ (j : Nat) v, vs[j]? = some v → w'.cell? (fN L (n + j)) = some v
 old : ∀ a, (∀ j, j < vs.length → a ≠ fN L (n + j)) → w'.cell? a = w.cell? a
 frozen : ∀ a, w'.frozen? a = w.frozen? a
 kept : ∀ x (k : Nat), nc x → w.heap[k]? = some x → w'.heap[k]? = some x
 no : vs = [] → w' = w
theorem Wrote.nil (w : World) (L : Loc) (n : Nat) : Wrote w w L n [] :=
 ⟨rfl, rfl, rfl, rfl, fun _ _ => rfl, by simp, fun _ _ => rfl, fun _ => rfl, fun _ _ _ h => h, fun _ => rfl⟩
theorem aCg {w : World} {a : Addr} {v : Value} {x : Obj} {k : Nat} (hx : nc x) (h : w.heap[k]? = some x) :
  (w.setCell a v).heap[k]? = some x := by
 simp only [World.setCell, Array.getElem?_modify]
 split
 ·rename_i e; subst e; rw [h]; cases x <;> first | rfl | exact hx.elim
 ·exact h
theorem Wrote.cons {w w' : World} {L : Loc} {n : Nat} {v x : Value} {vs : List Value} (hx : w.cell? (fN L n) = some x)
  (h : Wrote (w.setCell (fN L n) v) w' L (n + 1) vs) : Wrote w w' L n (v :: vs) where
 os := h.os
 tape := h.tape
 output := h.output
 size := by rw [h.size]; simp
 block := fun k hk => by rw [h.block k hk, Below.heap_setCell _ _ _ _ (by simpa [fN] using hk)]
 new := fun j u hj => by
  cases j with
  | zero =>
   simp at hj; subst hj
   rw [Nat.add_zero, h.old _ (fun j hj e => by have := jI e; omega)]
   exact aAu hx
  | succ j => simp at hj; have := h.new j u hj; rwa [show n + (j + 1) = n + 1 + j from by omega]
 old := fun a ha => by
  rw [h.old a (fun j hj e => ha (j + 1) (by simp; omega) (by rw [e]; congr 1; omega))]
  exact nC (fun e => ha 0 (by simp) (by rw [← e]; rfl))
 frozen := fun a => by rw [h.frozen]; simp
 kept := fun x k hx hk => h.kept x k hx (aCg hx hk)
 no := fun e => (by cases e)
theorem jY {P : Program} {L : Loc} : ∀ (vs : List Value) (o i : Nat) (w : World),
  (∀ j, j < vs.length → (∃ x, w.cell? (fN L (o + i + j)) = some x) ∧ w.frozen? (fN L (o + i + j)) = false) → (∀ v ∈ vs, bNq v = true) →
  ∃ w', (storeCells (fN L o) vs i).run P w = .ok () w' ∧ Wrote w w' L (o + i) vs
 | [], o, i, w, _, _ => ⟨w, by simp [storeCells], Wrote.nil _ _ _⟩
 | v :: vs, o, i, w, hc, ho => by
  obtain ⟨⟨x, hx⟩, hf⟩ := hc 0 (by simp)
  rw [Nat.add_zero] at hx hf
  have hov : bNq v = true := ho v (by simp)
  have hr := aBc (P := P) hx hf hov
  obtain ⟨w', h1, h2⟩ := jY (P := P) (L := L) vs o (i + 1) (w.setCell (fN L (o + i)) v) (fun j hj => by
   have h0 := hc (j + 1) (by simp; omega)
   have e : o + i + (j + 1) = o + (i + 1) + j := by omega
   rw [e] at h0
   refine ⟨?_, by simp [h0.2]⟩
   obtain ⟨x', hx'⟩ := h0.1
   exact ⟨x', by rw [nC (fun e => by have := jI e; omega)]; exact hx'⟩) (fun u hu => ho u (by simp [hu]))
  refine ⟨w', ?_, Wrote.cons hx h2⟩
  simp only [storeCells, Sem.run_bind, gH, hr, Result.andThen_ok]
  exact h1
theorem Wrote.below {G : Gd} {w w' : World} {L : Loc} {n : Nat} {vs : List Value} (h : Wrote w w' L n vs) (hB : Own G L.bl) : Kp G w w' :=
 ⟨⟨h.os, h.tape, h.output, by rw [h.size]; exact Nat.le_refl _, fun k hk => h.block k (fun e => by have := hB.1; omega)⟩, fun k hk => h.block k (fun e => hB.2 (e ▸ hk))⟩
theorem aBh : ∀ (l vs l' : List DV), nS l vs = some l' → l'.length = l.length ∧ vs.length ≤ l.length ∧
  (∀ v ∈ vs, v.one = true) ∧ (∀ (j : Nat) v, vs[j]? = some v → l'[j]? = some v ∧ ∃ x, l[j]? = some x ∧ x.one = true) ∧ (∀ j, vs.length ≤ j → l'[j]? = l[j]?)
 | l, [], l', h => by
  have : l' = l := by cases l <;> simp [nS] at h <;> simp [h]
  subst this; simp
 | [], v :: vs, l', h => by simp [nS] at h
 | x :: l, v :: vs, l', h => by
  simp only [nS] at h
  split at h
  ·rename_i hx
   simp only [Bool.and_eq_true] at hx
   cases hp : nS l vs with
   | none => rw [hp] at h; simp at h
   | some l1 =>
    rw [hp] at h; simp at h; subst h
    obtain ⟨h1, h2, h3, h4, h5⟩ := aBh l vs l1 hp
    refine ⟨by simp [h1], by simp; exact h2, ?_, ?_, ?_⟩
    ·intro u hu
     simp at hu
     rcases hu with rfl | hu
     ·exact hx.2
     ·exact h3 u hu
    ·intro j u hj
     cases j with
     | zero => simp at hj; subst hj; exact ⟨by simp, x, by simp, hx.1⟩
     | succ j => simp at hj; simpa using h4 j u hj
    ·intro j hj
     cases j with
     | zero => simp at hj
     | succ j => simp at hj; simpa using h5 j hj
  ·cases h
theorem lN : ∀ (n : Nat) (l vs l' : List DV), fT n l vs = some l' → l'.length = l.length ∧ (vs ≠ [] → n + vs.length ≤ l.length) ∧
  (∀ v ∈ vs, v.one = true) ∧ (∀ (j : Nat) v, vs[j]? = some v → l'[n + j]? = some v ∧ ∃ x, l[n + j]? = some x ∧ x.one = true) ∧ (∀ j, (j < n ∨ n + vs.length ≤ j) → l'[j]? = l[j]?)
 | 0, l, vs, l', h => by
  obtain ⟨h1, h2, h3, h4, h5⟩ := aBh l vs l' (by simpa [fT] using h)
  exact ⟨h1, fun _ => by omega, h3, by simpa using h4, fun j hj => h5 j (by omega)⟩
 | n + 1, [], vs, l', h => by
  simp only [fT] at h
  split at h
  ·rename_i hv
   simp at hv h
   subst hv; subst h
   simp
  ·cases h
 | n + 1, x :: l, vs, l', h => by
  simp only [fT] at h
  cases hp : fT n l vs with
  | none => rw [hp] at h; simp at h
  | some l1 =>
   rw [hp] at h; simp at h; subst h
   obtain ⟨h1, h2, h3, h4, h5⟩ := lN n l vs l1 hp
   refine ⟨by simp [h1], fun hv => by have := h2 hv; simp; omega, h3, ?_, ?_⟩
   ·intro j u hj
    have := h4 j u hj
    rw [show n + 1 + j = (n + j) + 1 from by omega]
    simpa using this
   ·intro j hj
    cases j with
    | zero => simp
    | succ j => simpa using h5 j (by omega)
theorem aSq {ρ : cN} {h : Hp} {b : Pos} {k : Kind} {l l' : List DV} (hb : h.bl.get b = some (.row k l)) (hlen : l'.length = l.length)
  (hone : ∀ (i : Nat) v', l'[i]? = some v' → v'.one = true → ∃ v, l[i]? = some v ∧ v.one = true) {x : Pos} {a : Addr}
  (hc : Claims ρ ⟨h.next, Tr.set (.row k l') b h.bl⟩ x a) : Claims ρ h x a := by
 obtain ⟨k1, l1, L, h1, h2, h3⟩ := hc
 by_cases e : x = b
 ·subst e
  simp only [eMs, bD, Ob.row.injEq] at h1
  obtain ⟨rfl, rfl⟩ := h1
  refine ⟨k, l, L, hb, h2, ?_⟩
  rcases h3 with ⟨i, v, hi, hv, rfl⟩ | ⟨es, j, rfl, hj, rfl⟩
  ·obtain ⟨v0, h5, h6⟩ := hone i v hi hv
   exact .inl ⟨i, v0, h5, h6, rfl⟩
  ·exact .inr ⟨es, j, rfl, hj, by rw [hlen]⟩
 ·simp only [eMr _ _ _ _ e] at h1
  exact ⟨k1, l1, L, h1, h2, h3⟩
theorem HR.put {G : Gd} {ρ : cN} {h : Hp} {w w' : World} (H : HR G ρ h w) {b : Pos} {k : Kind} {l l' : List DV} {L : Loc} {n : Nat} {vs : List DV} {vs' : List Value}
  (hb : h.bl.get b = some (.row k l)) (hL : ρ b = some L) (hk : k.writable = true) (hp : fT n l vs = some l') (hvs : VRs ρ vs vs') (hw : Wrote w w' L n vs') :
  HR G ρ ⟨h.next, Tr.set (.row k l') b h.bl⟩ w' := by
 obtain ⟨p1, p2, p3, p4, p5⟩ := lN n l vs l' hp
 have hlen := hvs.length
 have hone : ∀ (i : Nat) v', l'[i]? = some v' → v'.one = true → ∃ v, l[i]? = some v ∧ v.one = true := by
  intro i v' hi hv
  by_cases hin : n ≤ i ∧ i < n + vs.length
  ·have hlt : i - n < vs.length := by omega
   obtain ⟨_, x, hx, ho⟩ := p4 (i - n) vs[i - n] (by simp [hlt])
   rw [show n + (i - n) = i from by omega] at hx
   exact ⟨x, hx, ho⟩
  ·rw [p5 i (by omega)] at hi
   exact ⟨v', hi, hv⟩
 have hroB : ¬ isRo h b := by
  rintro ⟨l0, h0⟩
  rw [hb] at h0; simp at h0
  rw [h0.1] at hk; cases hk
 have hro : ∀ x, isRo ⟨h.next, Tr.set (.row k l') b h.bl⟩ x ↔ isRo h x := by
  intro x
  by_cases e : x = b
  ·subst e
   simp only [isRo, eMs, hb]
   constructor
   ·rintro ⟨l0, h0⟩; simp at h0; rw [h0.1] at hk; cases hk
   ·rintro ⟨l0, h0⟩; simp at h0; rw [h0.1] at hk; cases hk
  ·simp [isRo, eMr _ _ _ _ e]
 have hcl : ∀ {x a}, Claims ρ ⟨h.next, Tr.set (.row k l') b h.bl⟩ x a → Claims ρ h x a := fun hc => aSq hb p1 hone hc
 have hother : ∀ x a, x ≠ b → Claims ρ h x a → ∀ j, j < vs'.length → a ≠ fN L (n + j) := by
  intro x a hx hc j hj e
  have hj' : j < vs.length := by omega
  obtain ⟨_, x0, hx0, ho⟩ := p4 j vs[j] (by simp [hj'])
  have hcb : Claims ρ h b a := ⟨k, l, L, hb, hL, .inl ⟨n + j, x0, hx0, ho, e⟩⟩
  exact hx (H.inj b x a hcb hc hroB).symm
 have hgl : ∀ k, k < G.B → w'.heap[k]? = G.W[k]? := by
  intro k hk
  cases vs' with
  | nil => rw [hw.no rfl]; exact H.gl k hk
  | cons v0 vr =>
   have h0 : 0 < vs.length := by rw [hlen]; simp
   obtain ⟨_, x, hx, ho⟩ := p4 0 vs[0] (by simp [h0])
   have hcb : Claims ρ h b (fN L (n + 0)) := ⟨_, l, L, hb, hL, .inl ⟨n + 0, x, hx, ho, rfl⟩⟩
   have hown := (H.free b _ hcb hroB).2
   have hlb : G.B ≤ L.bl := hown.1
   rw [hw.block k (by omega)]
   exact H.gl k hk
 refine { gl := hgl, sz := by rw [hw.size]; exact H.sz, nx := H.nx, ro := fun x a hc hr => H.ro x a (hcl hc) ((hro x).1 hr), dom := ?_, lt := H.lt, cell := ?_, spare := ?_, free := ?_, inj := ?_, ex := ?_, grone := ?_, itr := ?_, itj := ?_ }
 ·intro x o hx
  by_cases e : x = b
  ·subst e; exact ⟨L, hL⟩
  ·simp only [eMr _ _ _ _ e] at hx; exact H.dom x o hx
 ·intro x k1 l1 L1 i v hx hL1 hi hv
  by_cases e : x = b
  ·subst e
   simp only [eMs, bD, Ob.row.injEq] at hx
   obtain ⟨rfl, rfl⟩ := hx
   rw [hL] at hL1; cases hL1
   by_cases hin : n ≤ i ∧ i < n + vs.length
   ·have hlt : i - n < vs.length := by omega
    obtain ⟨h6, _⟩ := p4 (i - n) vs[i - n] (by simp [hlt])
    rw [show n + (i - n) = i from by omega, hi] at h6
    simp at h6
    obtain ⟨v', h7, h8⟩ := hvs.get (i - n) v (by simp [hlt, h6])
    have := hw.new (i - n) v' h7
    rw [show n + (i - n) = i from by omega] at this
    exact ⟨v', this, h8⟩
   ·rw [p5 i (by omega)] at hi
    obtain ⟨v', h7, h8⟩ := H.cell x k l L i v hb hL hi hv
    refine ⟨v', ?_, h8⟩
    rw [hw.old _ (fun j hj e => by have := jI e; omega)]
    exact h7
  ·simp only [eMr _ _ _ _ e] at hx
   obtain ⟨v', h7, h8⟩ := H.cell x k1 l1 L1 i v hx hL1 hi hv
   refine ⟨v', ?_, h8⟩
   rw [hw.old _ (hother x _ e ⟨k1, l1, L1, hx, hL1, .inl ⟨i, v, hi, hv, rfl⟩⟩)]
   exact h7
 ·intro x l1 L1 es j hx hL1 hj
  by_cases e : x = b
  ·subst e
   simp only [eMs, bD, Ob.row.injEq] at hx
   obtain ⟨rfl, rfl⟩ := hx
   rw [hL] at hL1; cases hL1
   obtain ⟨v', h7⟩ := H.spare x l L es j hb hL hj
   rw [p1]
   refine ⟨v', ?_⟩
   rw [hw.old _ (fun j' hj' e => by
    have h9 := jI e
    have : vs ≠ [] := by intro hv; subst hv; simp at hlen; omega
    have := p2 this
    omega)]
   exact h7
  ·simp only [eMr _ _ _ _ e] at hx
   obtain ⟨v', h7⟩ := H.spare x l1 L1 es j hx hL1 hj
   refine ⟨v', ?_⟩
   rw [hw.old _ (hother x _ e ⟨_, l1, L1, hx, hL1, .inr ⟨es, j, rfl, hj, rfl⟩⟩)]
   exact h7
 ·intro x a hc hr
  rw [hw.frozen]
  exact H.free x a (hcl hc) (fun h => hr ((hro x).2 h))
 ·intro x x' a hc hc' hr
  exact H.inj x x' a (hcl hc) (hcl hc') (fun h => hr ((hro x).2 h))
 ·intro x l1 L1 hx hL1
  by_cases e : x = b
  ·subst e
   simp only [eMs, bD, Ob.row.injEq] at hx
   rw [hL] at hL1; cases hL1
   rcases hx with ⟨rfl, _⟩ | ⟨rfl, _⟩
   ·cases hk
   ·exact H.ex x l L (.inr hb) hL
  ·simp only [eMr _ _ _ _ e] at hx
   exact H.ex x l1 L1 hx hL1
 ·intro x es l1 i v hx hi
  by_cases e : x = b
  ·subst e
   simp only [eMs, bD, Ob.row.injEq] at hx
   obtain ⟨rfl, rfl⟩ := hx
   by_cases hin : n ≤ i ∧ i < n + vs.length
   ·have hlt : i - n < vs.length := by omega
    obtain ⟨h6, _⟩ := p4 (i - n) vs[i - n] (by simp [hlt])
    rw [show n + (i - n) = i from by omega, hi] at h6
    simp at h6
    rw [h6]
    exact p3 _ (List.getElem_mem _)
   ·rw [p5 i (by omega)] at hi
    exact H.grone x es l i v hb hi
  ·simp only [eMr _ _ _ _ e] at hx
   exact H.grone x es l1 i v hx hi
 ·intro x o L1 h0 hx hL1
  by_cases e : x = b
  ·subst e; simp [eMs] at hx; subst hx; cases h0
  ·simp only [eMr _ _ _ _ e] at hx
   obtain ⟨h1, h2, bs, h3, h4⟩ := H.itr x o L1 h0 hx hL1
   exact ⟨h1, h2, bs, hw.kept _ _ h4.nc h3, h4⟩
 ·intro x o x' o' L1 L2 h0 h0' hx hx' h1 h2 he
  by_cases e : x = b
  ·subst e; simp [eMs] at hx; subst hx; cases h0
  ·by_cases e' : x' = b
   ·subst e'; simp [eMs] at hx'; subst hx'; cases h0'
   ·simp only [eMr _ _ _ _ e] at hx
    simp only [eMr _ _ _ _ e'] at hx'
    exact H.itj x o x' o' L1 L2 h0 h0' hx hx' h1 h2 he
theorem VRs.mem_one {ρ : cN} : ∀ {x : List DV} {x' : List Value}, VRs ρ x x' → (∀ v ∈ x, v.one = true) → ∀ v' ∈ x', bNq v' = true
 | _, _, .nil, _, v', h => by simp at h
 | _, _, .cons x x' l l' hx hs, ho, v', h => by
  simp at h
  rcases h with rfl | h
  ·exact hx.one (ho x (by simp))
  ·exact VRs.mem_one hs (fun v hv => ho v (by simp [hv])) v' h
theorem jQ {P : Program} {G : Gd} {ρ : cN} {h h' : Hp} {w : World} (H : HR G ρ h w) {b : Pos} {o : Nat} {vs : List DV} {vs' : List Value} {L : Loc}
  (hs : dF b o vs h = some h') (hL : ρ b = some L) (hvs : VRs ρ vs vs') :
  ∃ w', (storeCells (fN L o) vs' 0).run P w = .ok () w' ∧ HR G ρ h' w' ∧ Kp G w w' := by
 unfold dF at hs
 split at hs
 ·rename_i k l hb
  split at hs
  ·rename_i hk
   split at hs
   ·rename_i l' hp
    simp at hs; subst hs
    obtain ⟨p1, p2, p3, p4, p5⟩ := lN o l vs l' hp
    have hlen := hvs.length
    have hro : ¬ isRo h b := by
     rintro ⟨l0, h0⟩
     rw [hb] at h0; simp at h0
     rw [h0.1] at hk; cases hk
    have hcl : ∀ j, j < vs'.length → Claims ρ h b (fN L (o + j)) := by
     intro j hj
     have hj' : j < vs.length := by omega
     obtain ⟨_, x0, hx0, ho⟩ := p4 j vs[j] (by simp [hj'])
     exact ⟨k, l, L, hb, hL, .inl ⟨o + j, x0, hx0, ho, rfl⟩⟩
    obtain ⟨w', h1, h2⟩ := jY (P := P) (L := L) vs' o 0 w (fun j hj => by
     rw [Nat.add_zero]
     exact ⟨H.lt_cell (hcl j hj), (H.free b _ (hcl j hj) hro).1⟩) (hvs.mem_one p3)
    rw [Nat.add_zero] at h2
    refine ⟨w', h1, H.put hb hL hk hp hvs h2, ?_⟩
    by_cases hv : vs' = []
    ·subst hv
     have : w' = w := by simp [storeCells] at h1; exact h1.symm
     rw [this]
     exact Kp.refl G w
    ·have h0 : 0 < vs'.length := List.length_pos_iff.2 hv
     have := (H.free b _ (hcl 0 h0) hro).2
     exact h2.below (by simpa [fN] using this)
   ·cases hs
  ·cases hs
 ·cases hs
end Go.Dd

namespace Go.Dd
open Go.RowKit (Below)
theorem kM : ∀ (o : Nat) (l : List DV), (bV o l).length = l.length ∧ ∀ (i : Nat) v, (bV o l)[i]? = some v → v.one = true → i < o ∧ l[i]? = some v
 | 0, l => by
  refine ⟨by simp [bV], fun i v hi ho => ?_⟩
  simp [bV] at hi
  obtain ⟨_, _, rfl⟩ := hi
  cases ho
 | o + 1, [] => by simp [bV]
 | o + 1, x :: l => by
  obtain ⟨h1, h2⟩ := kM o l
  refine ⟨by simp [bV, h1], fun i v hi ho => ?_⟩
  cases i with
  | zero => simp [bV] at hi; subst hi; simp
  | succ i =>
   simp [bV] at hi
   obtain ⟨h3, h4⟩ := h2 i v hi ho
   exact ⟨by omega, by simpa using h4⟩
theorem HR.regrow {G : Gd} {ρ : cN} {h : Hp} {w w' : World} (H : HR G ρ h w) {b : Pos} {size : Nat} {l : List DV} {L : Loc} {o len cap n : Nat} {new : List DV} {new' : List Value} {old : List DV}
  (hb : h.bl.get b = some (.row (.gr size) l)) (hL : ρ b = some L) (hsz : 0 < size) (hend : o + cap * size = l.length) (hlen : len ≤ cap) (hmore : cap < len + n) (hroom : len + n ≤ cap + L.sp)
  (hold : old = (l.drop o).take (len * size)) (hnl : new.length = n * size) (hone : ∀ v ∈ new, v.one = true) (hvs : VRs ρ new new') (hw : Wrote w w' L (o + len * size) new') :
  HR G (mH ρ h.next ⟨L.bl, L.of + o, cap + L.sp - (len + n), if o = 0 then L.spot else none⟩) ⟨h.next.succ, Tr.set (.row (.gr size) (old ++ new)) h.next (Tr.set (.row .sp (bV o l)) b h.bl)⟩ w' := by
 have hbn : b ≠ h.next := fun e => by subst e; rw [H.fresh_get] at hb; cases hb
 have hext := H.ext ⟨L.bl, L.of + o, cap + L.sp - (len + n), if o = 0 then L.spot else none⟩
 have hroB : ¬ isRo h b := by rintro ⟨l0, h0⟩; rw [hb] at h0; simp at h0
 obtain ⟨k1, k2⟩ := kM o l
 have hnl' := hvs.length
 have e1 : len * size ≤ cap * size := Nat.mul_le_mul_right _ hlen
 have e2 : (len + n) * size = len * size + n * size := Nat.add_mul _ _ _
 have e3 : (cap + L.sp) * size = cap * size + L.sp * size := Nat.add_mul _ _ _
 have e4 : (len + n) * size ≤ (cap + L.sp) * size := Nat.mul_le_mul_right _ hroom
 have e5 : (cap + L.sp - (len + n)) * size = (cap + L.sp) * size - (len + n) * size := Nat.sub_mul _ _ _
 have hol : old.length = len * size := by rw [hold]; simp; omega
 have hadr : ∀ i, fN ⟨L.bl, L.of + o, cap + L.sp - (len + n), if o = 0 then L.spot else none⟩ i = fN L (o + i) := fun i => by simp [fN, Nat.add_assoc]; by_cases hi : i = 0 <;> by_cases ho : o = 0 <;> simp [hi, ho]
 have hOC : ∀ i, i < l.length + L.sp * size → Claims ρ h b (fN L i) := by
  intro i hi
  by_cases hlt : i < l.length
  ·exact ⟨_, l, L, hb, hL, .inl ⟨i, l[i], by simp [hlt], H.grone b size l i _ hb (by simp [hlt]), rfl⟩⟩
  ·exact ⟨_, l, L, hb, hL, .inr ⟨size, i - l.length, rfl, by omega, by rw [show l.length + (i - l.length) = i from by omega]⟩⟩
 have g1 : ∀ x, x ≠ h.next → x ≠ b → (Tr.set (Ob.row (.gr size) (old ++ new)) h.next (Tr.set (.row .sp (bV o l)) b h.bl)).get x = h.bl.get x := fun x hx hx' => by
  rw [eMr _ _ _ _ hx, eMr _ _ _ _ hx']
 have g2 : (Tr.set (Ob.row (.gr size) (old ++ new)) h.next (Tr.set (.row .sp (bV o l)) b h.bl)).get b = some (.row .sp (bV o l)) := by
  rw [eMr _ _ _ _ hbn, eMs]
 have g3 : (Tr.set (Ob.row (.gr size) (old ++ new)) h.next (Tr.set (.row .sp (bV o l)) b h.bl)).get h.next = some (.row (.gr size) (old ++ new)) := eMs _ _ _
 have c1 : ∀ x a, x ≠ h.next → x ≠ b → Claims (mH ρ h.next ⟨L.bl, L.of + o, cap + L.sp - (len + n), if o = 0 then L.spot else none⟩) ⟨h.next.succ, Tr.set (.row (.gr size) (old ++ new)) h.next (Tr.set (.row .sp (bV o l)) b h.bl)⟩ x a → Claims ρ h x a := by
  rintro x a hx hx' ⟨k', l', L', h1, h2, h3⟩
  simp only [g1 x hx hx'] at h1
  rw [aV _ _ hx] at h2
  exact ⟨k', l', L', h1, h2, h3⟩
 have c2 : ∀ a, Claims (mH ρ h.next ⟨L.bl, L.of + o, cap + L.sp - (len + n), if o = 0 then L.spot else none⟩) ⟨h.next.succ, Tr.set (.row (.gr size) (old ++ new)) h.next (Tr.set (.row .sp (bV o l)) b h.bl)⟩ b a → ∃ i, i < o ∧ a = fN L i ∧ Claims ρ h b a := by
  rintro a ⟨k', l', L', h1, h2, h3⟩
  simp only [g2, bD, Ob.row.injEq] at h1
  obtain ⟨rfl, rfl⟩ := h1
  rw [aV _ _ hbn, hL] at h2
  cases h2
  rcases h3 with ⟨i, v, hi, hv, rfl⟩ | ⟨es, j, h4, hj, rfl⟩
  ·obtain ⟨h5, h6⟩ := k2 i v hi hv
   exact ⟨i, h5, rfl, hOC i (by omega)⟩
  ·cases h4
 have c3 : ∀ a, Claims (mH ρ h.next ⟨L.bl, L.of + o, cap + L.sp - (len + n), if o = 0 then L.spot else none⟩) ⟨h.next.succ, Tr.set (.row (.gr size) (old ++ new)) h.next (Tr.set (.row .sp (bV o l)) b h.bl)⟩ h.next a → ∃ i, o ≤ i ∧ a = fN L i ∧ Claims ρ h b a := by
  rintro a ⟨k', l', L', h1, h2, h3⟩
  simp only [g3, bD, Ob.row.injEq] at h1
  obtain ⟨rfl, rfl⟩ := h1
  rw [cB] at h2
  cases h2
  rcases h3 with ⟨i, v, hi, hv, rfl⟩ | ⟨es, j, h4, hj, rfl⟩
  ·have hlt : i < (old ++ new).length := by
    rcases Nat.lt_or_ge i (old ++ new).length with h | h
    ·exact h
    ·simp [List.getElem?_eq_none h] at hi
   simp only [List.length_append] at hlt
   rw [hadr]
   exact ⟨o + i, by omega, rfl, hOC _ (by omega)⟩
  ·cases h4
   simp only at hj
   rw [hadr]
   exact ⟨_, by omega, rfl, hOC _ (by simp only [List.length_append]; omega)⟩
 have hother : ∀ x a, x ≠ b → Claims ρ h x a → ∀ j, j < new'.length → a ≠ fN L (o + len * size + j) := by
  intro x a hx hc j hj e
  exact hx (H.inj b x a (e ▸ hOC _ (by omega)) hc hroB).symm
 have hron : ∀ x, isRo ⟨h.next.succ, Tr.set (.row (.gr size) (old ++ new)) h.next (Tr.set (.row .sp (bV o l)) b h.bl)⟩ x ↔ (isRo h x ∧ x ≠ h.next ∧ x ≠ b) := by
  intro x
  by_cases e : x = h.next
  ·subst e; simp [isRo, g3]
  ·by_cases e' : x = b
   ·subst e'; simp [isRo, g2]
   ·simp [isRo, g1 x e e', e, e']
 have hgl : ∀ k, k < G.B → w'.heap[k]? = G.W[k]? := by
  intro k hk
  have hlt : len * size < (len + n) * size := Nat.mul_lt_mul_of_pos_right (by omega) hsz
  have hown := (H.free b _ (hOC (o + len * size) (by omega)) hroB).2
  have hlb : G.B ≤ L.bl := hown.1
  rw [hw.block k (by omega)]
  exact H.gl k hk
 refine { gl := hgl, sz := by rw [hw.size]; exact H.sz, nx := by have := H.nx; simp only [eMv]; omega, ro := ?_, dom := ?_, lt := tW H _, cell := ?_, spare := ?_, free := ?_, inj := ?_, ex := ?_, grone := ?_, itr := ?_, itj := ?_ }
 ·intro x a hc hr
  obtain ⟨h1, h2, h3⟩ := (hron x).1 hr
  exact H.ro x a (c1 x a h2 h3 hc) h1
 ·intro x ob hx
  by_cases e : x = h.next
  ·subst e; exact ⟨_, cB _ _ _⟩
  ·rw [aV _ _ e]
   by_cases e' : x = b
   ·subst e'; exact ⟨L, hL⟩
   ·simp only [g1 x e e'] at hx; exact H.dom x ob hx
 ·intro x k' l' L' i v hx hL' hi hv
  by_cases e : x = h.next
  ·subst e
   simp only [g3, bD, Ob.row.injEq] at hx
   obtain ⟨rfl, rfl⟩ := hx
   rw [cB] at hL'
   cases hL'
   rw [hadr]
   by_cases hlt : i < old.length
   ·rw [List.getElem?_append_left hlt, hold, List.getElem?_take_of_lt (by omega), List.getElem?_drop] at hi
    obtain ⟨v', h5, h6⟩ := H.cell b _ l L (o + i) v hb hL hi hv
    refine ⟨v', ?_, h6.mono hext⟩
    rw [hw.old _ (fun j hj e => by have := jI e; omega)]
    exact h5
   ·rw [List.getElem?_append_right (by omega)] at hi
    obtain ⟨v', h5, h6⟩ := hvs.get _ v hi
    refine ⟨v', ?_, h6.mono hext⟩
    have := hw.new _ v' h5
    rwa [show o + len * size + (i - old.length) = o + i from by omega] at this
  ·by_cases e' : x = b
   ·subst e'
    simp only [g2, bD, Ob.row.injEq] at hx
    obtain ⟨rfl, rfl⟩ := hx
    rw [aV _ _ e, hL] at hL'
    cases hL'
    obtain ⟨h5, h6⟩ := k2 i v hi hv
    obtain ⟨v', h7, h8⟩ := H.cell x _ l L i v hb hL h6 hv
    refine ⟨v', ?_, h8.mono hext⟩
    rw [hw.old _ (fun j hj e => by have := jI e; omega)]
    exact h7
   ·simp only [g1 x e e'] at hx
    rw [aV _ _ e] at hL'
    obtain ⟨v', h5, h6⟩ := H.cell x k' l' L' i v hx hL' hi hv
    refine ⟨v', ?_, h6.mono hext⟩
    rw [hw.old _ (hother x _ e' ⟨k', l', L', hx, hL', .inl ⟨i, v, hi, hv, rfl⟩⟩)]
    exact h5
 ·intro x l' L' es j hx hL' hj
  by_cases e : x = h.next
  ·subst e
   simp only [g3, bD, Ob.row.injEq, Kind.gr.injEq] at hx
   obtain ⟨rfl, rfl⟩ := hx
   rw [cB] at hL'
   cases hL'
   rw [hadr]
   simp only at hj
   have hidx : o + ((old ++ new).length + j) < l.length + L.sp * size := by simp only [List.length_append]; omega
   obtain ⟨v', hv'⟩ := H.lt_cell (hOC _ hidx)
   refine ⟨v', ?_⟩
   rw [hw.old _ (fun j' hj' e => by have := jI e; simp only [List.length_append] at this; omega)]
   exact hv'
  ·by_cases e' : x = b
   ·subst e'
    simp only [g2, bD, Ob.row.injEq] at hx
    cases hx.1
   ·simp only [g1 x e e'] at hx
    rw [aV _ _ e] at hL'
    obtain ⟨v', h5⟩ := H.spare x l' L' es j hx hL' hj
    refine ⟨v', ?_⟩
    rw [hw.old _ (hother x _ e' ⟨_, l', L', hx, hL', .inr ⟨es, j, rfl, hj, rfl⟩⟩)]
    exact h5
 ·intro x a hc hr
  rw [hw.frozen]
  by_cases e : x = h.next
  ·subst e
   obtain ⟨i, _, _, h1⟩ := c3 a hc
   exact H.free b a h1 hroB
  ·by_cases e' : x = b
   ·subst e'
    obtain ⟨i, _, _, h1⟩ := c2 a hc
    exact H.free x a h1 hroB
   ·exact H.free x a (c1 x a e e' hc) (fun h => hr ((hron x).2 ⟨h, e, e'⟩))
 ·intro x x' a hc hc' hr
  by_cases e : x = h.next
  ·subst e
   obtain ⟨i, hi, hai, h1⟩ := c3 a hc
   by_cases f : x' = h.next
   ·exact f.symm
   ·by_cases f' : x' = b
    ·subst f'
     obtain ⟨i', hi', hai', _⟩ := c2 a hc'
     rw [hai] at hai'
     have := jI hai'
     omega
    ·exact absurd (H.inj b x' a h1 (c1 x' a f f' hc') hroB).symm f'
  ·by_cases e' : x = b
   ·subst e'
    obtain ⟨i, hi, hai, h1⟩ := c2 a hc
    by_cases f : x' = h.next
    ·subst f
     obtain ⟨i', hi', hai', _⟩ := c3 a hc'
     rw [hai] at hai'
     have := jI hai'
     omega
    ·by_cases f' : x' = x
     ·exact f'.symm
     ·exact H.inj x x' a h1 (c1 x' a f f' hc') hroB
   ·have hx := c1 x a e e' hc
    have hrx : ¬ isRo h x := fun h => hr ((hron x).2 ⟨h, e, e'⟩)
    by_cases f : x' = h.next
    ·subst f
     obtain ⟨i', _, _, h2⟩ := c3 a hc'
     exact absurd (H.inj x b a hx h2 hrx) e'
    ·by_cases f' : x' = b
     ·subst f'
      obtain ⟨i', _, _, h2⟩ := c2 a hc'
      exact H.inj x x' a hx h2 hrx
     ·exact H.inj x x' a hx (c1 x' a f f' hc') hrx
 ·intro x l' L' hx hL'
  by_cases e : x = h.next
  ·subst e; simp [g3] at hx
  ·by_cases e' : x = b
   ·subst e'; simp [g2] at hx
   ·simp only [g1 x e e'] at hx
    rw [aV _ _ e] at hL'
    exact H.ex x l' L' hx hL'
 ·intro x es l' i v hx hi
  by_cases e : x = h.next
  ·subst e
   simp only [g3, bD, Ob.row.injEq, Kind.gr.injEq] at hx
   obtain ⟨rfl, rfl⟩ := hx
   by_cases hlt : i < old.length
   ·rw [List.getElem?_append_left hlt, hold, List.getElem?_take_of_lt (by omega), List.getElem?_drop] at hi
    exact H.grone b size l _ v hb hi
   ·rw [List.getElem?_append_right (by omega)] at hi
    exact hone v (List.mem_of_getElem? hi)
  ·by_cases e' : x = b
   ·subst e'; simp [g2] at hx
   ·simp only [g1 x e e'] at hx
    exact H.grone x es l' i v hx hi
 ·intro x o L' h0 hx hL'
  by_cases e : x = h.next
  ·subst e; simp [g3] at hx; subst hx; cases h0
  ·by_cases e' : x = b
   ·subst e'; simp [g2] at hx; subst hx; cases h0
   ·simp only [g1 x e e'] at hx
    rw [aV _ _ e] at hL'
    obtain ⟨h1, h2, bs, h3, h4⟩ := H.itr x o L' h0 hx hL'
    exact ⟨h1, h2, bs, hw.kept _ _ h4.nc h3, h4.mono (H.ext _)⟩
 ·intro x o x' o' L1 L2 h0 h0' hx hx' h1 h2 he
  by_cases e : x = h.next
  ·subst e; simp [g3] at hx; subst hx; cases h0
  ·by_cases e' : x = b
   ·subst e'; simp [g2] at hx; subst hx; cases h0
   ·by_cases f : x' = h.next
    ·subst f; simp [g3] at hx'; subst hx'; cases h0'
    ·by_cases f' : x' = b
     ·subst f'; simp [g2] at hx'; subst hx'; cases h0'
     ·simp only [g1 x e e'] at hx
      simp only [g1 x' f f'] at hx'
      rw [aV _ _ e] at h1
      rw [aV _ _ f] at h2
      exact H.itj x o x' o' L1 L2 h0 h0' hx hx' h1 h2 he
theorem HR.newSg {G : Gd} {ρ : cN} {h : Hp} {w : World} (H : HR G ρ h w) (ob : Ob) (hsg : ob.sg = true) (xo : Obj) (hs : SgR ρ ob xo) :
  HR G (mH ρ h.next ⟨w.heap.size, 0, 0, none⟩) ⟨h.next.succ, Tr.set ob h.next h.bl⟩ (w.alloc xo) := by
 have hext := H.ext ⟨w.heap.size, 0, 0, none⟩
 have hno : ∀ a, ¬ Claims (mH ρ h.next ⟨w.heap.size, 0, 0, none⟩) ⟨h.next.succ, Tr.set ob h.next h.bl⟩ h.next a := by
  rintro a ⟨k', l', L', h1, h2, h3⟩
  simp [eMs] at h1
  subst h1; cases hsg
 have hold : ∀ b a, b ≠ h.next → Claims (mH ρ h.next ⟨w.heap.size, 0, 0, none⟩) ⟨h.next.succ, Tr.set ob h.next h.bl⟩ b a → a.block < w.heap.size := by
  intro b a hb hc
  obtain ⟨v, hv⟩ := H.lt_cell (eMw hb hc)
  exact dY hv
 have hblk : ∀ b o L, o.sg = true → h.bl.get b = some o → ρ b = some L → L.bl < w.heap.size := by
  intro b o L h0 hb hL
  obtain ⟨h1, h2, bs, h3, h4⟩ := H.itr b o L h0 hb hL
  rcases Nat.lt_or_ge L.bl w.heap.size with h | h
  ·exact h
  ·simp [Array.getElem?_eq_none h] at h3
 refine { gl := fun k hk => by rw [Below.heap_alloc _ _ _ (Nat.lt_of_lt_of_le hk H.sz.1)]; exact H.gl k hk, sz := ?_, nx := ?_, ro := ?_, dom := ?_, lt := tW H _, cell := ?_, spare := ?_, free := ?_, inj := ?_, ex := ?_, grone := ?_, itr := ?_, itj := ?_ }
 ·obtain ⟨h1, h2⟩ := H.sz
  refine ⟨by simp; omega, fun k hk => ?_⟩
  have := h2 k hk
  simp; omega
 ·have := H.nx; simp only [eMv]; omega
 ·intro b a hc hr
  by_cases e : b = h.next
  ·subst e; exact absurd hc (hno a)
  ·exact H.ro b a (eMw e hc) ((iE e).1 hr)
 ·intro b o hb
  by_cases e : b = h.next
  ·subst e; exact ⟨_, cB _ _ _⟩
  ·rw [aV _ _ e]; simp only [eMr _ _ _ _ e] at hb; exact H.dom b o hb
 ·intro b k' l' L' i v hb hL hi hv
  by_cases e : b = h.next
  ·subst e; simp [eMs] at hb; subst hb; cases hsg
  ·simp only [eMr _ _ _ _ e] at hb
   rw [aV _ _ e] at hL
   obtain ⟨v', h5, h6⟩ := H.cell b k' l' L' i v hb hL hi hv
   exact ⟨v', by rw [dM (dY h5)]; exact h5, h6.mono hext⟩
 ·intro b l' L' es j hb hL hj
  by_cases e : b = h.next
  ·subst e; simp [eMs] at hb; subst hb; cases hsg
  ·simp only [eMr _ _ _ _ e] at hb
   rw [aV _ _ e] at hL
   obtain ⟨v', h5⟩ := H.spare b l' L' es j hb hL hj
   exact ⟨v', by rw [dM (dY h5)]; exact h5⟩
 ·intro b a hc hr
  by_cases e : b = h.next
  ·subst e; exact absurd hc (hno a)
  ·have hlt := hold b a e hc
   have := H.free b a (eMw e hc) (fun h => hr ((iE e).2 h))
   rw [fY (by omega)]
   exact this
 ·intro b b' a hc hc' hr
  by_cases e : b = h.next
  ·subst e; exact absurd hc (hno a)
  ·by_cases e' : b' = h.next
   ·subst e'; exact absurd hc' (hno a)
   ·exact H.inj b b' a (eMw e hc) (eMw e' hc') (fun h => hr ((iE e).2 h))
 ·intro b l' L' hb hL
  by_cases e : b = h.next
  ·subst e; simp [eMs] at hb; rcases hb with hb | hb <;> (subst hb; cases hsg)
  ·simp only [eMr _ _ _ _ e] at hb
   rw [aV _ _ e] at hL
   exact H.ex b l' L' hb hL
 ·intro b es l' i v hb hi
  by_cases e : b = h.next
  ·subst e; simp [eMs] at hb; subst hb; cases hsg
  ·simp only [eMr _ _ _ _ e] at hb
   exact H.grone b es l' i v hb hi
 ·intro b o L' h0 hb hL
  by_cases e : b = h.next
  ·subst e
   simp only [eMs, bD] at hb
   subst hb
   rw [cB] at hL
   cases hL
   refine ⟨H.own_new, ⟨rfl, rfl⟩, xo, ?_, hs.mono hext⟩
   show (w.heap.push _)[w.heap.size]? = _
   simp
  ·simp only [eMr _ _ _ _ e] at hb
   rw [aV _ _ e] at hL
   obtain ⟨h1, h2, bs, h3, h4⟩ := H.itr b o L' h0 hb hL
   refine ⟨h1, h2, bs, ?_, h4.mono hext⟩
   rw [Below.heap_alloc _ _ _ (hblk b o L' h0 hb hL)]
   exact h3
 ·intro b o b' o' L1 L2 h0 h0' hb hb' hL hL' he
  by_cases e : b = h.next
  ·by_cases e' : b' = h.next
   ·rw [e, e']
   ·subst e
    simp only [eMr _ _ _ _ e'] at hb'
    rw [cB] at hL
    cases hL
    rw [aV _ _ e'] at hL'
    have := hblk b' o' L2 h0' hb' hL'
    simp at he
    omega
  ·by_cases e' : b' = h.next
   ·subst e'
    simp only [eMr _ _ _ _ e] at hb
    rw [cB] at hL'
    cases hL'
    rw [aV _ _ e] at hL
    have := hblk b o L1 h0 hb hL
    simp at he
    omega
   ·simp only [eMr _ _ _ _ e] at hb
    simp only [eMr _ _ _ _ e'] at hb'
    rw [aV _ _ e] at hL
    rw [aV _ _ e'] at hL'
    exact H.itj b o b' o' L1 L2 h0 h0' hb hb' hL hL' he
theorem HR.newIter {G : Gd} {ρ : cN} {h : Hp} {w : World} (H : HR G ρ h w) (s : List Nat) (bs : ByteArray) (hs : bs.data.toList.map (·.toNat) = s) :
  HR G (mH ρ h.next ⟨w.heap.size, 0, 0, none⟩) ⟨h.next.succ, Tr.set (.it s 0) h.next h.bl⟩ (w.alloc (.stringIter bs 0)) := H.newSg _ rfl _ ⟨bs, rfl, hs⟩
theorem HR.setSg {G : Gd} {ρ : cN} {h : Hp} {w : World} (H : HR G ρ h w) {b : Pos} {ob ob1 : Ob} {xo xo1 : Obj} {L : Loc} (hsg : ob.sg = true) (hsg1 : ob1.sg = true)
  (hb : h.bl.get b = some ob) (hL : ρ b = some L) (hbs : w.heap[L.bl]? = some xo) (hnc : nc xo) (hs : SgR ρ ob1 xo1) :
  HR G ρ ⟨h.next, Tr.set ob1 b h.bl⟩ { w with heap := w.heap.setIfInBounds L.bl xo1 } ∧ Kp G w { w with heap := w.heap.setIfInBounds L.bl xo1 } := by
 obtain ⟨hB, _, _⟩ := H.itr b ob L hsg hb hL
 have hlt : L.bl < w.heap.size := by
  rcases Nat.lt_or_ge L.bl w.heap.size with h | h
  ·exact h
  ·simp [Array.getElem?_eq_none h] at hbs
 have hcell : ∀ a v, w.cell? a = some v → ({ w with heap := w.heap.setIfInBounds L.bl xo1 } : World).cell? a = some v := by
  intro a v ha
  have hne : L.bl ≠ a.block := by
   intro e
   exact bAq ha (by rw [← e]; exact hbs) hnc
  unfold World.cell? at ha ⊢
  rw [Array.getElem?_setIfInBounds_ne hne]
  exact ha
 have hfro : ∀ a v, w.cell? a = some v → ({ w with heap := w.heap.setIfInBounds L.bl xo1 } : World).frozen? a = w.frozen? a := by
  intro a v ha
  have hne : L.bl ≠ a.block := by
   intro e
   exact bAq ha (by rw [← e]; exact hbs) hnc
  unfold World.frozen?
  rw [Array.getElem?_setIfInBounds_ne hne]
 have hcl : ∀ {x a}, Claims ρ ⟨h.next, Tr.set ob1 b h.bl⟩ x a → Claims ρ h x a := by
  rintro x a ⟨k', l', L', h1, h2, h3⟩
  by_cases e : x = b
  ·subst e; simp [eMs] at h1; subst h1; cases hsg1
  ·simp only [eMr _ _ _ _ e] at h1
   exact ⟨k', l', L', h1, h2, h3⟩
 have hro : ∀ x, isRo ⟨h.next, Tr.set ob1 b h.bl⟩ x ↔ isRo h x := by
  intro x
  by_cases e : x = b
  ·subst e
   simp only [isRo, eMs, hb, bD]
   exact ⟨fun ⟨l0, h0⟩ => by (subst h0; cases hsg1), fun ⟨l0, h0⟩ => by (subst h0; cases hsg)⟩
  ·simp [isRo, eMr _ _ _ _ e]
 have hgl : ∀ k, k < G.B → ({ w with heap := w.heap.setIfInBounds L.bl xo1 } : World).heap[k]? = G.W[k]? := by
  intro k hk
  have hlb : G.B ≤ L.bl := hB.1
  have : (w.heap.setIfInBounds L.bl xo1)[k]? = w.heap[k]? := by
   rw [Array.getElem?_setIfInBounds]
   rw [if_neg (by omega)]
  exact this.trans (H.gl k hk)
 refine ⟨{ gl := hgl, sz := by simpa using H.sz, nx := H.nx, ro := fun x a hc hr => H.ro x a (hcl hc) ((hro x).1 hr), dom := ?_, lt := H.lt, cell := ?_, spare := ?_, free := ?_, inj := ?_, ex := ?_, grone := ?_, itr := ?_, itj := ?_ }, ?_⟩
 ·intro x o hx
  by_cases e : x = b
  ·subst e; exact ⟨L, hL⟩
  ·simp only [eMr _ _ _ _ e] at hx; exact H.dom x o hx
 ·intro x k1 l1 L1 i v hx hL1 hi hv
  by_cases e : x = b
  ·subst e; simp [eMs] at hx; subst hx; cases hsg1
  ·simp only [eMr _ _ _ _ e] at hx
   obtain ⟨v', h7, h8⟩ := H.cell x k1 l1 L1 i v hx hL1 hi hv
   exact ⟨v', hcell _ _ h7, h8⟩
 ·intro x l1 L1 es j hx hL1 hj
  by_cases e : x = b
  ·subst e; simp [eMs] at hx; subst hx; cases hsg1
  ·simp only [eMr _ _ _ _ e] at hx
   obtain ⟨v', h7⟩ := H.spare x l1 L1 es j hx hL1 hj
   exact ⟨v', hcell _ _ h7⟩
 ·intro x a hc hr
  obtain ⟨v, hv⟩ := H.lt_cell (hcl hc)
  rw [hfro a v hv]
  exact H.free x a (hcl hc) (fun h => hr ((hro x).2 h))
 ·intro x x' a hc hc' hr
  exact H.inj x x' a (hcl hc) (hcl hc') (fun h => hr ((hro x).2 h))
 ·intro x l1 L1 hx hL1
  by_cases e : x = b
  ·subst e; simp [eMs] at hx; rcases hx with hx | hx <;> (subst hx; cases hsg1)
  ·simp only [eMr _ _ _ _ e] at hx
   exact H.ex x l1 L1 hx hL1
 ·intro x es l1 i v hx hi
  by_cases e : x = b
  ·subst e; simp [eMs] at hx; subst hx; cases hsg1
  ·simp only [eMr _ _ _ _ e] at hx
   exact H.grone x es l1 i v hx hi
 ·intro x o L1 h0 hx hL1
  by_cases e : x = b
  ·subst e
   simp only [eMs, bD] at hx
   subst hx
   rw [hL] at hL1; cases hL1
   obtain ⟨h1, h2, _⟩ := H.itr x ob L hsg hb hL
   exact ⟨h1, h2, xo1, by simp [hlt], hs⟩
  ·simp only [eMr _ _ _ _ e] at hx
   obtain ⟨h1, h2, bs1, h3, h4⟩ := H.itr x o L1 h0 hx hL1
   have hne : L.bl ≠ L1.bl := fun he => e (H.itj b ob x o L L1 hsg h0 hb hx hL hL1 he).symm
   exact ⟨h1, h2, bs1, by rw [Array.getElem?_setIfInBounds_ne hne]; exact h3, h4⟩
 ·intro x o x' o' L1 L2 h0 h0' hx hx' h1 h2 he
  have hx0 : ∃ o, o.sg = true ∧ h.bl.get x = some o := by
   by_cases e : x = b
   ·subst e; exact ⟨_, hsg, hb⟩
   ·simp only [eMr _ _ _ _ e] at hx; exact ⟨_, h0, hx⟩
  have hx1 : ∃ o, o.sg = true ∧ h.bl.get x' = some o := by
   by_cases e : x' = b
   ·subst e; exact ⟨_, hsg, hb⟩
   ·simp only [eMr _ _ _ _ e] at hx'; exact ⟨_, h0', hx'⟩
  obtain ⟨_, hx0', hx0⟩ := hx0
  obtain ⟨_, hx1', hx1⟩ := hx1
  exact H.itj x _ x' _ L1 L2 hx0' hx1' hx0 hx1 h1 h2 he
 ·refine ⟨⟨rfl, rfl, rfl, by simp, fun k hk => ?_⟩, fun k hk => ?_⟩
  ·rw [Array.getElem?_setIfInBounds_ne (by have := hB.1; omega)]
  ·show (w.heap.setIfInBounds L.bl _)[k]? = _
   rw [Array.getElem?_setIfInBounds_ne (fun (e : L.bl = k) => hB.2 (by rw [e]; exact hk))]
end Go.Dd

namespace Go.Dd
open Go.RowKit (Below)
section
variable {P : Program} {w : World}
theorem rU {t : TypeId} {d : TypeDesc} (h : P.underlying t = some d) : (underlying t).run P w = .ok d w := by simp [underlying, h]
theorem rI {t : TypeId} {i : TypeInfo} (h : P.info? t = some i) : (typeInfo t).run P w = .ok i w := by simp [typeInfo, h]
theorem rZ {t : TypeId} {i : TypeInfo} {z : Value} (h : P.info? t = some i) (hz : i.zero = some z) : (zeroValue t).run P w = .ok z w := by simp [zeroValue, rI h, hz]
theorem rS {t : TypeId} {i : TypeInfo} (h : P.info? t = some i) : (sizeOf t).run P w = .ok i.size w := by simp [sizeOf, rI h]
theorem rA {t : TypeId} {d : TypeDesc} (h : P.underlying t = some d) : (isAgg t).run P w = .ok (jG d) w := by
 simp only [isAgg, Sem.run_bind, rU h, Result.andThen_ok]
 cases d <;> rfl
end
def SemOk (P : Program) (G : Gd) (ρ : cN) (w : World) (v : DV) (h1 : Hp) (s : Sem Value) : Prop :=
 ∃ ρ' w' v', s.run P w = .ok v' w' ∧ Ex G ρ ρ' ∧ VR ρ' v v' ∧ HR G ρ' h1 w' ∧ Kp G w w'
theorem SemOk.pure {P : Program} {G : Gd} {ρ : cN} {w : World} {v : DV} {h : Hp} (H : HR G ρ h w) {v' : Value} (hv : VR ρ v v') {s : Sem Value} (hs : s.run P w = .ok v' w) : SemOk P G ρ w v h s :=
 ⟨ρ, w, v', hs, Ex.refl G ρ, hv, H, Kp.refl G w⟩
section
variable {P : Program} {G : Gd} {ρ : cN} {w : World} {h h1 : Hp} {v : DV}
theorem cKt (H : HR G ρ h w) (cs : List DV) (arr : Array Value) (t : TypeId) (hcs : VRs ρ cs arr.toList) (hp : bS cs h = some (v, h1)) :
  SemOk P G ρ w v h1 (do pure (.pointer (some (← newRow t arr)))) := by
 simp only [bS, bD, bM] at hp
 obtain ⟨rfl, rfl⟩ := hp
 refine ⟨_, w.alloc (.cells arr t), .pointer (some ⟨w.heap.size, 0, none⟩), ?_, H.exx _, .p _ 0 ⟨w.heap.size, 0, 0, none⟩ (cB _ _ _), H.newRow .ex cs arr.toList arr t 0 hcs (fun i v hi => by simpa using hi) (.inl ⟨rfl, rfl⟩), dV H.sz _⟩
 simp [newRow]
theorem bVd (H : HR G ρ h w) {t : TypeId} {i : TypeInfo} {z : Value} (hi : P.info? t = some i) (hz : i.zero = some z) (hp : bS (xZ z) h = some (v, h1)) :
  SemOk P G ρ w v h1 (Instr.alloc t true (.tuple #[])) := by
 obtain ⟨ρ', w', v', h1', h2, h3, h4, h5⟩ := cKt (P := P) H (xZ z) z.cells t (eNv ρ z) hp
 refine ⟨ρ', w', v', ?_, h2, h3, h4, h5⟩
 simp only [Instr.alloc, Sem.run_bind, rZ hi hz, Result.andThen_ok]
 simpa [newVar] using h1'
theorem dSz (H : HR G ρ h w) {t : TypeId} {x : DV} {x' : Value} (hx : VR ρ x x') (hp : bQ x h = some (v, h1)) : SemOk P G ρ w v h1 (Instr.box t x') := by
 unfold bQ at hp
 split at hp
 ·rename_i cs hc
  obtain ⟨ρ', w', v', h1', h2, h3, h4, h5⟩ := cKt (P := P) H cs x'.cells t (hx.cells hc) hp
  exact ⟨ρ', w', v', by simpa [Instr.box, newVar] using h1', h2, h3, h4, h5⟩
 ·cases hp
theorem lX : ∀ (n : Nat) (l cs : List DV), rB n l = some cs → cs.length = n ∧ n ≤ l.length ∧ cs = l.take n ∧ ∀ v ∈ cs, v.one = true
 | 0, l, cs, h => by simp [rB] at h; subst h; simp
 | n + 1, [], cs, h => by simp [rB] at h
 | n + 1, x :: l, cs, h => by
  simp only [rB] at h
  split at h
  ·rename_i hx
   cases ht : rB n l with
   | none => rw [ht] at h; simp at h
   | some c =>
    rw [ht] at h; simp at h; subst h
    obtain ⟨h1, h2, h3, h4⟩ := lX n l c ht
    refine ⟨by simp [h1], by simp; exact h2, by simp [h3], ?_⟩
    intro v hv
    simp at hv
    rcases hv with rfl | hv
    ·exact hx
    ·exact h4 v hv
  ·cases h
theorem fA (H : HR G ρ h w) {b : Pos} {o n : Nat} {cs : List DV} {L : Loc} (hc : cellsAt b o n h = some cs) (hL : ρ b = some L) :
  cs.length = n ∧ (∀ v ∈ cs, v.one = true) ∧ (∃ k l, h.bl.get b = some (.row k l) ∧ cs = (l.drop o).take n ∧ n ≤ (l.drop o).length) ∧
  ∃ vs : List Value, VRs ρ cs vs ∧ vs.length = n ∧ ∀ (j : Nat) v, vs[j]? = some v → w.cell? (fN L (o + j)) = some v := by
 unfold cellsAt rowOf at hc
 split at hc
 ·rename_i l hl
  split at hl
  ·rename_i k l0 hb
   simp at hl; subst hl
   obtain ⟨h1, h2, h3, h4⟩ := lX n _ cs hc
   refine ⟨h1, h4, ⟨k, l0, hb, h3, h2⟩, ?_⟩
   have hcell : ∀ (j : Nat) x, cs[j]? = some x → ∃ v', w.cell? (fN L (o + j)) = some v' ∧ VR ρ x v' := by
    intro j x hj
    have ho := h4 x (List.mem_of_getElem? hj)
    have hlt : j < n := by
     rcases Nat.lt_or_ge j n with h | h
     ·exact h
     ·rw [List.getElem?_eq_none (by omega)] at hj; cases hj
    rw [h3, List.getElem?_take_of_lt hlt, List.getElem?_drop] at hj
    exact H.cell b k l0 L (o + j) x hb hL hj ho
   clear hc h3 h2
   subst h1
   clear h4
   induction cs generalizing o with
   | nil => exact ⟨[], .nil, rfl, by simp⟩
   | cons x cs ih =>
    obtain ⟨v', h5, h6⟩ := hcell 0 x (by simp)
    obtain ⟨vs, h7, h8, h9⟩ := ih (o := o + 1) (fun j y hj => by have := hcell (j + 1) y (by simpa using hj); rwa [show o + (j + 1) = o + 1 + j from by omega] at this)
    refine ⟨v' :: vs, .cons _ _ _ _ h6 h7, by simp [h8], fun j y hj => ?_⟩
    cases j with
    | zero => simp at hj; subst hj; simpa using h5
    | succ j => simp at hj; have := h9 j y hj; rwa [show o + 1 + j = o + (j + 1) from by omega] at this
  ·cases hl
 ·cases hc
theorem dG {a : Addr} {L : Loc} {o : Nat} (vs : List Value) (ha : a = fN L o) (hc : ∀ (j : Nat) v, vs[j]? = some v → w.cell? (fN L (o + j)) = some v) :
  (loadCells a vs.length).run P w = .ok vs.toArray w := by
 subst ha
 exact run_loadCells_list (P := P) (w := w) (fN L o) vs fun j v hj => by rw [gH]; exact hc j v hj
theorem cBt (H : HR G ρ h w) {t : TypeId} {d : TypeDesc} {x : DV} {x' : Value} (ht : P.underlying t = some d) (hd : jG d = false) (hx : VR ρ x x') (hp : aA x h = some (v, h1)) :
  SemOk P G ρ w v h1 (Instr.loadAt t x') := by
 unfold aA at hp
 split at hp
 ·rename_i b o
  split at hp
  ·rename_i u hc
   simp at hp
   obtain ⟨rfl, rfl⟩ := hp
   cases hx with
   | p _ _ L hL =>
    unfold cellD rowOf at hc
    split at hc
    ·rename_i l hl
     split at hl
     ·rename_i k l0 hb
      simp at hl; subst hl
      split at hc
      ·rename_i u0 hu
       split at hc
       ·rename_i ho
        simp at hc; subst hc
        obtain ⟨v', h5, h6⟩ := H.cell b k l0 L o u0 hb hL hu ho
        refine SemOk.pure H h6 ?_
        simp only [Instr.loadAt, Instr.sureAddr, Sem.run_bind, Sem.run_pure, Result.andThen_ok, loadVar, rA ht, hd]
        simp [h5]
       ·cases hc
      ·cases hc
     ·cases hl
    ·cases hc
  ·cases hp
 ·cases hp
theorem cIl (H : HR G ρ h w) {t : TypeId} {d : TypeDesc} {i : TypeInfo} {x : DV} {x' : Value} (ht : P.underlying t = some d) (hi : P.info? t = some i) (hd : jG d = true) (hx : VR ρ x x') (hp : aL i.size x h = some (v, h1)) :
  SemOk P G ρ w v h1 (Instr.loadAt t x') := by
 unfold aL at hp
 split at hp
 ·rename_i b o
  split at hp
  ·rename_i cs hc
   simp at hp
   obtain ⟨rfl, rfl⟩ := hp
   cases hx with
   | p _ _ L hL =>
    obtain ⟨h1, h2, _, vs, h4, h5, h6⟩ := fA H hc hL
    refine SemOk.pure H (.a cs vs.toArray (by simpa using h4)) ?_
    have := dG (P := P) vs rfl h6
    rw [h5] at this
    simp only [Instr.loadAt, Instr.sureAddr, Sem.run_bind, Sem.run_pure, Result.andThen_ok, loadVar, rA ht, hd, if_true, rS hi, this]
  ·cases hp
 ·cases hp
theorem bTu (H : HR G ρ h w) {t : TypeId} {i : TypeInfo} {x y : DV} {x' y' : Value} (hi : P.info? t = some i) (hx : VR ρ x x') (hy : VR ρ y y') (hp : aJ i.size x y h = some (v, h1)) :
  v = aY ∧ ∃ w', (Instr.storeAt t x' y').run P w = .ok () w' ∧ HR G ρ h1 w' ∧ Kp G w w' := by
 unfold aJ at hp
 split at hp
 ·rename_i b o cs hc
  split at hp
  ·rename_i hl
   split at hp
   ·rename_i h' hs
    simp at hp
    obtain ⟨rfl, rfl⟩ := hp
    cases hx with
    | p _ _ L hL =>
     have hcs := hy.cells hc
     obtain ⟨w', h3, h4, h5⟩ := jQ (P := P) H hs hL hcs
     refine ⟨rfl, w', ?_, h4, h5⟩
     have hlen := hcs.length
     have hne : ¬ y'.cells.size ≠ i.size := by simp at hlen; omega
     simp only [Instr.storeAt, Instr.sureAddr, Sem.run_bind, Sem.run_pure, Result.andThen_ok, storeVar, rS hi]
     rw [if_neg hne]
     simpa using h3
   ·cases hp
  ·cases hp
 ·cases hp
theorem aBo (off : Nat) : ∀ (l : List Value) (k : Nat) (cs : Array Value), off + k + l.length ≤ cs.size →
  ((l.zipIdx k).foldl (fun cs (c : Value × Nat) => cs.setIfInBounds (off + c.2) c.1) cs).toList = cs.toList.take (off + k) ++ l ++ cs.toList.drop (off + k + l.length)
 | [], k, cs, h => by simp
 | x :: l, k, cs, h => by
  simp only [List.zipIdx_cons, List.foldl_cons]
  simp only [List.length_cons] at h
  rw [aBo off l (k + 1) _ (by simp; omega)]
  simp only [Array.toList_setIfInBounds, List.length_cons]
  rw [show off + (k + 1) = (off + k) + 1 from by omega]
  have hlt : off + k < cs.toList.length := by simp; omega
  rw [List.take_succ_eq_append_getElem (by simpa using hlt)]
  simp only [List.take_set, List.getElem_set_self, List.append_assoc, List.singleton_append]
  congr 1
  ·rw [List.set_eq_of_length_le (by simp; omega)]
  ·rw [show off + k + 1 + l.length = off + k + (l.length + 1) from by omega]
   rw [List.drop_set_of_lt (by omega)]
theorem aNg {place : Nat → Option (Nat × Nat)} : ∀ (l : List (Nat × DV)) (l' : List (Nat × Value)) (cells : List DV) (cells' : Array Value) (q : List (Nat × Nat × DV)) (out : List DV),
  l.map (·.1) = l'.map (·.1) → VRs ρ (l.map (·.2)) (l'.map (·.2)) → VRs ρ cells cells'.toList →
  l.mapM (fun (x : Nat × DV) => (place x.1).map fun s => (s.1, s.2, x.2)) = some q → mE cells q = some out →
  ∃ out', Instr.fill place cells' l' = some out' ∧ VRs ρ out out'.toList
 | [], l', cells, cells', q, out, hi, hv, hc, hq, hf => by
  cases l' with
  | cons => simp at hi
  | nil => simp at hq; subst hq; simp [mE] at hf; subst hf; exact ⟨cells', by simp [Instr.fill], hc⟩
 | (i, x) :: l, l', cells, cells', q, out, hi, hv, hc, hq, hf => by
  cases l' with
  | nil => simp at hi
  | cons y l' =>
   obtain ⟨i', x'⟩ := y
   simp at hi
   obtain ⟨rfl, hi⟩ := hi
   simp only [List.map_cons] at hv
   cases hv with
   | cons _ _ _ _ hx hs =>
    simp only [List.mapM_cons] at hq
    cases hp : place i with
    | none => simp [hp] at hq
    | some s =>
     obtain ⟨off, size⟩ := s
     simp only [hp, Option.map_some, Option.bind_eq_bind, Option.bind_some] at hq
     cases hm : l.mapM (fun (x : Nat × DV) => (place x.1).map fun s => (s.1, s.2, x.2)) with
     | none => simp [hm] at hq
     | some q1 =>
      simp [hm] at hq
      subst hq
      simp only [mE] at hf
      cases hcs : dR x with
      | none => simp [hcs] at hf
      | some cs =>
       simp only [hcs] at hf
       split at hf
       ·rename_i hle
        obtain ⟨hl1, hl2⟩ := hle
        have hxc := hx.cells hcs
        have hxl := hxc.length
        have hcl := hc.length
        simp only [Array.length_toList] at hxl hcl
        have hnew : VRs ρ (cells.take off ++ cs ++ cells.drop (off + size)) (x'.cells.zipIdx.foldl (fun cs (c : Value × Nat) => cs.setIfInBounds (off + c.2) c.1) cells').toList := by
         rw [← Array.foldl_toList, Array.toList_zipIdx, aBo off x'.cells.toList 0 cells' (by simp; omega)]
         simp only [Nat.add_zero, Array.length_toList]
         rw [show off + x'.cells.size = off + size from by omega]
         exact ((hc.take off).append hxc).append (hc.drop (off + size))
        obtain ⟨out', h3, h4⟩ := aNg l l' _ _ q1 out hi hs hnew hm hf
        refine ⟨out', ?_, h4⟩
        simp only [Instr.fill, hp]
        have hne : (decide (x'.cells.size ≠ size) || decide (off + x'.cells.size > cells'.size)) = false := by
         simp; omega
        rw [if_neg (by rw [hne]; simp)]
        exact h3
       ·cases hf
end
end Go.Dd

namespace Go.Dd
open Go.RowKit (Below)
section
variable {P : Program} {G : Gd} {ρ : cN} {w : World} {h h1 : Hp} {v : DV}
theorem eNr {env : aZ} {ev : Operand → Value} (he : ∀ x, VR ρ (opr env x) (ev x)) : ∀ l : List (Nat × Operand), VRs ρ (l.map fun q => opr env q.2) (l.map fun q => ev q.2)
 | [] => .nil
 | x :: l => .cons _ _ _ _ (he x.2) (eNr he l)
theorem sP {α β γ : Type} (f : α → β) (g : β → Option γ) : ∀ l : List α, l.mapM (fun x => g (f x)) = (l.map f).mapM g
 | [] => rfl
 | x :: l => by simp only [List.map_cons, List.mapM_cons]; rw [sP f g l]
theorem cMg (H : HR G ρ h w) {t : TypeId} {fs : Array Field} {i : TypeInfo} {z : Value} {pl : List (Nat × Nat)} {ps : Array (Nat × Operand)} {env : aZ} {ev : Operand → Value} {l : List (Nat × Nat × DV)}
  (he : ∀ x, VR ρ (opr env x) (ev x)) (ht : P.underlying t = some (.struct fs)) (hi : P.info? t = some i) (hz : i.zero = some z)
  (hpl : fs.toList.mapM (fun f => (P.info? f.type).map fun fi => (f.offset, fi.size)) = some pl)
  (hl : ps.toList.mapM (fun (q : Nat × Operand) => (pl[q.1]?).map fun s => (s.1, s.2, opr env q.2)) = some l) (hp : bL (xZ z) l h = some (v, h1)) :
  SemOk P G ρ w v h1 (Instr.build t (ps.map fun (q : Nat × Operand) => (q.1, ev q.2))) := by
 unfold bL at hp
 split at hp
 ·rename_i cs hf
  simp at hp
  obtain ⟨rfl, rfl⟩ := hp
  have hl' : (ps.toList.map fun q => (q.1, opr env q.2)).mapM (fun (x : Nat × DV) => ((fun j => pl.toArray[j]?) x.1).map fun s => (s.1, s.2, x.2)) = some l := by
   rw [← sP (fun (q : Nat × Operand) => (q.1, opr env q.2)) (fun (x : Nat × DV) => ((fun j => pl.toArray[j]?) x.1).map fun s => (s.1, s.2, x.2))]
   simpa using hl
  obtain ⟨out', h3, h4⟩ := aNg (ρ := ρ) (place := fun j => pl.toArray[j]?) (ps.toList.map fun q => (q.1, opr env q.2)) (ps.toList.map fun q => (q.1, ev q.2)) (xZ z) z.cells l cs
   (by simp) (by simpa [List.map_map, Function.comp_def] using eNr he ps.toList) (eNv ρ z) hl' hf
  refine SemOk.pure H (.a cs out' h4) (run_build w t _ out' ?_)
  unfold Program.built
  simp only [hi, ht, hz, hpl]
  simpa using h3
 ·cases hp
theorem bLu (H : HR G ρ h w) {t e : TypeId} {n : Nat} {i ei : TypeInfo} {z : Value} {ps : Array (Nat × Operand)} {ev : Operand → Value}
  (ht : P.underlying t = some (.array n e)) (hi : P.info? t = some i) (hz : i.zero = some z) (hps : ps.toList = []) (he : P.info? e = some ei) (hp : bL (xZ z) [] h = some (v, h1)) :
  SemOk P G ρ w v h1 (Instr.build t (ps.map fun (q : Nat × Operand) => (q.1, ev q.2))) := by
 simp only [bL, mE, bD, bM] at hp
 obtain ⟨rfl, rfl⟩ := hp
 refine SemOk.pure H (.a _ z.cells (eNv ρ z)) (run_build w t _ z.cells ?_)
 unfold Program.built
 simp [hi, ht, hz, he, hps, Instr.fill]
theorem pU (z : Array Value) (n : Nat) (hz : 0 < z.size) : ((Array.range (n * z.size)).map (z[· % z.size]!)).toList = (List.replicate n z.toList).flatten := by
 induction n with
 | zero => simp
 | succ n ih =>
  have e : (n + 1) * z.size = n * z.size + z.size := Nat.succ_mul _ _
  rw [e]
  simp only [Array.toList_map, Array.toList_range] at ih ⊢
  rw [List.range_add, List.map_append, ih]
  rw [List.replicate_succ', List.flatten_append]
  congr 1
  simp only [List.map_map, List.flatten_cons, List.flatten_nil, List.append_nil]
  apply List.ext_getElem
  ·simp
  ·intro j h1 h2
   simp at h1
   simp [Nat.mul_add_mod_of_lt h1, h1]
theorem dVe (z : Array Value) (n : Nat) (hz : n * z.size = 0 ∨ 0 < z.size) : ((Array.range (n * z.size)).map (z[· % z.size]!)).toList = (List.replicate n z.toList).flatten := by
 rcases hz with hz | hz
 ·rw [hz]
  rcases Nat.mul_eq_zero.1 hz with e | e
  ·subst e; simp
  ·have : z = #[] := by simpa using e
   subst this
   simp
 ·exact pU z n hz
theorem nG {t e : TypeId} {i : TypeInfo} {z : Value} {n : Nat} {ps : Array (Nat × Operand)} {env : aZ} {ev : Operand → Value} {cs : List DV}
  (he : ∀ x, VR ρ (opr env x) (ev x)) (ht : P.underlying t = some (.slice e)) (hi : P.info? e = some i) (hz : i.zero = some z)
  (hn : n * i.size ≤ 2 ^ 24) (h0 : 0 < i.size) (hzs : z.cells.size = i.size)
  (hf : mE ((List.replicate n (xZ z)).flatten) (ps.toList.map fun (q : Nat × Operand) => (q.1 * i.size, i.size, opr env q.2)) = some cs) :
  ∃ out', (Instr.buildSlice t n (ps.map fun (q : Nat × Operand) => (q.1, ev q.2))).run P w = .ok (.slice (some ⟨w.heap.size, 0, none⟩) n n) (w.alloc (.cells out' e)) ∧ VRs ρ cs out'.toList := by
 have hl' : (ps.toList.map fun q => (q.1, opr env q.2)).mapM (fun (x : Nat × DV) => ((fun j => some (j * i.size, i.size)) x.1 : Option (Nat × Nat)).map fun s => (s.1, s.2, x.2)) = some (ps.toList.map fun (q : Nat × Operand) => (q.1 * i.size, i.size, opr env q.2)) := by
  rw [← sP (fun (q : Nat × Operand) => (q.1, opr env q.2)) (fun (x : Nat × DV) => ((fun j => some (j * i.size, i.size)) x.1 : Option (Nat × Nat)).map fun s => (s.1, s.2, x.2))]
  generalize ps.toList = l
  induction l with
  | nil => rfl
  | cons x l ih => simp only [List.mapM_cons, ih]; simp
 have hzero : VRs ρ (List.replicate n (xZ z)).flatten ((Array.range (n * i.size)).map (z.cells[· % z.cells.size]!)).toList := by
  rw [← hzs, pU z.cells n (by omega)]
  exact eMy (eNv ρ z) n
 obtain ⟨out', h3, h4⟩ := aNg (ρ := ρ) (place := fun j => some (j * i.size, i.size)) (ps.toList.map fun q => (q.1, opr env q.2)) (ps.toList.map fun q => (q.1, ev q.2)) _ _ _ cs
  (by simp) (by simpa [List.map_map, Function.comp_def] using eNr he ps.toList) hzero hl' hf
 refine ⟨out', ?_, h4⟩
 simp only [Instr.buildSlice, Sem.run_bind, rU ht, Result.andThen_ok, rS hi]
 rw [if_neg (by omega)]
 have h3' : Instr.fill (fun j => some (j * i.size, i.size)) ((Array.range (n * i.size)).map (z.cells[· % z.cells.size]!)) (ps.map fun (q : Nat × Operand) => (q.1, ev q.2)).toList = some out' := by simpa using h3
 by_cases hzz : n * i.size = 0
 ·rw [if_pos hzz]
  simp only [Sem.run_bind, Sem.run_pure, Result.andThen_ok]
  have : n = 0 := by rcases Nat.mul_eq_zero.1 hzz with e | e <;> omega
  subst this
  simp only [Nat.zero_mul] at h3' ⊢
  have h3'' : Instr.fill (fun j => some (j * i.size, i.size)) ((Array.range 0).map ((#[] : Array Value)[· % (#[] : Array Value).size]!)) (ps.map fun (q : Nat × Operand) => (q.1, ev q.2)).toList = some out' := by
   rw [← h3']
   have er : ∀ f g : Nat → Value, (Array.range 0).map f = (Array.range 0).map g := fun f g => by apply Array.ext <;> simp
   rw [er _ (fun x => z.cells[x % z.cells.size]!)]
  simp only [h3'']
  simp [newRow]
 ·rw [if_neg hzz]
  simp only [Sem.run_bind, rZ hi hz, Result.andThen_ok, Sem.run_pure, h3']
  simp [newRow]
theorem aAs (H : HR G ρ h w) {t e : TypeId} {i : TypeInfo} {z : Value} {n : Nat} {ps : Array (Nat × Operand)} {env : aZ} {ev : Operand → Value}
  (he : ∀ x, VR ρ (opr env x) (ev x)) (ht : P.underlying t = some (.slice e)) (hi : P.info? e = some i) (hz : i.zero = some z)
  (hn : n * i.size ≤ 2 ^ 24) (h0 : 0 < i.size) (hzs : z.cells.size = i.size)
  (hp : aO ((List.replicate n (xZ z)).flatten) n (ps.toList.map fun (q : Nat × Operand) => (q.1 * i.size, i.size, opr env q.2)) h = some (v, h1)) :
  SemOk P G ρ w v h1 (Instr.buildSlice t n (ps.map fun (q : Nat × Operand) => (q.1, ev q.2))) := by
 unfold aO at hp
 split at hp
 ·rename_i cs hf
  simp only [bD, bM] at hp
  obtain ⟨rfl, rfl⟩ := hp
  obtain ⟨out', h3, h4⟩ := nG (P := P) (w := w) (ρ := ρ) he ht hi hz hn h0 hzs hf
  have hrow := H.newRow .ex cs out'.toList out' e 0 h4 (fun j u hj => by simpa using hj) (.inl ⟨rfl, rfl⟩)
  exact ⟨_, w.alloc (.cells out' e), .slice (some ⟨w.heap.size, 0, none⟩) n n, h3, H.exx _, .l _ 0 n n ⟨w.heap.size, 0, 0, none⟩ (cB _ _ _), hrow, dV H.sz _⟩
 ·cases hp
theorem dTf (H : HR G ρ h w) {a : Act} {o : Oper} {x : Operand} {env : aZ} (ho : o.op = .nilCheck x) (he : VR ρ (opr env x) (a.eval x)) (hp : aX (opr env x) h = some (v, h1)) :
  (execOp a.eval o).run P w = .ok (.value (a.eval x)) w ∧ VR ρ v (a.eval x) ∧ h1 = h := by
 generalize hg : opr env x = d at *
 generalize hv : a.eval x = d' at *
 unfold aX at hp
 unfold execOp
 simp only [ho, hv]
 split at hp <;> (try (cases hp; done)) <;> (simp only [bD, bM] at hp; obtain ⟨rfl, rfl⟩ := hp; cases he) <;> refine ⟨by simp, ?_, rfl⟩ <;> constructor <;> assumption
theorem lS {op : BinOp} {t : TypeId} {x y : Operand} {a b : Value} (h1 : a ≠ .nilIface) (h2 : ∀ cs, a ≠ .agg cs) : (eqGuard op t x y a b).run P w = .ok () w := by
 unfold eqGuard
 cases a <;> first | (exact absurd rfl h1) | (exact absurd rfl (h2 _)) | (cases op <;> simp)
theorem dTs (H : HR G ρ h w) {op : BinOp} {t : TypeId} {x y : DV} {x' y' : Value} {ox oy : Operand} (hop : op ≠ .shl ∧ op ≠ .shr) (hx : VR ρ x x') (hy : VR ρ y y') (hp : aD op x y h = some (v, h1)) :
  SemOk P G ρ w v h1 (do eqGuard op t ox oy x' y'; binOp op t x' y') := by
 unfold aD at hp
 split at hp
 ·rename_i k a k' b
  cases hx
  cases hy
  split at hp
  ·rename_i hk
   subst hk
   split at hp
   ·rename_i r hr
    simp at hp
    obtain ⟨rfl, rfl⟩ := hp
    have hg := lS (P := P) (w := w) (op := op) (t := t) (x := ox) (y := oy) (a := .int k a) (b := .int k b) (by simp) (by simp)
    cases op <;> simp [gK] at hr <;> first
     | (exact absurd rfl hop.1)
     | (exact absurd rfl hop.2)
     | (subst hr; refine SemOk.pure H (by constructor) ?_; simp only [Sem.run_bind, hg, Result.andThen_ok]; simp [binOp, Op.intArith, Op.intCmp, Op.intBits]; done)
     | (obtain ⟨hb, rfl⟩ := hr; refine SemOk.pure H (by constructor) ?_; simp only [Sem.run_bind, hg, Result.andThen_ok]; simp [binOp, Op.intDiv, hb]; done)
   ·cases hp
  ·cases hp
 ·cases hp
theorem aOl (H : HR G ρ h w) {op : BinOp} {t : TypeId} {x y : DV} {x' y' : Value} {ox oy : Operand} (hop : op = .shl ∨ op = .shr) (hx : VR ρ x x') (hy : VR ρ y y') (hp : dL op x y h = some (v, h1)) :
  SemOk P G ρ w v h1 (do eqGuard op t ox oy x' y'; binOp op t x' y') := by
 unfold dL at hp
 split at hp
 ·rename_i k a k' b
  cases hx
  cases hy
  split at hp
  ·cases hp
  ·rename_i hb
   have hg := lS (P := P) (w := w) (op := op) (t := t) (x := ox) (y := oy) (a := .int k a) (b := .int k' b) (by simp) (by simp)
   rcases hop with rfl | rfl
   ·simp only [bD, bM] at hp
    obtain ⟨rfl, rfl⟩ := hp
    refine SemOk.pure H (by constructor) ?_
    simp only [Sem.run_bind, hg, Result.andThen_ok]
    simp [binOp, Op.shift, hb]
   ·simp only [bD, bM] at hp
    obtain ⟨rfl, rfl⟩ := hp
    refine SemOk.pure H (by constructor) ?_
    simp only [Sem.run_bind, hg, Result.andThen_ok]
    simp [binOp, Op.shift, hb]
 ·cases hp
theorem aIl : ∀ a b : List UInt8, eqD (a.map (·.toNat)) (b.map (·.toNat)) = (a == b)
 | [], [] => rfl
 | [], _ :: _ => rfl
 | _ :: _, [] => rfl
 | x :: a, y :: b => by
  simp only [List.map_cons, eqD, aIl a b, List.cons_beq_cons]
  congr 1
  rw [Bool.eq_iff_iff]
  simp [UInt8.toNat_inj]
theorem aBl : ∀ a b : List UInt8, nY (a.map (·.toNat)) (b.map (·.toNat)) = Op.bytesLess a b
 | _, [] => by simp [nY, Op.bytesLess]
 | [], _ :: _ => by simp [nY, Op.bytesLess]
 | x :: a, y :: b => by
  simp only [List.map_cons, nY, aBl a b, Op.bytesLess]
  congr 1
  ·rw [Bool.eq_iff_iff]
   simp [UInt8.lt_iff_toNat_lt]
  ·congr 1
   rw [Bool.eq_iff_iff]
   simp [UInt8.toNat_inj]
theorem dUm (H : HR G ρ h w) {op : BinOp} {t : TypeId} {x y : DV} {x' y' : Value} {ox oy : Operand} (hx : VR ρ x x') (hy : VR ρ y y') (hp : fK op x y h = some (v, h1)) :
  SemOk P G ρ w v h1 (do eqGuard op t ox oy x' y'; binOp op t x' y') := by
 unfold fK at hp
 split at hp
 ·rename_i a b
  cases hx with
  | s _ a' ha =>
  cases hy with
  | s _ b' hb =>
  split at hp
  ·rename_i r hr
   simp at hp
   obtain ⟨rfl, rfl⟩ := hp
   have hg := lS (P := P) (w := w) (op := op) (t := t) (x := ox) (y := oy) (a := .string a') (b := .string b') (by simp) (by simp)
   have ea : a'.toList = a'.data.toList := ByteArray.toList_eq a'
   have eb : b'.toList = b'.data.toList := ByteArray.toList_eq b'
   have e1 : eqD a b = (a'.toList == b'.toList) := by rw [← ha, ← hb, aIl, ea, eb]
   have e2 : nY a b = Op.bytesLess a'.toList b'.toList := by rw [← ha, ← hb, aBl, ea, eb]
   have la : a.length = a'.size := by rw [← ha, List.length_map, Array.length_toList]; rfl
   have lb : b.length = b'.size := by rw [← hb, List.length_map, Array.length_toList]; rfl
   cases op <;> simp only [bVb] at hr <;> (try (cases hr; done))
   case add =>
    split at hr
    ·cases hr
    ·rename_i hle
     simp at hr; subst hr
     refine SemOk.pure H (.s _ (a' ++ b') ?_) ?_
     ·simp [ha, hb]
     ·simp only [Sem.run_bind, hg, Result.andThen_ok]
      simp only [binOp, Op.stringOp]
      rw [la, lb] at hle
      rw [if_neg hle]
      simp
   all_goals
    simp only [bD] at hr
    subst hr
    refine SemOk.pure H (by constructor) ?_
    simp only [Sem.run_bind, hg, Result.andThen_ok]
    simp [binOp, Op.stringOp, e1, e2]
  ·cases hp
 ·cases hp
theorem aTf {d : TypeDesc} {t : TypeId} {x y : DV} {x' y' : Value} {r : Bool} (ht : P.underlying t = some d) (hx : VR ρ x x') (hy : VR ρ y y') (hr : aOx d x y = some r) :
  (Op.equal t x' y').run P w = .ok r w := by
 unfold Op.equal
 rw [show Op.maxDepth = 9999 + 1 from rfl]
 unfold Op.equalIn
 simp only [Sem.run_bind, rU ht, Result.andThen_ok]
 unfold aOx at hr
 split at hr <;> (try (cases hr; done)) <;> (simp at hr; subst hr; cases hx; cases hy; simp)
theorem dGn (H : HR G ρ h w) {op : BinOp} {pos : Bool} {d : TypeDesc} {t : TypeId} {x y : DV} {x' y' : Value} {ox oy : Operand} (ht : P.underlying t = some d) (hop : (op = .eql ∧ pos = true) ∨ (op = .neq ∧ pos = false))
  (hx : VR ρ x x') (hy : VR ρ y y') (hp : pEq d pos x y h = some (v, h1)) :
  SemOk P G ρ w v h1 (do eqGuard op t ox oy x' y'; binOp op t x' y') := by
 unfold pEq at hp
 split at hp
 ·rename_i r hr
  simp only [bD, bM] at hp
  obtain ⟨rfl, rfl⟩ := hp
  have heq := aTf (P := P) (w := w) ht hx hy hr
  have hne : x' ≠ .nilIface ∧ (∀ cs, x' ≠ .agg cs) := by
   unfold aOx at hr
   split at hr <;> (try (cases hr; done)) <;> (cases hx; simp)
  have hg := lS (P := P) (w := w) (op := op) (t := t) (x := ox) (y := oy) (a := x') (b := y') hne.1 hne.2
  refine SemOk.pure H (by constructor) ?_
  simp only [Sem.run_bind, hg, Result.andThen_ok]
  unfold aOx at hr
  rcases hop with ⟨rfl, rfl⟩ | ⟨rfl, rfl⟩ <;> split at hr <;> (try (cases hr; done)) <;> (cases hx; cases hy; simp [binOp, heq])
 ·cases hp
theorem dJn (H : HR G ρ h w) {op : BinOp} {d : TypeDesc} {t : TypeId} {x y : DV} {x' y' : Value} {ox oy : Operand} (ht : P.underlying t = some d)
  (hx : VR ρ x x') (hy : VR ρ y y') (hp : cMx op d x y h = some (v, h1)) :
  SemOk P G ρ w v h1 (do eqGuard op t ox oy x' y'; binOp op t x' y') := by
 unfold cMx at hp
 split at hp
 ·split at hp
  ·exact aOl H (.inl rfl) hx hy hp
  ·exact aOl H (.inr rfl) hx hy hp
  ·rename_i h1 h2; exact dTs H ⟨h1, h2⟩ hx hy hp
 ·exact dUm H hx hy hp
 ·split at hp
  ·exact dGn H ht (.inl ⟨rfl, rfl⟩) hx hy hp
  ·exact dGn H ht (.inr ⟨rfl, rfl⟩) hx hy hp
  ·cases hp
theorem oC {t : TypeId} {k : IntKind} {xs : Array Value} {j : Nat} {u : Value} (ht : P.underlying t = some (.int k)) (hx : xs[j]? = some u) : (part t xs j).run P w = .ok u w := by
 unfold part isAgg
 simp [rU ht, hx]
theorem iU {d : Nat} {t : TypeId} {k l : IntKind} {a b : Int} (ht : P.underlying t = some (.int k)) : (Op.equalIn (d + 1) t (.int l a) (.int l b)).run P w = .ok (a == b) w := by
 unfold Op.equalIn
 simp [rU ht]
theorem dPq (H : HR G ρ h w) {op : BinOp} {fs : Array Field} {t : TypeId} {x y : DV} {x' y' : Value} {ox oy : Operand} (ht : P.underlying t = some (.struct fs))
  (hx : VR ρ x x') (hy : VR ρ y y') (hp : bZz (aPs P t fs) op x y h = some (v, h1)) :
  SemOk P G ρ w v h1 (do eqGuard op t ox oy x' y'; binOp op t x' y') := by
 unfold bZz at hp
 split at hp <;> (try (cases hp; done))
 rename_i k a l b k' a' l' b'
 split at hp <;> (try (cases hp; done))
 rename_i hc
 obtain ⟨hf, rfl, rfl⟩ := hc
 obtain ⟨f, g, hfs⟩ : ∃ f g, fs.toList = [f, g] := by
  unfold aPs at hf
  split at hf
  ·rename_i f g e; exact ⟨f, g, e⟩
  ·cases hf
 unfold aPs at hf
 rw [hfs] at hf
 simp only [Bool.and_eq_true, Bool.not_eq_true'] at hf
 obtain ⟨n1, n2, o1, o2, d1, d2, st, gt⟩ := hf
 have o1 := Nat.eq_of_beq_eq_true o1
 have o2 := Nat.eq_of_beq_eq_true o2
 obtain ⟨kf, d1⟩ : ∃ kf, P.underlying f.type = some (.int kf) := by
  unfold kW at d1; split at d1
  ·rename_i k e; exact ⟨k, e⟩
  ·cases d1
 obtain ⟨kg, d2⟩ : ∃ kg, P.underlying g.type = some (.int kg) := by
  unfold kW at d2; split at d2
  ·rename_i k e; exact ⟨k, e⟩
  ·cases d2
 have efs : fs = #[f, g] := by apply Array.toList_inj.1; exact hfs
 cases hx with | a _ xs hxs => cases hy with | a _ ys hys =>
 have x0 : xs[0]? = some (.int k a) ∧ xs[1]? = some (.int l b) := by
  obtain ⟨u0, e0, r0⟩ := hxs.get 0 _ rfl
  obtain ⟨u1, e1, r1⟩ := hxs.get 1 _ rfl
  cases r0; cases r1
  exact ⟨by simpa using e0, by simpa using e1⟩
 have y0 : ys[0]? = some (.int k a') ∧ ys[1]? = some (.int l b') := by
  obtain ⟨u0, e0, r0⟩ := hys.get 0 _ rfl
  obtain ⟨u1, e1, r1⟩ := hys.get 1 _ rfl
  cases r0; cases r1
  exact ⟨by simpa using e0, by simpa using e1⟩
 have hg : (eqGuard op t ox oy (.agg xs) (.agg ys)).run P w = .ok () w := by
  unfold eqGuard
  cases op <;> simp [gt]
 have heq : (Op.equal t (.agg xs) (.agg ys)).run P w = .ok (a == a' && b == b') w := by
  unfold Op.equal
  rw [show Op.maxDepth = 9998 + 1 + 1 from rfl]
  unfold Op.equalIn
  have p0 := oC (w := w) (u := .int k a) d1 (show xs[f.offset]? = _ by rw [o1]; exact x0.1)
  have p1 := oC (w := w) (u := .int l b) d2 (show xs[g.offset]? = _ by rw [o2]; exact x0.2)
  have q0 := oC (w := w) (u := .int k a') d1 (show ys[f.offset]? = _ by rw [o1]; exact y0.1)
  have q1 := oC (w := w) (u := .int l b') d2 (show ys[g.offset]? = _ by rw [o2]; exact y0.2)
  have m1 : f.name ≠ "_" := by simpa using n1
  have m2 : g.name ≠ "_" := by simpa using n2
  subst efs
  simp [rU ht, st, m1, m2, p0, q0, p1, q1, iU d1, iU d2]
  by_cases c1 : a = a'
  ·by_cases c2 : b = b' <;> simp [c1, c2]
  ·simp [c1]
 split at hp <;> (try (cases hp; done)) <;> (simp only [bD, bM] at hp; obtain ⟨rfl, rfl⟩ := hp; refine SemOk.pure H (by constructor) ?_; simp only [Sem.run_bind, hg, Result.andThen_ok]; simp [binOp, heq])
theorem dQs (H : HR G ρ h w) {op : BinOp} {fs : Array Field} {t : TypeId} {x y : DV} {x' y' : Value} {ox oy : Operand} (ht : P.underlying t = some (.struct fs))
  (hx : VR ρ x x') (hy : VR ρ y y') (hf : aBg P t fs = true) (hp : bNg op x y h = some (v, h1)) :
  SemOk P G ρ w v h1 (do eqGuard op t ox oy x' y'; binOp op t x' y') := by
 unfold bNg at hp
 split at hp <;> (try (cases hp; done))
 rename_i k a l b m c k' a' l' b' m' c'
 split at hp <;> (try (cases hp; done))
 rename_i hc
 obtain ⟨rfl, rfl, rfl⟩ := hc
 obtain ⟨f, g, e, hfs⟩ : ∃ f g e, fs.toList = [f, g, e] := by
  unfold aBg at hf
  split at hf
  ·rename_i f g e q; exact ⟨f, g, e, q⟩
  ·cases hf
 unfold aBg at hf
 rw [hfs] at hf
 simp only [Bool.and_eq_true, Bool.not_eq_true'] at hf
 obtain ⟨n1, n2, n3, o1, o2, o3, d1, d2, d3, st, gt⟩ := hf
 have o1 := Nat.eq_of_beq_eq_true o1
 have o2 := Nat.eq_of_beq_eq_true o2
 have o3 := Nat.eq_of_beq_eq_true o3
 obtain ⟨kf, d1⟩ : ∃ kf, P.underlying f.type = some (.int kf) := by
  unfold kW at d1; split at d1
  ·rename_i k e; exact ⟨k, e⟩
  ·cases d1
 obtain ⟨kg, d2⟩ : ∃ kg, P.underlying g.type = some (.int kg) := by
  unfold kW at d2; split at d2
  ·rename_i k e; exact ⟨k, e⟩
  ·cases d2
 obtain ⟨ke, d3⟩ : ∃ ke, P.underlying e.type = some (.int ke) := by
  unfold kW at d3; split at d3
  ·rename_i k e; exact ⟨k, e⟩
  ·cases d3
 have efs : fs = #[f, g, e] := by apply Array.toList_inj.1; exact hfs
 cases hx with | a _ xs hxs => cases hy with | a _ ys hys =>
 have x0 : xs[0]? = some (.int k a) ∧ xs[1]? = some (.int l b) ∧ xs[2]? = some (.int m c) := by
  obtain ⟨u0, e0, r0⟩ := hxs.get 0 _ rfl
  obtain ⟨u1, e1, r1⟩ := hxs.get 1 _ rfl
  obtain ⟨u2, e2, r2⟩ := hxs.get 2 _ rfl
  cases r0; cases r1; cases r2
  exact ⟨by simpa using e0, by simpa using e1, by simpa using e2⟩
 have y0 : ys[0]? = some (.int k a') ∧ ys[1]? = some (.int l b') ∧ ys[2]? = some (.int m c') := by
  obtain ⟨u0, e0, r0⟩ := hys.get 0 _ rfl
  obtain ⟨u1, e1, r1⟩ := hys.get 1 _ rfl
  obtain ⟨u2, e2, r2⟩ := hys.get 2 _ rfl
  cases r0; cases r1; cases r2
  exact ⟨by simpa using e0, by simpa using e1, by simpa using e2⟩
 have hg : (eqGuard op t ox oy (.agg xs) (.agg ys)).run P w = .ok () w := by
  unfold eqGuard
  cases op <;> simp [gt]
 have heq : (Op.equal t (.agg xs) (.agg ys)).run P w = .ok (a == a' && (b == b' && c == c')) w := by
  unfold Op.equal
  rw [show Op.maxDepth = 9998 + 1 + 1 from rfl]
  unfold Op.equalIn
  have p0 := oC (w := w) (u := .int k a) d1 (show xs[f.offset]? = _ by rw [o1]; exact x0.1)
  have p1 := oC (w := w) (u := .int l b) d2 (show xs[g.offset]? = _ by rw [o2]; exact x0.2.1)
  have p2 := oC (w := w) (u := .int m c) d3 (show xs[e.offset]? = _ by rw [o3]; exact x0.2.2)
  have q0 := oC (w := w) (u := .int k a') d1 (show ys[f.offset]? = _ by rw [o1]; exact y0.1)
  have q1 := oC (w := w) (u := .int l b') d2 (show ys[g.offset]? = _ by rw [o2]; exact y0.2.1)
  have q2 := oC (w := w) (u := .int m c') d3 (show ys[e.offset]? = _ by rw [o3]; exact y0.2.2)
  have m1 : f.name ≠ "_" := by simpa using n1
  have m2 : g.name ≠ "_" := by simpa using n2
  have m3 : e.name ≠ "_" := by simpa using n3
  subst efs
  simp [rU ht, st, m1, m2, m3, p0, q0, p1, q1, p2, q2, iU d1, iU d2, iU d3]
  by_cases c1 : a = a'
  ·by_cases c2 : b = b'
   ·by_cases c3 : c = c' <;> simp [c1, c2, c3]
   ·simp [c1, c2]
  ·simp [c1]
 split at hp <;> (try (cases hp; done)) <;> (simp only [bD, bM] at hp; obtain ⟨rfl, rfl⟩ := hp; refine SemOk.pure H (by constructor) ?_; simp only [Sem.run_bind, hg, Result.andThen_ok]; simp [binOp, heq])
theorem dPn (H : HR G ρ h w) {op : BinOp} {fs : Array Field} {t : TypeId} {x y : DV} {x' y' : Value} {ox oy : Operand} (ht : P.underlying t = some (.struct fs))
  (hx : VR ρ x x') (hy : VR ρ y y') (hp : dBl (aPs P t fs) (aBg P t fs) op x y h = some (v, h1)) :
  SemOk P G ρ w v h1 (do eqGuard op t ox oy x' y'; binOp op t x' y') := by
 unfold dBl at hp
 cases h3 : aBg P t fs with
 | true => rw [h3] at hp; exact dQs H ht hx hy h3 hp
 | false => rw [h3] at hp; exact dPq H ht hx hy hp
theorem dVp (H : HR G ρ h w) {op : UnOp} {x : DV} {x' : Value} (hx : VR ρ x x') (hp : gP op x h = some (v, h1)) : SemOk P G ρ w v h1 (Op.unary op x') := by
 unfold gP at hp
 split at hp <;> (try (cases hp; done)) <;> (simp only [bD, bM] at hp; obtain ⟨rfl, rfl⟩ := hp; cases hx; refine SemOk.pure H (by constructor) ?_; simp [Op.unary, Op.intArith])
end
end Go.Dd

namespace Go.Dd
open Go.RowKit (Below)
section
variable {P : Program} {G : Gd} {ρ : cN} {w : World} {h h1 : Hp} {v : DV}
theorem bQi (H : HR G ρ h w) {src dst : TypeId} {d : TypeDesc} {k : IntKind} {x : DV} {x' : Value} (hs : P.underlying src = some d) (hd : P.underlying dst = some (.int k)) (hx : VR ρ x x') (hp : cX k x h = some (v, h1)) :
  SemOk P G ρ w v h1 (convert src dst x') := by
 unfold cX at hp
 split at hp <;> (try (cases hp; done))
 simp only [bD, bM] at hp
 obtain ⟨rfl, rfl⟩ := hp
 cases hx
 refine SemOk.pure H (by constructor) ?_
 simp only [convert, Sem.run_bind, rU hs, rU hd, Result.andThen_ok]
 simp [Conv.intToInt]
theorem bUi (H : HR G ρ h w) {src dst : TypeId} {x : DV} {x' : Value} (hs : P.underlying src = some .string) (hd : P.underlying dst = some .string) (hx : VR ρ x x') (hp : aKz x h = some (v, h1)) :
  SemOk P G ρ w v h1 (convert src dst x') := by
 unfold aKz at hp
 split at hp <;> (try (cases hp; done))
 simp only [bD, bM] at hp
 obtain ⟨rfl, rfl⟩ := hp
 cases hx with
 | s _ bs hb =>
 refine SemOk.pure H (.s _ bs hb) ?_
 simp only [convert, Sem.run_bind, rU hs, rU hd, Result.andThen_ok]
 simp
theorem aBf {ρ : cN} : ∀ {cs : List DV} {l : List Nat} {vs : List Value}, xS cs = some l → VRs ρ cs vs → vs = (l.map fun (n : Nat) => (n : Int)).map (Value.int .u8) ∧ ∀ n ∈ l, n < 256
 | [], l, vs, h, hv => by
  simp only [xS, bD] at h
  subst h
  cases hv
  exact ⟨rfl, by simp⟩
 | x :: cs, l, vs, h, hv => by
  unfold xS at h
  split at h <;> (try (cases h; done))
  ·rename_i heq
   cases heq
  ·rename_i n cs' heq
   cases heq
   split at h <;> (try (cases h; done))
   rename_i hn
   obtain ⟨l', e, rfl⟩ := Option.map_eq_some_iff.1 h
   cases hv with
   | cons _ x' _ vs' hx hs =>
    cases hx
    obtain ⟨rfl, k⟩ := aBf e hs
    refine ⟨rfl, fun m hm => ?_⟩
    rcases List.mem_cons.1 hm with rfl | hm
    ·exact hn
    ·exact k m hm
theorem xY : ∀ (l : List Nat) (b : ByteArray), (∀ n ∈ l, n < 256) → (((l.map fun (n : Nat) => (n : Int)).foldl (fun r n => r.push (UInt8.ofNat n.toNat)) b).data.toList.map (·.toNat)) = b.data.toList.map (·.toNat) ++ l
 | [], b, _ => by simp
 | n :: l, b, h => by
  simp only [List.map_cons, List.foldl_cons]
  rw [xY l _ fun m hm => h m (by simp [hm])]
  have hn : n < 256 := h n (by simp)
  have e : (b.push (UInt8.ofNat ((n : Int)).toNat)).data.toList.map (·.toNat) = b.data.toList.map (·.toNat) ++ [n] := by
   show ((b.data.push (UInt8.ofNat ((n : Int)).toNat)).toList.map (·.toNat)) = _
   simp
   omega
  rw [e]
  simp
theorem cAn (H : HR G ρ h w) {src dst e : TypeId} {x : DV} {x' : Value} (hs : P.underlying src = some (.slice e)) (he : P.underlying e = some (.int .u8)) (hd : P.underlying dst = some .string) (hx : VR ρ x x') (hp : gY x h = some (v, h1)) :
  SemOk P G ρ w v h1 (convert src dst x') := by
 unfold gY at hp
 split at hp <;> (try (cases hp; done))
 ·simp only [bD, bM] at hp
  obtain ⟨rfl, rfl⟩ := hp
  cases hx
  refine SemOk.pure H (.s [] ByteArray.empty rfl) ?_
  rw [run_convert_bytes_string w src dst e _ _ _ hs he hd]
  rfl
 ·rename_i b o len cap
  split at hp <;> (try (cases hp; done))
  rename_i cs hc
  split at hp <;> (try (cases hp; done))
  rename_i l hl
  simp only [bD, bM] at hp
  obtain ⟨rfl, rfl⟩ := hp
  cases hx with
  | l _ _ _ _ L hL =>
   obtain ⟨_, _, _, vs, h4, h5, h6⟩ := fA H hc hL
   obtain ⟨rfl, hb⟩ := aBf hl h4
   have := dG (P := P) _ rfl h6
   rw [h5] at this
   refine SemOk.pure H (.s l ((l.map fun (n : Nat) => (n : Int)).foldl (fun r n => r.push (UInt8.ofNat n.toNat)) ByteArray.empty) ?_) ?_
   rotate_left
   ·rw [run_convert_bytes_string w src dst e _ _ _ hs he hd]
    exact run_bytesToString w _ len _ _ this
   ·have := xY l ByteArray.empty hb
    simpa using this
theorem gZ {x : DV} {x' : Value} {y n y' : Nat} {code : BoundsCode} (hx : VR ρ x x') (hn : iI x y = some n) (hy : y ≤ y') : (Instr.sliceBound x' y' code).run P w = .ok n w ∧ n ≤ y := by
 unfold iI at hn
 split at hn <;> (try (cases hn; done))
 split at hn <;> (try (cases hn; done))
 rename_i i hi
 simp only [bD] at hn
 subst hn
 cases hx
 refine ⟨?_, by omega⟩
 simp only [Instr.sliceBound, asIntOf, Sem.run_bind, Sem.run_pure, Result.andThen_ok]
 rw [if_pos (by omega)]
 simp
inductive OR (ρ : cN) : Option DV → Option Value → Prop
 | none : OR ρ none none
 | some (x : DV) (x' : Value) (h : VR ρ x x') : OR ρ (some x) (some x')
theorem lK {isS : Bool} {len cap cap' e s : Nat} {lo hi : Option DV} {lo' hi' : Option Value} (hl : OR ρ lo lo') (hh : OR ρ hi hi') (hc : cap ≤ cap') (h1 : hiD hi len cap = some e) (h2 : loD lo e = some s) :
  (Instr.sliceBounds isS len cap' lo' hi' none).run P w = .ok (s, e, cap') w ∧ s ≤ e ∧ e ≤ cap := by
 unfold Instr.sliceBounds
 cases hh with
 | none =>
  simp only [hiD] at h1
  split at h1 <;> (try (cases h1; done))
  rename_i hle
  simp only [bD] at h1
  subst h1
  cases hl with
  | none => simp only [loD, bD] at h2; subst h2; simp [hle]
  | some x x' hx =>
   obtain ⟨h3, h4⟩ := gZ (P := P) (w := w) (code := if (none : Option Value).isSome then .slice3C else .sliceB) hx h2 (Nat.le_refl _)
   refine ⟨?_, h4, hle⟩
   simp only [Sem.run_bind, Sem.run_pure, Result.andThen_ok, h3]
 | some y y' hy =>
  simp only [hiD] at h1
  obtain ⟨h5, h6⟩ := gZ (P := P) (w := w) (code := if isS then .sliceAcap else .sliceAlen) hy h1 hc
  cases hl with
  | none =>
   simp only [loD, bD] at h2; subst h2
   refine ⟨?_, Nat.zero_le _, h6⟩
   simp only [Sem.run_bind, Sem.run_pure, Result.andThen_ok, h5]
  | some x x' hx =>
   obtain ⟨h3, h4⟩ := gZ (P := P) (w := w) (code := if (none : Option Value).isSome then .slice3C else .sliceB) hx h2 (Nat.le_refl _)
   refine ⟨?_, h4, h6⟩
   simp only [Sem.run_bind, Sem.run_pure, Result.andThen_ok, h5, h3]
theorem bMd (H : HR G ρ h w) {t : TypeId} {x : DV} {x' : Value} {lo hi : Option DV} {lo' hi' : Option Value} (ht : P.underlying t = some .string) (hx : VR ρ x x') (hl : OR ρ lo lo') (hh : OR ρ hi hi') (hp : fW x lo hi h = some (v, h1)) :
  SemOk P G ρ w v h1 (Instr.sliceAt t x' lo' hi' none) := by
 unfold fW at hp
 split at hp <;> (try (cases hp; done))
 rename_i l
 split at hp <;> (try (cases hp; done))
 rename_i e he
 split at hp <;> (try (cases hp; done))
 rename_i s hs
 simp only [bD, bM] at hp
 obtain ⟨rfl, rfl⟩ := hp
 cases hx with
 | s _ bs hb =>
  have hlen : l.length = bs.size := by rw [← hb, List.length_map, Array.length_toList]; rfl
  rw [hlen] at he
  obtain ⟨h3, h4, h5⟩ := lK (P := P) (w := w) (isS := false) hl hh (Nat.le_refl _) he hs
  refine SemOk.pure H (.s _ (bs.extract s e) ?_) ?_
  ·subst hb
   simp [List.map_drop, List.map_take, List.drop_take]
  ·simp only [Instr.sliceAt, Sem.run_bind, rU ht, Result.andThen_ok, Instr.slice]
   simp only [Option.isSome_none, Bool.false_eq_true, if_false, Sem.run_bind, Sem.run_pure, Result.andThen_ok, h3]
theorem cDx (H : HR G ρ h w) {t e : TypeId} {i : TypeInfo} {x : DV} {x' : Value} {lo hi : Option DV} {lo' hi' : Option Value} (ht : P.underlying t = some (.slice e)) (hi0 : P.info? e = some i) (hx : VR ρ x x') (hl : OR ρ lo lo') (hh : OR ρ hi hi')
  (hp : cT i.size x lo hi h = some (v, h1)) : SemOk P G ρ w v h1 (Instr.sliceAt t x' lo' hi' none) := by
 unfold cT at hp
 split at hp <;> (try (cases hp; done))
 ·rename_i b o len cap
  split at hp <;> (try (cases hp; done))
  rename_i en he
  split at hp <;> (try (cases hp; done))
  rename_i s hs
  cases hx with
  | l _ _ _ _ L hL =>
   obtain ⟨h3, h4, h5⟩ := lK (P := P) (w := w) (isS := true) (cap' := cap + L.sp) hl hh (Nat.le_add_right _ _) he hs
   have hrun : (Instr.sliceAt t (.slice (some (fN L o)) len (cap + L.sp)) lo' hi' none).run P w = .ok (.slice (if cap + L.sp = s then some (fN L o) else (some (fN L o)).map (·.add (s * i.size))) (en - s) (cap + L.sp - s)) w := by
    simp only [Instr.sliceAt, Sem.run_bind, rU ht, Result.andThen_ok, Instr.slice, h3, rS hi0, Sem.run_pure]
   have hold : ∀ k l0, h.bl.get b = some (.row k l0) → L.sp = 0 → (some ((DV.l b (if cap = s then o else o + s * i.size) (en - s) (cap - s)), h) = some (v, h1)) → SemOk P G ρ w v h1 (Instr.sliceAt t (.slice (some (fN L o)) len (cap + L.sp)) lo' hi' none) := by
    intro k l0 hb hsp hp
    simp only [bD, bM] at hp
    obtain ⟨rfl, rfl⟩ := hp
    refine SemOk.pure H (.l b _ _ _ L hL) (hrun.trans ?_)
    rw [hsp]
    simp only [Nat.add_zero]
    split <;> simp [gH]
   split at hp <;> (try (cases hp; done))
   ·rename_i l0 hb; exact hold _ _ hb (H.ex b l0 L (.inl hb) hL) hp
   ·rename_i l0 hb; exact hold _ _ hb (H.ex b l0 L (.inr hb) hL) hp
   ·rename_i k l0 _ _ hb
    split at hp
    ·rename_i hcs
     simp only [bD, bM] at hp
     obtain ⟨rfl, rfl⟩ := hp
     have hv : VR ρ .le (.slice (if cap + L.sp = s then some (fN L o) else (some (fN L o)).map (·.add (s * i.size))) (en - s) (cap + L.sp - s)) := by
      rw [show en - s = 0 from by omega]
      split
      ·exact .le _ _
      ·exact .le _ _
     exact SemOk.pure H hv hrun
    ·rename_i hcs
     simp only [bD, bM] at hp
     obtain ⟨rfl, rfl⟩ := hp
     refine SemOk.pure H (.l b _ _ _ L hL) (hrun.trans ?_)
     rw [if_neg (by omega), show cap + L.sp - s = cap - s + L.sp from by omega]
     simp [gH]
 ·rename_i b o len cap
  split at hp <;> (try (cases hp; done))
  rename_i en he
  split at hp <;> (try (cases hp; done))
  rename_i s hs
  simp only [bD, bM] at hp
  obtain ⟨rfl, rfl⟩ := hp
  cases hx with
  | lx _ _ _ _ L hL =>
   obtain ⟨h3, h4, h5⟩ := lK (P := P) (w := w) (isS := true) (cap' := cap) hl hh (Nat.le_refl _) he hs
   have hrun : (Instr.sliceAt t (.slice (some (fN L o)) len cap) lo' hi' none).run P w = .ok (.slice (if cap = s then some (fN L o) else (some (fN L o)).map (·.add (s * i.size))) (en - s) (cap - s)) w := by
    simp only [Instr.sliceAt, Sem.run_bind, rU ht, Result.andThen_ok, Instr.slice, h3, rS hi0, Sem.run_pure]
   refine SemOk.pure H (.lx b _ _ _ L hL) (hrun.trans ?_)
   split <;> simp [gH]
 ·split at hp <;> (try (cases hp; done))
  rename_i en he
  split at hp <;> (try (cases hp; done))
  rename_i s hs
  simp only [bD, bM] at hp
  obtain ⟨rfl, rfl⟩ := hp
  cases hx
  obtain ⟨h3, h4, h5⟩ := lK (P := P) (w := w) (isS := true) hl hh (Nat.le_refl _) he hs
  obtain rfl : en = 0 := by omega
  obtain rfl : s = 0 := by omega
  refine SemOk.pure H .l0 ?_
  simp only [Instr.sliceAt, Sem.run_bind, rU ht, Result.andThen_ok, Instr.slice, h3, rS hi0, Sem.run_pure]
  simp
 ·split at hp <;> (try (cases hp; done))
  rename_i en he
  split at hp <;> (try (cases hp; done))
  rename_i s hs
  simp only [bD, bM] at hp
  obtain ⟨rfl, rfl⟩ := hp
  cases hx with
  | le a c =>
   obtain ⟨h3, h4, h5⟩ := lK (P := P) (w := w) (isS := true) (cap' := c) hl hh (Nat.zero_le _) he hs
   have hrun : (Instr.sliceAt t (.slice (some a) 0 c) lo' hi' none).run P w = .ok (.slice (if c = s then some a else (some a).map (·.add (s * i.size))) (en - s) (c - s)) w := by
    simp only [Instr.sliceAt, Sem.run_bind, rU ht, Result.andThen_ok, Instr.slice, h3, rS hi0, Sem.run_pure]
   have hv : VR ρ .le (.slice (if c = s then some a else (some a).map (·.add (s * i.size))) (en - s) (c - s)) := by
    rw [show en - s = 0 from by omega]
    split
    ·exact .le _ _
    ·exact .le _ _
   exact SemOk.pure H hv hrun
theorem bMq (H : HR G ρ h w) {t e : TypeId} {i : TypeInfo} {x hi mx : DV} {x' hi' mx' : Value} {lo : Option DV} {lo' : Option Value} (ht : P.underlying t = some (.slice e)) (hi0 : P.info? e = some i) (hx : VR ρ x x') (hl : OR ρ lo lo') (hh : VR ρ hi hi') (hm : VR ρ mx mx')
  (hp : nQ x lo hi mx h = some (v, h1)) : SemOk P G ρ w v h1 (Instr.sliceAt t x' lo' (some hi') (some mx')) := by
 have hmain : ∀ (b : Pos) (o len cap cap' m n : Nat) (L : Loc), ρ b = some L → cap ≤ cap' → iI mx cap = some m → iI hi m = some n → lo' = none →
   SemOk P G ρ w (.lx b o n m) h (Instr.sliceAt t (.slice (some (fN L o)) len cap') lo' (some hi') (some mx')) := by
  intro b o len cap cap' m n L hL hc e1 e2 hlo
  subst hlo
  obtain ⟨h3, h4⟩ := gZ (P := P) (w := w) (y' := cap') (code := .slice3Acap) hm e1 hc
  obtain ⟨h5, h6⟩ := gZ (P := P) (w := w) (y' := m) (code := .slice3B) hh e2 (Nat.le_refl _)
  refine SemOk.pure H (.lx b o n m L hL) ?_
  simp only [Instr.sliceAt, Sem.run_bind, rU ht, Result.andThen_ok, Instr.slice, Instr.sliceBounds, h3, h5, rS hi0, Sem.run_pure]
  by_cases h0 : m = 0
  ·subst h0
   simp [h3, h5]
  ·simp [h0, h3, h5, gH]
 unfold nQ at hp
 split at hp <;> (try (cases hp; done))
 ·rename_i b o len cap
  split at hp <;> (try (cases hp; done))
  rename_i m e1
  split at hp <;> (try (cases hp; done))
  rename_i n e2
  simp only [bD, bM] at hp
  obtain ⟨rfl, rfl⟩ := hp
  cases hx with
  | l _ _ _ _ L hL =>
   cases hl
   exact hmain b o len cap _ m n L hL (Nat.le_add_right _ _) e1 e2 rfl
 ·rename_i b o len cap
  split at hp <;> (try (cases hp; done))
  rename_i m e1
  split at hp <;> (try (cases hp; done))
  rename_i n e2
  simp only [bD, bM] at hp
  obtain ⟨rfl, rfl⟩ := hp
  cases hx with
  | lx _ _ _ _ L hL =>
   cases hl
   exact hmain b o len cap _ m n L hL (Nat.le_refl _) e1 e2 rfl
 ·split at hp <;> (try (cases hp; done))
  rename_i n1 n2 e1 e2
  simp only [bD, bM] at hp
  obtain ⟨rfl, rfl⟩ := hp
  cases hx
  cases hl
  obtain ⟨h3, h4⟩ := gZ (P := P) (w := w) (y' := 0) (code := .slice3Acap) hm e1 (Nat.zero_le _)
  obtain ⟨h5, h6⟩ := gZ (P := P) (w := w) (y' := n1) (code := .slice3B) hh e2 (Nat.zero_le _)
  obtain rfl : n1 = 0 := by omega
  obtain rfl : n2 = 0 := by omega
  refine SemOk.pure H .l0 ?_
  simp only [Instr.sliceAt, Sem.run_bind, rU ht, Result.andThen_ok, Instr.slice, Instr.sliceBounds, h3, h5, rS hi0, Sem.run_pure, if_true]
 ·split at hp <;> (try (cases hp; done))
  rename_i n1 n2 e1 e2
  simp only [bD, bM] at hp
  obtain ⟨rfl, rfl⟩ := hp
  cases hx with
  | le a c =>
  cases hl
  obtain ⟨h3, h4⟩ := gZ (P := P) (w := w) (y' := c) (code := .slice3Acap) hm e1 (Nat.zero_le _)
  obtain ⟨h5, h6⟩ := gZ (P := P) (w := w) (y' := n1) (code := .slice3B) hh e2 (Nat.zero_le _)
  obtain rfl : n1 = 0 := by omega
  obtain rfl : n2 = 0 := by omega
  refine SemOk.pure H (.le a 0) ?_
  simp only [Instr.sliceAt, Sem.run_bind, rU ht, Result.andThen_ok, Instr.slice, Instr.sliceBounds, h3, h5, rS hi0, Sem.run_pure, if_true]
theorem cAx (H : HR G ρ h w) {t : TypeId} {fs : Array Field} {f : Nat} {fl : Field} {i : TypeInfo} {x : DV} {x' : Value} (ht : P.underlying t = some (.struct fs)) (hf : fs[f]? = some fl) (hi : P.info? fl.type = some i) (h0 : i.size ≠ 0) (hx : VR ρ x x')
  (hp : aB fl.offset x h = some (v, h1)) : SemOk P G ρ w v h1 (Instr.fieldAt t x' f) := by
 unfold aB at hp
 split at hp <;> (try (cases hp; done))
 simp only [bD, bM] at hp
 obtain ⟨rfl, rfl⟩ := hp
 cases hx with
 | p b o L hL =>
  refine SemOk.pure H (.p _ _ L hL) ?_
  simp only [Instr.fieldAt, Sem.run_bind, rU ht, Result.andThen_ok, hf, Instr.sureAddr, Sem.run_pure, fieldPlace, rS hi]
  rw [if_neg h0]
  simp [gH]
theorem bPo (H : HR G ρ h w) {t : TypeId} {fs : Array Field} {f : Nat} {fl : Field} {d : TypeDesc} {x : DV} {x' : Value} (ht : P.underlying t = some (.struct fs)) (hf : fs[f]? = some fl) (hd : P.underlying fl.type = some d) (ha : jG d = false) (hx : VR ρ x x')
  (hp : gJ fl.offset x h = some (v, h1)) : SemOk P G ρ w v h1 (Instr.field t x' f) := by
 unfold gJ at hp
 split at hp <;> (try (cases hp; done))
 split at hp <;> (try (cases hp; done))
 rename_i u hu
 simp only [bD, bM] at hp
 obtain ⟨rfl, rfl⟩ := hp
 cases hx with
 | a _ cs' hc =>
  obtain ⟨u', h3, h4⟩ := hc.get _ _ hu
  refine SemOk.pure H h4 ?_
  simp only [Instr.field, Sem.run_bind, rU ht, Result.andThen_ok, hf, asAgg, Sem.run_pure, part, rA hd, ha]
  simp only [Array.getElem?_toList] at h3
  simp [h3]
theorem bOv (H : HR G ρ h w) {t : TypeId} {fs : Array Field} {f : Nat} {fl : Field} {d : TypeDesc} {i : TypeInfo} {x : DV} {x' : Value} (ht : P.underlying t = some (.struct fs)) (hf : fs[f]? = some fl) (hd : P.underlying fl.type = some d) (hi : P.info? fl.type = some i) (ha : jG d = true) (hx : VR ρ x x')
  (hp : aGz fl.offset i.size x h = some (v, h1)) : SemOk P G ρ w v h1 (Instr.field t x' f) := by
 unfold aGz at hp
 split at hp <;> (try (cases hp; done))
 simp only [bD, bM] at hp
 obtain ⟨rfl, rfl⟩ := hp
 cases hx with
 | a _ cs' hc =>
  refine SemOk.pure H (.a _ (cs'.extract fl.offset (fl.offset + i.size)) ?_) ?_
  ·have := (hc.drop fl.offset).take i.size
   simpa [List.take_drop, Nat.add_comm] using this
  ·simp only [Instr.field, Sem.run_bind, rU ht, Result.andThen_ok, hf, asAgg, Sem.run_pure, part, rA hd, ha, rS hi, if_true]
theorem aHo (H : HR G ρ h w) {t e : TypeId} {i : TypeInfo} {x ix : DV} {x' ix' : Value} (ht : P.underlying t = some (.slice e)) (hi : P.info? e = some i) (hx : VR ρ x x') (hix : VR ρ ix ix') (hp : aC i.size x ix h = some (v, h1)) :
  SemOk P G ρ w v h1 (Instr.indexAt t x' ix') := by
 unfold aC at hp
 split at hp <;> (try (cases hp; done))
 ·split at hp <;> (try (cases hp; done))
  rename_i hr
  simp only [bD, bM] at hp
  obtain ⟨rfl, rfl⟩ := hp
  cases hix
  cases hx with
  | l b o len cap L hL =>
   refine SemOk.pure H (.p _ _ L hL) ?_
   simp only [Instr.indexAt, asIntOf, Sem.run_bind, Sem.run_pure, Result.andThen_ok, rU ht]
   simp [hr, rS hi, gH]
 ·split at hp <;> (try (cases hp; done))
  rename_i hr
  simp only [bD, bM] at hp
  obtain ⟨rfl, rfl⟩ := hp
  cases hix
  cases hx with
  | lx b o len cap L hL =>
   refine SemOk.pure H (.p _ _ L hL) ?_
   simp only [Instr.indexAt, asIntOf, Sem.run_bind, Sem.run_pure, Result.andThen_ok, rU ht]
   simp [hr, rS hi, gH]
theorem aQk (H : HR G ρ h w) {t e : TypeId} {n : Nat} {i : TypeInfo} {x ix : DV} {x' ix' : Value} (ht : P.underlying t = some (.array n e)) (hi : P.info? e = some i) (hx : VR ρ x x') (hix : VR ρ ix ix') (hp : lL n i.size x ix h = some (v, h1)) :
  SemOk P G ρ w v h1 (Instr.indexAt t x' ix') := by
 unfold lL at hp
 split at hp <;> (try (cases hp; done))
 split at hp <;> (try (cases hp; done))
 rename_i hr
 simp only [bD, bM] at hp
 obtain ⟨rfl, rfl⟩ := hp
 cases hix
 cases hx with
 | p b o L hL =>
  refine SemOk.pure H (.p _ _ L hL) ?_
  simp only [Instr.indexAt, asIntOf, Sem.run_bind, Sem.run_pure, Result.andThen_ok, rU ht, Instr.sureAddr]
  simp [hr, rS hi, gH]
theorem bJq (H : HR G ρ h w) {t : TypeId} {x ix : DV} {x' ix' : Value} (ht : P.underlying t = some .string) (hx : VR ρ x x') (hix : VR ρ ix ix') (hp : cQ x ix h = some (v, h1)) :
  SemOk P G ρ w v h1 (Instr.index t x' ix') := by
 unfold cQ at hp
 split at hp <;> (try (cases hp; done))
 rename_i l k n
 split at hp <;> (try (cases hp; done))
 rename_i h0
 split at hp <;> (try (cases hp; done))
 rename_i c hc
 simp only [bD, bM] at hp
 obtain ⟨rfl, rfl⟩ := hp
 cases hix
 cases hx with
 | s _ bs hb =>
  subst hb
  rw [List.getElem?_map, Array.getElem?_toList] at hc
  cases hg : bs.data[n.toNat]? with
  | none => rw [hg] at hc; cases hc
  | some u =>
   rw [hg] at hc
   simp only [Option.map_some, bD] at hc
   subst hc
   refine SemOk.pure H (by constructor) ?_
   have hs : bs[n.toNat]? = some u := by
    have hlt : n.toNat < bs.size := (Array.getElem?_eq_some_iff.1 hg).1
    rw [ByteArray.getElem?_lt' bs _ hlt]
    congr 1
    exact (Array.getElem?_eq_some_iff.1 hg).2
   simp only [Instr.index, asIntOf, Sem.run_bind, Sem.run_pure, Result.andThen_ok, rU ht]
   simp [h0, hs]
theorem aQx (H : HR G ρ h w) {i : Nat} {x : DV} {x' : Value} (hx : VR ρ x x') (hp : aE i x h = some (v, h1)) : SemOk P G ρ w v h1 (Instr.extract x' i) := by
 unfold aE at hp
 split at hp <;> (try (cases hp; done))
 split at hp <;> (try (cases hp; done))
 rename_i u hu
 simp only [bD, bM] at hp
 obtain ⟨rfl, rfl⟩ := hp
 cases hx with
 | t _ vs' hc =>
  obtain ⟨u', h3, h4⟩ := hc.get _ _ hu
  refine SemOk.pure H h4 ?_
  simp only [Array.getElem?_toList] at h3
  simp [Instr.extract, h3]
end
end Go.Dd

namespace Go.Dd
open Go.RowKit (Below)
section
variable {P : Program} {G : Gd} {ρ : cN} {w : World} {h h1 : Hp} {v : DV}
theorem HR.kill (H : HR G ρ h w) {b : Pos} {es o : Nat} {l : List DV} (hb : h.bl.get b = some (.row (.gr es) l)) :
  HR G ρ ⟨h.next, Tr.set (.row .sp (bV o l)) b h.bl⟩ w := by
 obtain ⟨k1, k2⟩ := kM o l
 have hroB : ¬ isRo h b := by rintro ⟨l0, h0⟩; rw [hb] at h0; simp at h0
 have hcl : ∀ {x a}, Claims ρ ⟨h.next, Tr.set (.row .sp (bV o l)) b h.bl⟩ x a → Claims ρ h x a := by
  rintro x a ⟨k', l', L', h1, h2, h3⟩
  by_cases e : x = b
  ·subst e
   simp only [eMs, bD, Ob.row.injEq] at h1
   obtain ⟨rfl, rfl⟩ := h1
   rcases h3 with ⟨i, u, hi, hu, rfl⟩ | ⟨es, j, h4, _, _⟩
   ·exact ⟨_, l, L', hb, h2, .inl ⟨i, u, (k2 i u hi hu).2, hu, rfl⟩⟩
   ·cases h4
  ·simp only [eMr _ _ _ _ e] at h1
   exact ⟨k', l', L', h1, h2, h3⟩
 have hro : ∀ x, isRo ⟨h.next, Tr.set (.row .sp (bV o l)) b h.bl⟩ x ↔ isRo h x := by
  intro x
  by_cases e : x = b
  ·subst e; simp [isRo, eMs, hb]
  ·simp [isRo, eMr _ _ _ _ e]
 refine { gl := H.gl, sz := H.sz, nx := H.nx, ro := fun x a hc hr => H.ro x a (hcl hc) ((hro x).1 hr), dom := ?_, lt := H.lt, cell := ?_, spare := ?_, free := ?_, inj := ?_, ex := ?_, grone := ?_, itr := ?_, itj := ?_ }
 ·intro x ob hx
  by_cases e : x = b
  ·subst e; exact H.dom x _ hb
  ·simp only [eMr _ _ _ _ e] at hx; exact H.dom x ob hx
 ·intro x k' l' L' i u hx hL' hi hu
  by_cases e : x = b
  ·subst e
   simp only [eMs, bD, Ob.row.injEq] at hx
   obtain ⟨rfl, rfl⟩ := hx
   exact H.cell x _ l L' i u hb hL' (k2 i u hi hu).2 hu
  ·simp only [eMr _ _ _ _ e] at hx
   exact H.cell x k' l' L' i u hx hL' hi hu
 ·intro x l' L' es j hx hL' hj
  by_cases e : x = b
  ·subst e; simp [eMs] at hx
  ·simp only [eMr _ _ _ _ e] at hx
   exact H.spare x l' L' es j hx hL' hj
 ·intro x a hc hr
  exact H.free x a (hcl hc) (fun h => hr ((hro x).2 h))
 ·intro x x' a hc hc' hr
  exact H.inj x x' a (hcl hc) (hcl hc') (fun h => hr ((hro x).2 h))
 ·intro x l' L' hx hL'
  by_cases e : x = b
  ·subst e; simp [eMs] at hx
  ·simp only [eMr _ _ _ _ e] at hx
   exact H.ex x l' L' hx hL'
 ·intro x es l' i u hx hi
  by_cases e : x = b
  ·subst e; simp [eMs] at hx
  ·simp only [eMr _ _ _ _ e] at hx
   exact H.grone x es l' i u hx hi
 ·intro x o L' h0 hx hL'
  by_cases e : x = b
  ·subst e; simp [eMs] at hx; subst hx; cases h0
  ·simp only [eMr _ _ _ _ e] at hx
   exact H.itr x o L' h0 hx hL'
 ·intro x o x' o' L1 L2 h0 h0' hx hx' h1 h2 he
  by_cases e : x = b
  ·subst e; simp [eMs] at hx; subst hx; cases h0
  ·by_cases e' : x' = b
   ·subst e'; simp [eMs] at hx'; subst hx'; cases h0'
   ·simp only [eMr _ _ _ _ e] at hx
    simp only [eMr _ _ _ _ e'] at hx'
    exact H.itj x o x' o' L1 L2 h0 h0' hx hx' h1 h2 he
theorem dPo (H : HR G ρ h w) {size n : Nat} {x : DV} {x' : Value} {new : List DV} (h0 : 0 < size) (hx : VR ρ x x') (hs : aAy size x h = some (n, new)) :
  ∃ new' : List Value, VRs ρ new new' ∧ new.length = n * size ∧ (∀ u ∈ new, u.one = true) ∧ (Builtin.lenOf x').run P w = .ok n w ∧
   ∀ w1 : World, w1.heap = w.heap → (Builtin.lenOf x').run P w1 = .ok n w1 ∧ (Builtin.firstCells size n x').run P w1 = .ok new'.toArray w1 := by
 unfold aAy at hs
 split at hs <;> (try (cases hs; done))
 ·simp only [bD, bM] at hs
  obtain ⟨rfl, rfl⟩ := hs
  cases hx
  exact ⟨[], .nil, by simp, by simp, by simp [Builtin.lenOf], fun w1 _ => ⟨by simp [Builtin.lenOf], by simp [Builtin.firstCells]⟩⟩
 ·simp only [bD, bM] at hs
  obtain ⟨rfl, rfl⟩ := hs
  cases hx with
  | le a c =>
   refine ⟨[], .nil, by simp, by simp, by simp [Builtin.lenOf], fun w1 _ => ⟨by simp [Builtin.lenOf], ?_⟩⟩
   simp [Builtin.firstCells, loadCells, loadCellsFrom]
 ·rename_i b o m cap
  split at hs <;> (try (cases hs; done))
  rename_i cs hc
  simp only [bD, bM] at hs
  obtain ⟨rfl, rfl⟩ := hs
  cases hx with
  | l _ _ _ _ L hL =>
   obtain ⟨h1, h2, _, vs, h4, h5, h6⟩ := fA H hc hL
   refine ⟨vs, h4, h1, h2, by simp [Builtin.lenOf], fun w1 hw1 => ⟨by simp [Builtin.lenOf], ?_⟩⟩
   have := dG (P := P) (w := w1) (a := fN L o) vs rfl (fun j u hj => by have := h6 j u hj; simpa [World.cell?, hw1] using this)
   rw [h5] at this
   simpa [Builtin.firstCells] using this
 ·rename_i b o m cap
  split at hs <;> (try (cases hs; done))
  rename_i cs hc
  simp only [bD, bM] at hs
  obtain ⟨rfl, rfl⟩ := hs
  cases hx with
  | lx _ _ _ _ L hL =>
   obtain ⟨h1, h2, _, vs, h4, h5, h6⟩ := fA H hc hL
   refine ⟨vs, h4, h1, h2, by simp [Builtin.lenOf], fun w1 hw1 => ⟨by simp [Builtin.lenOf], ?_⟩⟩
   have := dG (P := P) (w := w1) (a := fN L o) vs rfl (fun j u hj => by have := h6 j u hj; simpa [World.cell?, hw1] using this)
   rw [h5] at this
   simpa [Builtin.firstCells] using this
 ·rename_i l
  split at hs <;> (try (cases hs; done))
  rename_i h1
  simp only [bD, bM] at hs
  obtain ⟨rfl, rfl⟩ := hs
  subst h1
  cases hx with
  | s _ bs hb =>
   have hlen : l.length = bs.size := by rw [← hb, List.length_map, Array.length_toList]; rfl
   refine ⟨bs.data.toList.map fun b => .int .u8 b.toNat, ?_, by simp, ?_, by simp [Builtin.lenOf, hlen], fun w1 _ => ⟨by simp [Builtin.lenOf, hlen], ?_⟩⟩
   ·rw [← hb, List.map_map]
    exact VRs.map _ _ (fun c => .i _ _) _
   ·intro u hu
    simp at hu
    obtain ⟨c, _, rfl⟩ := hu
    rfl
   ·simp only [Builtin.firstCells, Sem.run_pure, hlen]
    congr 1
    have he : (bs.extract 0 bs.size).data = bs.data := by
     rw [ByteArray.data_extract]
     exact Array.extract_size
    rw [he]
    apply Array.toList_inj.1
    simp
theorem fG {t u e : TypeId} {i : TypeInfo} {ty : TypeId} {base : Option Addr} {sLen sCap n : Nat} {x' : Value} {d : TypeDesc} {new' : Array Value}
  (ht : P.underlying t = some (.slice e)) (hu : P.underlying u = some d) (hd : ∀ k, d ≠ .int k) (hi : P.info? e = some i) (hl : (Builtin.lenOf x').run P w = .ok n w)
  (hf : (Builtin.firstCells i.size n x').run P w = .ok new' w) (hle : sLen + n ≤ sCap) :
  (Builtin.append_ #[t, u] ty #[.slice base sLen sCap, x']).run P w =
   (match base with
    | some a => (storeCells (a.add (sLen * i.size)) new'.toList).run P w
    | none => .ok () w).andThen fun _ w' => .ok (.slice base (sLen + n) sCap) w' := by
 have hz : (match d with | .int _ => true | _ => false) = false := by cases d <;> first | rfl | exact absurd rfl (hd _)
 simp only [Builtin.append_, List.getElem?_toArray, List.getElem?_cons_zero, List.getElem?_cons_succ, Sem.run_bind, rU ht, rU hu, rS hi, Result.andThen_ok, Sem.run_pure]
 simp only [hz, Bool.false_eq_true, if_false, hl, Result.andThen_ok, Bool.not_false, if_true, hle, Sem.run_bind, hf]
 cases base <;> simp
theorem tL {t u e : TypeId} {i : TypeInfo} {z : Value} {ty : TypeId} {base : Option Addr} {sLen sCap n : Nat} {x' : Value} {d : TypeDesc} {old' new' : Array Value}
  (ht : P.underlying t = some (.slice e)) (hu : P.underlying u = some d) (hd : ∀ k, d ≠ .int k) (hi : P.info? e = some i) (hz : i.zero = some z) (hl : (Builtin.lenOf x').run P w = .ok n w)
  (ho : (Builtin.firstCells i.size sLen (.slice base sLen sCap)).run P w.drew = .ok old' w.drew) (hf : (Builtin.firstCells i.size n x').run P w.drew = .ok new' w.drew) (hgt : ¬ sLen + n ≤ sCap)
  (hb0 : 0 < i.bytes) (hroom : (sLen + n) * i.bytes ≤ tF) :
  ∃ newCap, sLen + n ≤ newCap ∧ (Builtin.append_ #[t, u] ty #[.slice base sLen sCap, x']).run P w =
   .ok (.slice (some ⟨w.heap.size, 0, none⟩) (sLen + n) newCap) (w.drew.alloc (.cells (old' ++ new' ++ Builtin.zeroCells z.cells (newCap - (sLen + n))) e)) := by
 have hzd : (match d with | .int _ => true | _ => false) = false := by cases d <;> first | rfl | exact absurd rfl (hd _)
 refine ⟨(Question.appendCap (sLen + n) sCap e).cut (w.tape w.drawn (.appendCap (sLen + n) sCap e)), by simp [Question.cut], ?_⟩
 have hsmall : sLen + n ≤ tF := Nat.le_trans (Nat.le_mul_of_pos_right _ hb0) hroom
 have hmax : ¬ ((((sLen + n : Nat) : Int) > IntKind.i64.max) ∧ (False ∨ i.bytes = 0)) := by rintro ⟨_, h | h⟩ <;> omega
 have hfit := growslice_fits (need := sLen + n) (old := sCap) (bytes := i.bytes) (by omega) (by unfold tF at hroom; omega)
 simp only [Builtin.append_, List.getElem?_toArray, List.getElem?_cons_zero, List.getElem?_cons_succ, Sem.run_bind, rU ht, rU hu, rS hi, Result.andThen_ok, Sem.run_pure]
 simp only [hzd, Bool.false_eq_true, if_false, hl, Result.andThen_ok, Bool.not_false, if_true, hgt, Sem.run_bind, rI hi]
 rw [if_neg hmax]
 simp only [Sem.run_bind, rI hi, Result.andThen_ok, Sem.run_pure]
 rw [if_neg (by omega)]
 simp only [Sem.run_bind, run_choose, Question.forced, Bool.false_eq_true, if_false, Result.andThen_ok, rI hi, run_askRoom, World.drew_eq, ho, hf, rZ hi hz, Sem.run_pure]
 simp [newRow]
 rfl
theorem bLt (H : HR G ρ h w) {t u e : TypeId} {i : TypeInfo} {z : Value} {ty : TypeId} {d : TypeDesc} {s x : DV} {s' x' : Value}
  (ht : P.underlying t = some (.slice e)) (hu : P.underlying u = some d) (hd : ∀ k, d ≠ .int k) (hi : P.info? e = some i) (hz : i.zero = some z) (h0 : 0 < i.size) (hb0 : 0 < i.bytes) (hzs : z.cells.size = i.size)
  (hs : VR ρ s s') (hx : VR ρ x x') (hp : aW i.size i.bytes s x h = some (v, h1)) :
  SemOk P G ρ w v h1 (Builtin.append_ #[t, u] ty #[s', x']) := by
 unfold aW at hp
 split at hp <;> (try (cases hp; done))
 rename_i n new hsrc
 obtain ⟨new', n1, n2, n3, n4, n5⟩ := dPo (P := P) H h0 hx hsrc
 have hnew : ∀ (base : Option Addr) (sLen sCap : Nat) (old : List DV) (old' : List Value) (hx : Hp) (Hx : HR G ρ hx w), hx.next = h.next → VRs ρ old old' → old.length = sLen * i.size → (∀ u ∈ old, u.one = true) →
   (Builtin.firstCells i.size sLen (.slice base sLen sCap)).run P w.drew = .ok old'.toArray w.drew → ¬ sLen + n ≤ sCap → (sLen + n) * i.bytes ≤ tF →
   v = .l h.next 0 (sLen + n) (sLen + n) → h1 = ⟨h.next.succ, Tr.set (.row (.gr i.size) (old ++ new)) h.next hx.bl⟩ → SemOk P G ρ w v h1 (Builtin.append_ #[t, u] ty #[.slice base sLen sCap, x']) := by
  intro base sLen sCap old old' hx Hx hnx o1 o2 o3 o4 hgt hroom hv hh
  subst hv hh
  obtain ⟨newCap, c1, c2⟩ := tL (P := P) (w := w) (ty := ty) ht hu hd hi hz n4 o4 (n5 w.drew rfl).2 hgt hb0 hroom
  have hrow := Hx.drew.newRow (.gr i.size) (old ++ new) (old' ++ new') (old'.toArray ++ new'.toArray ++ Builtin.zeroCells z.cells (newCap - (sLen + n))) e (newCap - (sLen + n)) (o1.append n1)
   (fun j y hj => by
    have hlt : j < (old' ++ new').length := by
     rcases Nat.lt_or_ge j (old' ++ new').length with h | h
     ·exact h
     ·rw [List.getElem?_eq_none h] at hj; cases hj
    rw [Array.getElem?_append_left (by simpa using hlt)]
    simpa using hj)
   (.inr ⟨i.size, rfl, by simp [Builtin.zeroCells, hzs], fun y hy => by
    simp at hy
    rcases hy with hy | hy
    ·exact o3 y hy
    ·exact n3 y hy⟩)
  rw [hnx] at hrow
  refine ⟨_, _, _, c2, ?_, ?_, hrow, ?_⟩
  ·have := Hx.exx ⟨w.heap.size, 0, newCap - (sLen + n), none⟩
   rwa [hnx] at this
  ·have hvr : VR (mH ρ h.next ⟨w.heap.size, 0, newCap - (sLen + n), none⟩) (.l h.next 0 (sLen + n) (sLen + n)) (.slice (some (fN ⟨w.heap.size, 0, newCap - (sLen + n), none⟩ 0)) (sLen + n) (sLen + n + (newCap - (sLen + n)))) := .l _ _ _ _ _ (cB _ _ _)
   rw [show sLen + n + (newCap - (sLen + n)) = newCap from by omega] at hvr
   exact hvr
  ·exact (Kp.refl G w).drew.trans (dV (by simpa using H.sz) _)
 split at hp <;> (try (cases hp; done))
 ·cases hs
  split at hp
  ·rename_i hn0
   subst hn0
   simp only [bD, bM] at hp
   obtain ⟨rfl, rfl⟩ := hp
   refine SemOk.pure H .l0 ?_
   rw [fG ht hu hd hi n4 (n5 w rfl).2 (by omega)]
   simp
  ·rename_i hn0
   split at hp <;> (try (cases hp; done))
   rename_i hroom
   simp only [bD, bM] at hp
   obtain ⟨rfl, rfl⟩ := hp
   exact hnew none 0 0 [] [] h H rfl .nil (by simp) (by simp) (by simp [Builtin.firstCells]) (by omega) (by simpa using hroom) (by simp) (by simp)
 ·split at hp <;> (try (cases hp; done))
  rename_i hn0
  subst hn0
  simp only [bD, bM] at hp
  obtain ⟨rfl, rfl⟩ := hp
  cases hs with
  | le a c =>
   have hnew0 : new = [] := List.eq_nil_of_length_eq_zero (by rw [n2]; simp)
   subst hnew0
   cases n1
   refine SemOk.pure H (.le a c) ?_
   rw [fG ht hu hd hi n4 (n5 w rfl).2 (by omega)]
   simp [storeCells]
 ·rename_i b o len cap
  cases hs with
  | l _ _ _ _ L hL =>
   split at hp
   ·rename_i hle
    split at hp <;> (try (cases hp; done))
    rename_i h' hst
    simp only [bD, bM] at hp
    obtain ⟨rfl, rfl⟩ := hp
    obtain ⟨w', s1, s2, s3⟩ := jQ (P := P) H hst hL n1
    refine ⟨ρ, w', _, ?_, Ex.refl G ρ, .l b o _ _ L hL, s2, s3⟩
    rw [fG ht hu hd hi n4 (n5 w rfl).2 (by omega)]
    simp only [gH]
    rw [s1]
    simp
   ·rename_i hgt
    split at hp <;> (try (cases hp; done))
    rename_i k l old hb hold
    split at hp <;> (try (cases hp; done))
    rename_i hroom
    obtain ⟨o1, o2, ⟨k0, l0, hb0', o3, o4⟩, old', o5, o6, o7⟩ := fA H hold hL
    rw [hb] at hb0'
    simp only [bD, Ob.row.injEq] at hb0'
    obtain ⟨rfl, rfl⟩ := hb0'
    have hfo : (Builtin.firstCells i.size len (.slice (some (fN L o)) len (cap + L.sp))).run P w.drew = .ok old'.toArray w.drew := by
     have := dG (P := P) (w := w.drew) (a := fN L o) old' rfl (fun j y hj => by simpa using o7 j y hj)
     rw [o6] at this
     simpa [Builtin.firstCells] using this
    split at hp <;> (try (cases hp; done))
    ·simp only [bD, bM] at hp
     have hsp := H.ex b l L (.inl hb) hL
     exact hnew _ _ _ old old' h H rfl o5 o1 o2 hfo (by omega) hroom hp.1.symm hp.2.symm
    ·simp only [bD, bM] at hp
     have hsp := H.ex b l L (.inr hb) hL
     exact hnew _ _ _ old old' h H rfl o5 o1 o2 hfo (by omega) hroom hp.1.symm hp.2.symm
    ·rename_i es
     split at hp <;> (try (cases hp; done))
     rename_i hes
     obtain ⟨rfl, hend⟩ := hes
     simp only [bD, bM] at hp
     by_cases hin : len + n ≤ cap + L.sp
     ·obtain ⟨rfl, rfl⟩ := hp
      have hroB : ¬ isRo h b := by rintro ⟨l0, h0⟩; rw [hb] at h0; simp at h0
      have hlenle : len ≤ cap := by
       simp only [List.length_drop] at o4
       have : len * i.size ≤ cap * i.size := by omega
       exact Nat.le_of_mul_le_mul_right this h0
      have e1 : len * i.size ≤ cap * i.size := Nat.mul_le_mul_right _ hlenle
      have e2 : (len + n) * i.size = len * i.size + n * i.size := Nat.add_mul _ _ _
      have e3 : (cap + L.sp) * i.size = cap * i.size + L.sp * i.size := Nat.add_mul _ _ _
      have e4 : (len + n) * i.size ≤ (cap + L.sp) * i.size := Nat.mul_le_mul_right _ hin
      have e6 : 1 * i.size ≤ (cap + L.sp) * i.size := Nat.mul_le_mul_right _ (by omega)
      have hn' := n1.length
      have hOC : ∀ j, j < l.length + L.sp * i.size → Claims ρ h b (fN L j) := by
       intro j hj
       by_cases hlt : j < l.length
       ·exact ⟨_, l, L, hb, hL, .inl ⟨j, l[j], by simp [hlt], H.grone b i.size l j _ hb (by simp [hlt]), rfl⟩⟩
       ·exact ⟨_, l, L, hb, hL, .inr ⟨i.size, j - l.length, rfl, by omega, by rw [show l.length + (j - l.length) = j from by omega]⟩⟩
      obtain ⟨w', s1, s2⟩ := jY (P := P) (L := L) new' (o + len * i.size) 0 w (fun j hj => by
       have hc := hOC (o + len * i.size + 0 + j) (by omega)
       exact ⟨H.lt_cell hc, (H.free b _ hc hroB).1⟩) (n1.mem_one n3)
      rw [Nat.add_zero] at s2
      have hBL : Own G L.bl := by
       have hc := hOC o (by omega)
       simpa [fN] using (H.free b _ hc hroB).2
      refine ⟨_, w', .slice (some (fN L o)) (len + n) (cap + L.sp), ?_, H.exx _, ?_, H.regrow hb hL h0 hend hlenle (by omega) hin o3 n2 n3 n1 s2, s2.below hBL⟩
      ·rw [fG ht hu hd hi n4 (n5 w rfl).2 hin]
       simp only [gH]
       rw [s1]
       simp
      ·have hvr : VR (mH ρ h.next ⟨L.bl, L.of + o, cap + L.sp - (len + n), if o = 0 then L.spot else none⟩) (.l h.next 0 (len + n) (len + n)) (.slice (some (fN ⟨L.bl, L.of + o, cap + L.sp - (len + n), if o = 0 then L.spot else none⟩ 0)) (len + n) (len + n + (cap + L.sp - (len + n)))) := .l _ _ _ _ _ (cB _ _ _)
       rw [show len + n + (cap + L.sp - (len + n)) = cap + L.sp from by omega] at hvr
       exact hvr
     ·exact hnew _ _ _ old old' _ (H.kill (o := o) hb) rfl o5 o1 o2 hfo hin hroom hp.1.symm hp.2.symm
 ·rename_i b o len cap
  cases hs with
  | lx _ _ _ _ L hL =>
   split at hp
   ·rename_i hn0
    subst hn0
    split at hp <;> (try (cases hp; done))
    rename_i hle
    simp only [bD, bM] at hp
    obtain ⟨rfl, rfl⟩ := hp
    have hnew0 : new = [] := List.eq_nil_of_length_eq_zero (by rw [n2]; simp)
    subst hnew0
    cases n1
    refine SemOk.pure H (.lx b o len cap L hL) ?_
    rw [fG ht hu hd hi n4 (n5 w rfl).2 (by omega)]
    simp [storeCells]
   ·split at hp <;> (try (cases hp; done))
    rename_i hgt
    split at hp <;> (try (cases hp; done))
    rename_i old hold
    split at hp <;> (try (cases hp; done))
    rename_i hroom
    simp only [bD, bM] at hp
    obtain ⟨o1, o2, _, old', o5, o6, o7⟩ := fA H hold hL
    have hfo : (Builtin.firstCells i.size len (.slice (some (fN L o)) len cap)).run P w.drew = .ok old'.toArray w.drew := by
     have := dG (P := P) (w := w.drew) (a := fN L o) old' rfl (fun j y hj => by simpa using o7 j y hj)
     rw [o6] at this
     simpa [Builtin.firstCells] using this
    exact hnew _ _ _ old old' h H rfl o5 o1 o2 hfo hgt hroom hp.1.symm hp.2.symm
theorem cMr (H : HR G ρ h w) {t : TypeId} {x : DV} {x' : Value} (ht : P.underlying t = some .string) (hx : VR ρ x x') (hp : pO x h = some (v, h1)) : SemOk P G ρ w v h1 (Instr.range t x') := by
 unfold pO at hp
 split at hp <;> (try (cases hp; done))
 simp only [bD, bM] at hp
 obtain ⟨rfl, rfl⟩ := hp
 cases hx with
 | s l bs hb =>
  refine ⟨_, w.alloc (.stringIter bs 0), .pointer (some ⟨w.heap.size, 0, none⟩), ?_, H.exx _, .p _ 0 ⟨w.heap.size, 0, 0, none⟩ (cB _ _ _), H.newIter _ bs hb, dV H.sz _⟩
  simp only [Instr.range, Sem.run_bind, rU ht, Result.andThen_ok, Sem.run_pure, run_newObj]
  rfl
theorem cVe (H : HR G ρ h w) {ty : TypeId} {x : DV} {x' : Value} (hx : VR ρ x x') (hp : xH x h = some (v, h1)) : SemOk P G ρ w v h1 (Instr.next x' true ty) := by
 unfold xH at hp
 split at hp <;> (try (cases hp; done))
 rename_i b
 split at hp <;> (try (cases hp; done))
 rename_i l pos hb
 cases hx with
 | p _ _ L hL =>
  obtain ⟨i1, i2, _, i3, bs, rfl, i4⟩ := H.itr b (.it l pos) L rfl hb hL
  have ha : fN L 0 = ⟨L.bl, 0, none⟩ := by simp [fN, i2]
  have hlen : l.length = bs.size := by rw [← i4, List.length_map, Array.length_toList]; rfl
  have hget : (getObj L.bl).run P w = .ok (.stringIter bs pos) w := by simp [getObj, Sem.run, i3]
  rw [ha]
  split at hp
  ·rename_i c hc
   split at hp <;> (try (cases hp; done))
   rename_i hc128
   simp only [bD, bM] at hp
   obtain ⟨rfl, rfl⟩ := hp
   have hlt : pos < bs.size := by
    rcases Nat.lt_or_ge pos l.length with h | h
    ·omega
    ·rw [List.getElem?_eq_none h] at hc; cases hc
   have hcb : c = (bs[pos]'hlt).toNat := by
    rw [← i4, List.getElem?_map, Array.getElem?_toList] at hc
    have hg : bs.data[pos]? = some (bs[pos]'hlt) := Array.getElem?_eq_some_iff.2 ⟨hlt, rfl⟩
    rw [hg] at hc
    simpa using hc.symm
   have hdec := decode_ascii bs pos hlt (by omega)
   obtain ⟨s1, s2⟩ := H.setSg (ob := .it l pos) (ob1 := .it l (pos + 1)) (xo1 := .stringIter bs (pos + 1)) rfl rfl hb hL i3 trivial ⟨bs, rfl, i4⟩
   refine ⟨ρ, _, .tuple #[.bool true, goInt pos, .int .i32 c], ?_, Ex.refl G ρ, ?_, s1, s2⟩
   ·simp only [Instr.next, Sem.run_bind, hget, Result.andThen_ok]
    simp only [hlt, if_true, hdec, Sem.run_bind, Sem.run_pure]
    have hset : (setObj L.bl (.stringIter bs (pos + 1))).run P w = .ok () { w with heap := w.heap.setIfInBounds L.bl (.stringIter bs (pos + 1)) } := by simp [setObj, Sem.run, i3]
    rw [hset, hcb]
    rfl
   ·exact .t _ _ (.cons _ _ _ _ (.b _) (.cons _ _ _ _ (.i _ _) (.cons _ _ _ _ (.i _ _) .nil)))
  ·rename_i hc
   simp only [bD, bM] at hp
   obtain ⟨rfl, rfl⟩ := hp
   have hge : ¬ pos < bs.size := by
    intro hlt
    rw [List.getElem?_eq_none_iff] at hc
    omega
   refine SemOk.pure H (.t [.b false] #[.bool false] (.cons _ _ _ _ (.b _) .nil)) ?_
   simp only [Instr.next, Sem.run_bind, hget, Result.andThen_ok]
   simp [hge]
end
end Go.Dd

namespace Go.Dd
open Go.RowKit (Below)
section
variable {P : Program} {G : Gd} {ρ : cN} {w : World} {h h1 : Hp} {v : DV}
theorem uN {d : TypeDesc} {x y : DV} {x' y' : Value} {r : Bool} (hx : VR ρ x x') (hy : VR ρ y y') (h : yV d x y = some r) :
  Instr.sameNow d x' y' = some r ∧ (r = true → Instr.sameBits 10000 y' x' = true) := by
 unfold yV at h
 split at h <;> (try (cases h; done))
 ·cases hx; cases hy
  split at h <;> (try (cases h; done))
  rename_i hk
  subst hk
  simp only [bD] at h
  subst h
  refine ⟨by simp [Instr.sameNow], fun h => ?_⟩
  simp only [beq_iff_eq] at h
  subst h
  rw [show (10000 : Nat) = 9999 + 1 from rfl]
  simp [Instr.sameBits]
 ·rename_i a b
  cases hx with
  | s _ a' ha =>
  cases hy with
  | s _ b' hb =>
  simp only [bD] at h
  have ea : a'.toList = a'.data.toList := ByteArray.toList_eq a'
  have eb : b'.toList = b'.data.toList := ByteArray.toList_eq b'
  have e1 : eqD a b = (a'.data.toList == b'.data.toList) := by rw [← ha, ← hb, aIl]
  have e2 : (a'.data.toList == b'.data.toList) = (a' == b') := by
   rw [Bool.eq_iff_iff, MapKept.bytes_beq]
   simp only [beq_iff_eq]
   constructor
   ·intro h
    cases a'; cases b'
    simp only [ByteArray.mk.injEq]
    exact Array.toList_inj.1 h
   ·intro h; rw [h]
  refine ⟨by simp [Instr.sameNow, ← h, e1, e2], fun hr => ?_⟩
  rw [← h, e1, e2, MapKept.bytes_beq] at hr
  subst hr
  rw [show (10000 : Nat) = 9999 + 1 from rfl]
  simp [Instr.sameBits, MapKept.bytes_beq]
theorem qA {d : TypeDesc} {k : DV} {k' : Value} (hk : VR ρ k k') (nv : DV) : ∀ (es : List (DV × DV)) (l : List MapEntry) (i0 : Nat) (r : Option DV),
  VRs ρ (es.map (·.1)) (l.map (·.key)) → VRs ρ (es.map (·.2)) (l.map (·.val)) → iJ d k es = some r →
  (r = none ∧ Instr.findNow d k' l i0 = some none ∧ rP d k nv es = es ++ [(k, nv)]) ∨
  (∃ v j v' e, r = some v ∧ Instr.findNow d k' l i0 = some (some (i0 + j, v')) ∧ VR ρ v v' ∧ l[j]? = some e ∧ Instr.sameBits 10000 e.key k' = true ∧ rP d k nv es = es.set j (k, nv))
 | [], [], i0, r, _, _, h => by
  simp only [iJ, bD] at h
  exact .inl ⟨h.symm, rfl, rfl⟩
 | [], _ :: _, _, _, h, _, _ => by cases h
 | _ :: _, [], _, _, h, _, _ => by cases h
 | e :: es, m :: l, i0, r, h1, h2, h => by
  simp only [List.map_cons] at h1 h2
  cases h1 with
  | cons _ _ _ _ hk1 hs1 =>
  cases h2 with
  | cons _ _ _ _ hv1 hs2 =>
  simp only [iJ] at h
  split at h
  ·rename_i hkd
   simp only [bD] at h
   obtain ⟨a1, a2⟩ := uN hk hk1 hkd
   refine .inr ⟨e.2, 0, m.val, m, h.symm, ?_, hv1, rfl, a2 rfl, ?_⟩
   ·simp [Instr.findNow, a1]
   ·simp [rP, hkd]
  ·rename_i hkd
   obtain ⟨a1, a2⟩ := uN hk hk1 hkd
   rcases qA hk nv es l (i0 + 1) r hs1 hs2 h with ⟨b1, b2, b3⟩ | ⟨v, j, v', e', b1, b2, b3, b4, b5, b6⟩
   ·exact .inl ⟨b1, by simp [Instr.findNow, a1, b2], by simp [rP, hkd, b3]⟩
   ·exact .inr ⟨v, j + 1, v', e', b1, by simp [Instr.findNow, a1, b2]; omega, b3, by simpa using b4, b5, by simp [rP, hkd, b6]⟩
  ·cases h
theorem gS {kt : TypeId} {d : TypeDesc} {k' : Value} {em : Bool} (ht : P.underlying kt = some d) (hd : jU d = true) : (Instr.checkKey em 10000 kt k').run P w = .ok () w := by
 rw [show (10000 : Nat) = 9999 + 1 from rfl]
 unfold Instr.checkKey
 simp only [Sem.run_bind, rU ht, Result.andThen_ok]
 cases d <;> simp [jU] at hd <;> simp
theorem aWd (H : HR G ρ h w) {x : DV} {x' : Value} {es : List (DV × DV)} (hx : VR ρ x x') (he : jS x h = some es) :
  ∃ l : List MapEntry, VRs ρ (es.map (·.1)) (l.map (·.key)) ∧ VRs ρ (es.map (·.2)) (l.map (·.val)) ∧
   ((x' = .map none ∧ l = []) ∨ (∃ r arr clock, x' = .map (some r) ∧ arr.toList = l ∧ w.heap[r]? = some (.map arr clock))) := by
 unfold jS at he
 split at he <;> (try (cases he; done))
 ·simp only [bD] at he
  subst he
  cases hx
  exact ⟨[], .nil, .nil, .inl ⟨rfl, rfl⟩⟩
 ·split at he <;> (try (cases he; done))
  rename_i b _ es' hb
  simp only [bD] at he
  subst he
  cases hx with
  | m _ L hL =>
   obtain ⟨_, _, xo, h3, arr, cl, rfl, h4, h5, _⟩ := H.itr b _ L rfl hb hL
   exact ⟨arr.toList, h4, h5, .inr ⟨_, _, _, rfl, rfl, h3⟩⟩
theorem bNn (H : HR G ρ h w) {t kt et : TypeId} {d : TypeDesc} {i : TypeInfo} {z : Value} {ok : Bool} {x k : DV} {x' k' : Value} (ht : P.underlying t = some (.map kt et))
  (hd : P.underlying kt = some d) (hi : P.info? et = some i) (hz : i.zero = some z) (hkt : jU d = true) (hx : VR ρ x x') (hk : VR ρ k k') (hp : gG d (zvD z) ok x k h = some (v, h1)) :
  SemOk P G ρ w v h1 (Instr.lookup t x' k' ok) := by
 unfold gG at hp
 split at hp <;> (try (cases hp; done))
 rename_i es he
 obtain ⟨l, l1, l2, l3⟩ := aWd H hx he
 have hrun : ∀ (r : Option (Nat × Value)) (v' : Value) (b : Bool), Instr.findNow d k' l 0 = some r → (match r with
   | some (_, v) => v' = v ∧ b = true
   | none => v' = z ∧ b = false) → (Instr.lookup t x' k' ok).run P w = .ok (if ok then .tuple #[v', .bool b] else v') w := by
  intro r v' b hr hv
  have hf : ∀ es : List MapEntry, es = l → (Instr.findKey kt k' es).run P w = .ok r w := by
   intro es hes
   simp only [Instr.findKey, Sem.run_bind, rU hd, Result.andThen_ok, hes, hr, Sem.run_pure]
  rcases l3 with ⟨rfl, rfl⟩ | ⟨r0, arr, cl, rfl, h2, h3⟩
  ·simp only [Instr.lookup, Sem.run_bind, rU ht, Result.andThen_ok, Sem.run_pure, gS hd hkt, hf _ rfl]
   cases r with
   | none => obtain ⟨rfl, rfl⟩ := hv; simp [rZ hi hz]
   | some p => obtain ⟨rfl, rfl⟩ := hv; simp
  ·have hg : (getObj r0).run P w = .ok (.map arr cl) w := by simp [getObj, Sem.run, h3]
   simp only [Instr.lookup, Sem.run_bind, rU ht, Result.andThen_ok, Sem.run_pure, hg, gS hd hkt, hf _ h2]
   cases r with
   | none => obtain ⟨rfl, rfl⟩ := hv; simp [rZ hi hz]
   | some p => obtain ⟨rfl, rfl⟩ := hv; simp
 have hvr : ∀ (u : DV) (u' : Value) (b : Bool), VR ρ u u' → VR ρ (bif ok then .t [u, .b b] else u) (if ok then .tuple #[u', .bool b] else u') := by
  intro u u' b hu
  cases ok
  ·exact hu
  ·exact .t _ _ (.cons _ _ _ _ hu (.cons _ _ _ _ (.b b) .nil))
 split at hp <;> (try (cases hp; done))
 ·rename_i u hf
  simp only [bD, bM] at hp
  obtain ⟨rfl, rfl⟩ := hp
  rcases qA hk .u es l 0 _ l1 l2 hf with ⟨b1, _⟩ | ⟨v, j, v', e', b1, b2, b3, _⟩
  ·cases b1
  ·simp only [bD] at b1
   subst b1
   exact SemOk.pure H (hvr _ _ true b3) (hrun _ v' true b2 ⟨rfl, rfl⟩)
 ·rename_i hf
  simp only [bD, bM] at hp
  obtain ⟨rfl, rfl⟩ := hp
  rcases qA hk .u es l 0 _ l1 l2 hf with ⟨b1, b2, _⟩ | ⟨v, j, v', e', b1, b2, b3, _⟩
  ·exact SemOk.pure H (hvr _ _ false (eOa ρ z)) (hrun _ z false b2 ⟨rfl, rfl⟩)
  ·cases b1
theorem VRs.set {ρ : cN} : ∀ {x : List DV} {x' : List Value} (j : Nat) {u : DV} {u' : Value}, VRs ρ x x' → VR ρ u u' → VRs ρ (x.set j u) (x'.set j u')
 | _, _, _, _, _, .nil, _ => .nil
 | _, _, 0, _, _, .cons x x' l l' h hs, hu => .cons _ _ _ _ hu hs
 | _, _, j + 1, _, _, .cons x x' l l' h hs, hu => .cons _ _ _ _ h (VRs.set j hs hu)
theorem lC {α β : Type} (f : α → β) (l : List α) (j : Nat) (x : α) : (l.set j x).map f = (l.map f).set j (f x) := by
 simp [List.map_set]
theorem mL {arr : Array MapEntry} {j : Nat} {f : MapEntry → MapEntry} (hf : ∀ e, (f e).born = e.born) (h : ∀ (i : Nat) (e : MapEntry), arr[i]? = some e → e.born = i) : ∀ (i : Nat) (e : MapEntry), (arr.modify j f)[i]? = some e → e.born = i := by
 intro i e he
 rw [Array.getElem?_modify] at he
 split at he
 ·cases hg : arr[i]? with
  | none => rw [hg] at he; cases he
  | some e0 => rw [hg] at he; simp at he; rw [← he, hf]; exact h i e0 hg
 ·exact h i e he
theorem aBq {arr : Array MapEntry} {x : MapEntry} (hx : x.born = arr.size) (h : ∀ (i : Nat) (e : MapEntry), arr[i]? = some e → e.born = i) : ∀ (i : Nat) (e : MapEntry), (arr.push x)[i]? = some e → e.born = i := by
 intro i e he
 rw [Array.getElem?_push] at he
 split at he
 ·rename_i hi
  simp only [bD] at he
  rw [← he, hx, hi]
 ·exact h i e he
theorem xM {α : Type} {x : α} : ∀ {l : List α} {j : Nat}, l[j]? = some x → l.set j x = l
 | [], _, h => by simp at h
 | y :: l, 0, h => by simp at h; subst h; rfl
 | y :: l, j + 1, h => by simp at h; simp [xM h]
theorem aVa (H : HR G ρ h w) {t : TypeId} (hp : dX h = some (v, h1)) : SemOk P G ρ w v h1 (Instr.makeMap t none) := by
 simp only [dX, bD, bM] at hp
 obtain ⟨rfl, rfl⟩ := hp
 refine ⟨_, w.alloc (.map #[] 0), .map (some w.heap.size), ?_, H.exx _, .m _ ⟨w.heap.size, 0, 0, none⟩ (cB _ _ _), H.newSg _ rfl _ ⟨#[], 0, rfl, .nil, .nil, rfl, by simp⟩, dV H.sz _⟩
 simp only [Instr.makeMap, Sem.run_bind, Sem.run_pure, Result.andThen_ok, run_newObj]
 rfl
theorem bMa (H : HR G ρ h w) {t kt et : TypeId} {d : TypeDesc} {x k u : DV} {x' k' u' : Value} (ht : P.underlying t = some (.map kt et))
  (hd : P.underlying kt = some d) (hkt : jU d = true) (hx : VR ρ x x') (hk : VR ρ k k') (hu : VR ρ u u') (hp : gI d x k u h = some (v, h1)) :
  ∃ w', (Instr.mapUpdate t x' k' u').run P w = .ok () w' ∧ HR G ρ h1 w' ∧ Kp G w w' ∧ v = aY := by
 unfold gI at hp
 split at hp <;> (try (cases hp; done))
 rename_i b
 split at hp <;> (try (cases hp; done))
 rename_i es hb
 split at hp <;> (try (cases hp; done))
 rename_i r hf
 simp only [bD, bM] at hp
 obtain ⟨rfl, rfl⟩ := hp
 cases hx with
 | m _ L hL =>
  obtain ⟨o1, o2, xo, h3, arr, cl, rfl, h4, h5, h6, h7⟩ := H.itr b _ L rfl hb hL
  have hg : (getObj L.bl).run P w = .ok (.map arr cl) w := by simp [getObj, Sem.run, h3]
  have hset : ∀ xo1, (setObj L.bl xo1).run P w = .ok () { w with heap := w.heap.setIfInBounds L.bl xo1 } := by intro xo1; simp [setObj, Sem.run, h3]
  have hlen : es.length = arr.toList.length := by have := h4.length; simpa using this
  rcases qA hk u es arr.toList 0 r h4 h5 hf with ⟨b1, b2, b3⟩ | ⟨v0, j, v', e', b1, b2, b3, b4, b5, b6⟩
  ·obtain ⟨s1, s2⟩ := H.setSg (ob := .mp es) (ob1 := .mp (rP d k u es)) (xo1 := .map (arr.push { key := k', val := u', born := cl }) (cl + 1)) rfl rfl hb hL h3 trivial
    ⟨_, _, rfl, by rw [b3]; simpa using h4.append (.cons _ _ _ _ hk .nil), by rw [b3]; simpa using h5.append (.cons _ _ _ _ hu .nil), by simp [h6], aBq h6 h7⟩
   refine ⟨_, ?_, s1, s2, rfl⟩
   have hfk : (Instr.findKey kt k' arr.toList).run P w = .ok none w := by
    simp only [Instr.findKey, Sem.run_bind, rU hd, Result.andThen_ok, b2, Sem.run_pure]
   simp only [Instr.mapUpdate, Sem.run_bind, rU ht, Result.andThen_ok, hg, gS hd hkt, hfk, hset]
  ·obtain ⟨s1, s2⟩ := H.setSg (ob := .mp es) (ob1 := .mp (rP d k u es)) (xo1 := .map (arr.modify j fun e => { e with key := k', val := u' }) cl) rfl rfl hb hL h3 trivial
    ⟨_, _, rfl, by
     rw [b6, lC]
     have e : (arr.modify j fun e => { e with key := k', val := u' }).toList.map (·.key) = (arr.toList.map (·.key)).set j k' := by
      simp [Array.toList_modify, List.modify_eq_set, b4]
     rw [e]; exact h4.set j hk, by
     rw [b6, lC]
     have e : (arr.modify j fun e => { e with key := k', val := u' }).toList.map (·.val) = (arr.toList.map (·.val)).set j u' := by
      simp [Array.toList_modify, List.modify_eq_set, b4]
     rw [e]; exact h5.set j hu, by simpa using h6, mL (fun _ => rfl) h7⟩
   refine ⟨_, ?_, s1, s2, rfl⟩
   rw [Nat.zero_add] at b2
   have hfk : (Instr.findKey kt k' arr.toList).run P w = .ok (some (j, v')) w := by
    simp only [Instr.findKey, Sem.run_bind, rU hd, Result.andThen_ok, b2, Sem.run_pure]
   have hkey : ((arr[j]?).map (·.key)).getD k' = e'.key := by
    rw [← Array.getElem?_toList, b4]; rfl
   simp only [Instr.mapUpdate, Sem.run_bind, rU ht, Result.andThen_ok, hg, gS hd hkt, hfk, hkey, Instr.keyThatStays, b5, if_true, Sem.run_pure, hset]
theorem aJv (H : HR G ρ h w) {t e : TypeId} {i : TypeInfo} {z : Value} {n c : DV} {n' c' : Value} (ht : P.underlying t = some (.slice e)) (hi : P.info? e = some i) (hz : i.zero = some z)
  (h0 : 0 < i.size) (hzs : z.cells.size = i.size) (hn : VR ρ n n') (hc : VR ρ c c') (hp : cJ i.size i.bytes (xZ z) n c h = some (v, h1)) :
  SemOk P G ρ w v h1 (Instr.makeSlice t n' c') := by
 unfold cJ at hp
 split at hp <;> (try (cases hp; done))
 rename_i n c
 split at hp <;> (try (cases hp; done))
 rename_i hb
 obtain ⟨b1, b2, b3, b4, b5⟩ := hb
 simp only [bD, bM] at hp
 obtain ⟨rfl, rfl⟩ := hp
 cases hn
 cases hc
 have hw : ∀ m : Int, 0 ≤ m → m < 2 ^ 32 → IntKind.i64.wrap m = m := by
  intro m h1 h2
  simp [IntKind.wrap, IntKind.signed, IntKind.bits, Int.bmod]
  omega
 have hwc := hw c (by omega) b5
 have hwn := hw n b1 (by omega)
 obtain ⟨m, rfl⟩ := Int.eq_ofNat_of_zero_le (show 0 ≤ c by omega)
 obtain ⟨k, rfl⟩ := Int.eq_ofNat_of_zero_le b1
 simp only [Int.toNat_natCast] at b3 b4 ⊢
 have hbig : ∀ j : Nat, j ≤ m → ((decide ((j : Int) < 0) || decide ((i.bytes : Int) * j > 2 ^ 48)) = false) := by
  intro j hj
  have h1 : j * i.bytes ≤ m * i.bytes := Nat.mul_le_mul_right _ hj
  have h2 : ((i.bytes : Int) * j) = ((j * i.bytes : Nat) : Int) := by rw [Nat.mul_comm]; simp
  rw [h2]
  simp
  omega
 have hroom : ¬ (m * i.bytes > roomBytes) := by unfold roomBytes; omega
 obtain ⟨out', hout, hcells⟩ : ∃ out' : Array Value, out' = (Array.range (m * i.size)).map ((if m * i.size = 0 then (#[] : Array Value) else z.cells)[· % (if m * i.size = 0 then (#[] : Array Value) else z.cells).size]!) ∧
   VRs ρ (List.replicate m (xZ z)).flatten out'.toList := by
  refine ⟨_, rfl, ?_⟩
  by_cases h : m * i.size = 0
  ·have : m = 0 := by rcases Nat.mul_eq_zero.1 h with e | e <;> omega
   subst this
   simp
   exact .nil
  ·rw [if_neg h, ← hzs, pU z.cells m (by omega)]
   exact eMy (eNv ρ z) m
 have hrow := H.newRow .ex (List.replicate m (xZ z)).flatten out'.toList out' e 0 hcells (fun j u hj => by simpa using hj) (.inl ⟨rfl, rfl⟩)
 refine ⟨_, w.alloc (.cells out' e), .slice (some ⟨w.heap.size, 0, none⟩) k m, ?_, H.exx _, .l _ 0 k m ⟨w.heap.size, 0, 0, none⟩ (cB _ _ _), hrow, dV H.sz _⟩
 have ha : ∀ (q : Nat), (asInt (.int .i64 (q : Int))).run P w = .ok (q : Int) w := by intro q; simp [asInt, asIntOf]
 have hkm : ¬ ((k : Int) < 0) := by omega
 have hkm2 : ¬ ((k : Int) > (m : Int)) := by omega
 simp only [Instr.makeSlice, Sem.run_bind, rU ht, rI hi, Result.andThen_ok, ha, hwc, hwn]
 have hb1 := hbig m (Nat.le_refl _)
 simp only [hb1, Bool.false_or, hkm, hkm2, decide_false, Bool.or_self, Bool.false_eq_true, if_false]
 simp only [Int.toNat_natCast, askRoom, hroom, if_false, Sem.run_bind, Sem.run_pure, Result.andThen_ok, rS hi]
 by_cases h : m * i.size = 0
 ·simp only [h, if_true, Sem.run_pure, Result.andThen_ok] at hout ⊢
  simp only [Sem.run_bind, Sem.run_pure, Result.andThen_ok]
  rw [← hout]
  simp [newRow]
 ·simp only [h, if_false, Sem.run_bind, Sem.run_pure, Result.andThen_ok, rZ hi hz] at hout ⊢
  rw [← hout]
  simp [newRow]
theorem cHv (H : HR G ρ h w) {t e : TypeId} {i : TypeInfo} {z : Value} {ty : TypeId} {x : DV} {x' : Value}
  (ht : P.underlying t = some (.slice e)) (hi : P.info? e = some i) (hz : i.zero = some z) (h0 : 0 < z.cells.size)
  (hx : VR ρ x x') (hp : jZ (xZ z) x h = some (v, h1)) : SemOk P G ρ w v h1 (Builtin.clear_ #[t] ty #[x']) := by
 unfold jZ at hp
 split at hp <;> (try (cases hp; done))
 ·simp only [bD, bM] at hp
  obtain ⟨rfl, rfl⟩ := hp
  cases hx
  refine SemOk.pure H (.t [] #[] .nil) ?_
  simp only [Builtin.clear_, List.getElem?_toArray, List.getElem?_cons_zero, Sem.run_bind, rU ht, Result.andThen_ok]
  simp
 ·simp only [bD, bM] at hp
  obtain ⟨rfl, rfl⟩ := hp
  cases hx
  refine SemOk.pure H (.t [] #[] .nil) ?_
  simp only [Builtin.clear_, List.getElem?_toArray, List.getElem?_cons_zero, Sem.run_bind, rU ht, Result.andThen_ok]
  simp
 ·rename_i b o n cap
  split at hp
  ·rename_i hn
   subst hn
   simp only [bD, bM] at hp
   obtain ⟨rfl, rfl⟩ := hp
   cases hx
   refine SemOk.pure H (.t [] #[] .nil) ?_
   simp only [Builtin.clear_, List.getElem?_toArray, List.getElem?_cons_zero, Sem.run_bind, rU ht, Result.andThen_ok]
   simp
  ·rename_i hn
   split at hp <;> (try (cases hp; done))
   rename_i h' hst
   simp only [bD, bM] at hp
   obtain ⟨rfl, rfl⟩ := hp
   cases hx with
   | l _ _ _ _ L hL =>
    have hvs : VRs ρ (List.replicate n (xZ z)).flatten (Builtin.zeroCells z.cells n).toList := by
     unfold Builtin.zeroCells
     rw [pU z.cells n h0]
     exact eMy (eNv ρ z) n
    obtain ⟨w', s1, s2, s3⟩ := jQ (P := P) H hst hL hvs
    refine ⟨ρ, w', .tuple #[], ?_, Ex.refl G ρ, .t [] #[] .nil, s2, s3⟩
    obtain ⟨n, rfl⟩ : ∃ m, n = m + 1 := ⟨n - 1, by omega⟩
    simp only [Builtin.clear_, List.getElem?_toArray, List.getElem?_cons_zero, Sem.run_bind, rU ht, Result.andThen_ok, rZ hi hz, s1, Sem.run_pure]
theorem yQ {d : TypeDesc} {k : DV} {k' : Value} (hk : VR ρ k k') : ∀ (es : List (DV × DV)) (l : List MapEntry) (i0 : Nat) (r : Option (Nat × DV)),
  VRs ρ (es.map (·.1)) (l.map (·.key)) → VRs ρ (es.map (·.2)) (l.map (·.val)) → aOw d k es i0 = some r →
  (r = none ∧ Instr.findNow d k' l i0 = some none) ∨
  (∃ v j v' e, r = some (i0 + j, v) ∧ Instr.findNow d k' l i0 = some (some (i0 + j, v')) ∧ VR ρ v v' ∧ l[j]? = some e ∧ e.val = v' ∧ Instr.sameBits 10000 e.key k' = true)
 | [], [], i0, r, _, _, h => by
  simp only [aOw, bD] at h
  exact .inl ⟨h.symm, rfl⟩
 | [], _ :: _, _, _, h, _, _ => by cases h
 | _ :: _, [], _, _, h, _, _ => by cases h
 | e :: es, m :: l, i0, r, h1, h2, h => by
  simp only [List.map_cons] at h1 h2
  cases h1 with
  | cons _ _ _ _ hk1 hs1 =>
  cases h2 with
  | cons _ _ _ _ hv1 hs2 =>
  simp only [aOw] at h
  split at h
  ·rename_i hkd
   simp only [bD] at h
   obtain ⟨a1, a2⟩ := uN hk hk1 hkd
   exact .inr ⟨e.2, 0, m.val, m, by simpa using h.symm, by simp [Instr.findNow, a1], hv1, rfl, rfl, a2 rfl⟩
  ·rename_i hkd
   obtain ⟨a1, a2⟩ := uN hk hk1 hkd
   rcases yQ hk es l (i0 + 1) r hs1 hs2 h with ⟨b1, b2⟩ | ⟨v, j, v', e', b1, b2, b3, b4, b5, b6⟩
   ·exact .inl ⟨b1, by simp [Instr.findNow, a1, b2]⟩
   ·exact .inr ⟨v, j + 1, v', e', by rw [b1]; congr 2; omega, by simp [Instr.findNow, a1, b2]; omega, b3, by simpa using b4, b5, b6⟩
  ·cases h
theorem aPv (H : HR G ρ h w) {t kt et : TypeId} {d : TypeDesc} {i : TypeInfo} {z : Value} {x k : DV} {x' k' : Value} (ht : P.underlying t = some (.map kt et))
  (hd : P.underlying kt = some d) (hi : P.info? et = some i) (hz : i.zero = some z) (hkt : jU d = true) (hx : VR ρ x x') (hk : VR ρ k k') (hp : iM d (zvD z) x k h = some (v, h1)) :
  SemOk P G ρ w v h1 (Instr.mapEntry t x' k') := by
 unfold iM at hp
 split at hp <;> (try (cases hp; done))
 rename_i b
 split at hp <;> (try (cases hp; done))
 rename_i es hb
 cases hx with
 | m _ L hL =>
  obtain ⟨o1, o2, xo, h3, arr, cl, rfl, h4, h5, h6, h7⟩ := H.itr b _ L rfl hb hL
  have hg : (getObj L.bl).run P w = .ok (.map arr cl) w := by simp [getObj, Sem.run, h3]
  have hset : ∀ xo1, (setObj L.bl xo1).run P w = .ok () { w with heap := w.heap.setIfInBounds L.bl xo1 } := by intro xo1; simp [setObj, Sem.run, h3]
  have hlen : es.length = arr.size := by have := h4.length; simpa using this
  split at hp <;> (try (cases hp; done))
  ·rename_i j u hf
   simp only [bD, bM] at hp
   obtain ⟨rfl, rfl⟩ := hp
   rcases yQ hk es arr.toList 0 _ h4 h5 hf with ⟨b1, _⟩ | ⟨v0, j0, v', e', b1, b2, b3, b4, b5, b6⟩
   ·cases b1
   ·simp only [bD, bM, Nat.zero_add] at b1
    obtain ⟨rfl, rfl⟩ := b1
    rw [Nat.zero_add] at b2
    have b4' : arr[j]? = some e' := by rw [← Array.getElem?_toList]; exact b4
    obtain ⟨s1, s2⟩ := H.setSg (ob := .mp es) (ob1 := .mp (es.set j (k, u))) (xo1 := .map (arr.modify j fun e => { e with key := k' }) cl) rfl rfl hb hL h3 trivial
     ⟨_, _, rfl, by
      rw [lC]
      have e : (arr.modify j fun e => { e with key := k' }).toList.map (·.key) = (arr.toList.map (·.key)).set j k' := by
       simp [Array.toList_modify, List.modify_eq_set, b4]
      rw [e]; exact h4.set j hk, by
      rw [lC]
      have e : (arr.modify j fun e => { e with key := k' }).toList.map (·.val) = (arr.toList.map (·.val)).set j v' := by
       simp [Array.toList_modify, List.modify_eq_set, b4, b5]
      rw [e]; exact h5.set j b3, by simpa using h6, mL (fun _ => rfl) h7⟩
    refine ⟨ρ, _, .tuple #[v', goInt j], ?_, Ex.refl G ρ, .t _ _ (.cons _ _ _ _ b3 (.cons _ _ _ _ (.i _ _) .nil)), s1, s2⟩
    have hfk : (Instr.findKey kt k' arr.toList).run P w = .ok (some (j, v')) w := by
     simp only [Instr.findKey, Sem.run_bind, rU hd, Result.andThen_ok, b2, Sem.run_pure]
    have hkey : ((arr[j]?).map (·.key)).getD k' = e'.key := by rw [b4']; rfl
    have hborn : ((arr[j]?).map (fun x => (x.born : Int))).getD 0 = (j : Int) := by rw [b4']; show ((e'.born : Int)) = j; rw [h7 j e' b4']
    simp only [Instr.mapEntry, Sem.run_bind, rU ht, Result.andThen_ok, hg, gS hd hkt, hfk, hkey, hborn, Instr.keyThatStays, b6, if_true, Sem.run_pure, hset]
  ·rename_i hf
   simp only [bD, bM] at hp
   obtain ⟨rfl, rfl⟩ := hp
   rcases yQ hk es arr.toList 0 _ h4 h5 hf with ⟨b1, b2⟩ | ⟨v0, j0, v', e', b1, _⟩
   ·obtain ⟨s1, s2⟩ := H.setSg (ob := .mp es) (ob1 := .mp (es ++ [(k, zvD z)])) (xo1 := .map (arr.push { key := k', val := z, born := cl }) (cl + 1)) rfl rfl hb hL h3 trivial
     ⟨_, _, rfl, by simpa using h4.append (.cons _ _ _ _ hk .nil), by simpa using h5.append (.cons _ _ _ _ (eOa ρ z) .nil), by simp [h6], aBq h6 h7⟩
    refine ⟨ρ, _, .tuple #[z, goInt cl], ?_, Ex.refl G ρ, .t _ _ (.cons _ _ _ _ (eOa ρ z) (.cons _ _ _ _ (by rw [hlen, ← h6]; exact .i _ _) .nil)), s1, s2⟩
    have hfk : (Instr.findKey kt k' arr.toList).run P w = .ok none w := by
     simp only [Instr.findKey, Sem.run_bind, rU hd, Result.andThen_ok, b2, Sem.run_pure]
    simp only [Instr.mapEntry, Sem.run_bind, rU ht, Result.andThen_ok, hg, gS hd hkt, hfk, rZ hi hz, Sem.run_pure, hset]
   ·cases b1
theorem aAt (H : HR G ρ h w) {t : TypeId} {x s u : DV} {x' s' u' : Value} (hx : VR ρ x x') (hs : VR ρ s s') (hu : VR ρ u u') (hp : fR x s u h = some (v, h1)) :
  ∃ w', (Instr.entryStore t x' s' u').run P w = .ok () w' ∧ HR G ρ h1 w' ∧ Kp G w w' ∧ v = aY := by
 unfold fR at hp
 split at hp <;> (try (cases hp; done))
 rename_i b j
 split at hp <;> (try (cases hp; done))
 rename_i es hb
 split at hp <;> (try (cases hp; done))
 rename_i e hj
 simp only [bD, bM] at hp
 obtain ⟨rfl, rfl⟩ := hp
 cases hs
 cases hx with
 | m _ L hL =>
  obtain ⟨o1, o2, xo, h3, arr, cl, rfl, h4, h5, h6, h7⟩ := H.itr b _ L rfl hb hL
  have hg : (getObj L.bl).run P w = .ok (.map arr cl) w := by simp [getObj, Sem.run, h3]
  have hset : ∀ xo1, (setObj L.bl xo1).run P w = .ok () { w with heap := w.heap.setIfInBounds L.bl xo1 } := by intro xo1; simp [setObj, Sem.run, h3]
  have hlen : es.length = arr.size := by have := h4.length; simpa using this
  have hjl : j < es.length := by
   rcases Nat.lt_or_ge j es.length with h | h
   ·exact h
   ·rw [List.getElem?_eq_none h] at hj; cases hj
  have hja : arr[j]? = some (arr[j]'(by omega)) := Array.getElem?_eq_getElem (by omega)
  have hji : arr.toList[j]? = some (arr[j]'(by omega)) := by rw [Array.getElem?_toList]; exact hja
  obtain ⟨s1, s2⟩ := H.setSg (ob := .mp es) (ob1 := .mp (es.set j (e.1, u))) (xo1 := .map (arr.modify j fun e => { e with val := u' }) cl) rfl rfl hb hL h3 trivial
   ⟨_, _, rfl, by
    rw [lC]
    have e1 : (arr.modify j fun e => { e with val := u' }).toList.map (·.key) = arr.toList.map (·.key) := by
     simp [Array.toList_modify, List.modify_eq_set, hji]
     exact xM (by simp [hji])
    have e2 : (es.map (·.1)).set j e.1 = es.map (·.1) := xM (by simp [hj])
    rw [e1, e2]; exact h4, by
    rw [lC]
    have e : (arr.modify j fun e => { e with val := u' }).toList.map (·.val) = (arr.toList.map (·.val)).set j u' := by
     simp [Array.toList_modify, List.modify_eq_set, hji]
    rw [e]; exact h5.set j hu, by simpa using h6, mL (fun _ => rfl) h7⟩
  refine ⟨_, ?_, s1, s2, rfl⟩
  have hfi : arr.findIdx? (fun e => (e.born : Int) == (j : Int)) = some j := by
   rw [Array.findIdx?_eq_some_iff_getElem]
   refine ⟨by omega, ?_, ?_⟩
   ·simp [h7 j _ hja]
   ·intro m hm
    have : arr[m]? = some (arr[m]'(by omega)) := Array.getElem?_eq_getElem (by omega)
    simp [h7 m _ this]
    omega
  have hai : ∀ q : Int, (asInt (.int .i64 q)).run P w = .ok q w := by intro q; simp [asInt, asIntOf]
  have hfi' : arr.findIdx? (fun e => (e.born : Int) == Int.ofNat j) = some j := hfi
  simp only [Instr.entryStore, Sem.run_bind, Result.andThen_ok, hg, Sem.run_pure, hai, hfi', hset]
end
end Go.Dd

namespace Go.Dd
open Go.RowKit (Below)
def EnvR (ρ : cN) (env : aZ) (a : Act) : Prop := ∀ t, VR ρ (env t) (a.tmps.getD t undef)
theorem bE {ρ : cN} {env : aZ} {a : Act} (he : EnvR ρ env a) (x : Operand) : VR ρ (opr env x) (a.eval x) := by
 cases x with
 | tmp t => exact he t
 | const v => exact eOa ρ v
 | global g => exact .u _
 | func f => exact .f f [] [] #[] #[] .nil .nil
def jB (G : Gd) (ρ : cN) (w : World) (v : DV) (h1 : Hp) : Ending → World → Prop := fun e w' =>
 ∃ ρ' v', e = .returned v' ∧ Ex G ρ ρ' ∧ VR ρ' v v' ∧ HR G ρ' h1 w' ∧ Kp G w w'
def bRs (P : Program) (G : Gd) (ρ : cN) (w : World) (v : DV) (h1 : Hp) (g : FuncId) (args : Array Value) : Prop :=
 ((callFunc g args).run P w = .ok (.enter g args) w ∧ Calls P g args w (jB G ρ w v h1)) ∨
 (∃ ρ' w' v', (callFunc g args).run P w = .ok (.value v') w' ∧ Ex G ρ ρ' ∧ VR ρ' v v' ∧ HR G ρ' h1 w' ∧ Kp G w w')
def kA (P : Program) (G : Gd) (g : FuncId) (F : List DV → Hp → aH) : Prop :=
 ∀ args h v h1, F args h = some (v, h1) → ∀ ρ w (args' : Array Value), HR G ρ h w → VRs ρ args args'.toList → bRs P G ρ w v h1 g args'
structure OkC (C : Cfg) (rec : FuncId → List DV → Hp → aH) : Prop where
 own : ∀ G g F, C.I g = some F → kA C.P G g F
 fns : ∀ G g, kA C.P G g (rec g)
def OpOk (P : Program) (G : Gd) (ρ : cN) (w : World) (v : DV) (h1 : Hp) (a : Act) (o : Oper) : Prop :=
 (∃ ρ' w' v', ((execOp a.eval o).run P w = .ok (.value v') w' ∨ ((execOp a.eval o).run P w = .ok .skip w' ∧ v' = undef)) ∧ Ex G ρ ρ' ∧ VR ρ' v v' ∧ HR G ρ' h1 w' ∧ Kp G w w') ∨
 (∃ g args, (execOp a.eval o).run P w = .ok (.enter g args) w ∧ Calls P g args w (jB G ρ w v h1))
theorem eMt {P : Program} {G : Gd} {ρ : cN} {w : World} {v : DV} {h1 : Hp} {a : Act} {o : Oper} {s : Sem Value} (he : execOp a.eval o = (do pure (.value (← s)))) (hs : SemOk P G ρ w v h1 s) : OpOk P G ρ w v h1 a o := by
 obtain ⟨ρ', w', v', r, h2, h3, h4, h5⟩ := hs
 refine .inl ⟨ρ', w', v', .inl ?_, h2, h3, h4, h5⟩
 rw [he]
 simp [r]
theorem OR.map {ρ : cN} {env : aZ} {a : Act} (he : EnvR ρ env a) (x : Option Operand) : OR ρ (x.map (opr env)) (x.map a.eval) := by
 cases x with
 | none => exact .none
 | some y => exact .some _ _ (bE he y)
theorem eNs {ρ : cN} {env : aZ} {a : Act} (he : EnvR ρ env a) : ∀ l : List Operand, VRs ρ (l.map (opr env)) (l.map a.eval)
 | [] => .nil
 | x :: l => .cons _ _ _ _ (bE he x) (eNs he l)
section
variable {C : Cfg} {G : Gd} {rec : FuncId → List DV → Hp → aH} {ρ : cN} {w : World} {h h1 : Hp} {v : DV} {a : Act} {env : aZ}
theorem aTp (H : HR G ρ h w) (he : EnvR ρ env a) {o : Oper} {c : Call} {b : Builtin} (ho : o.op = .call c) (hc : c.callee = .builtin b)
  (hp : jR C b c.argTypes.toList (c.args.toList.map (opr env)) h = some (v, h1)) : OpOk C.P G ρ w v h1 a o := by
 have hrun : ∀ s : Sem Value, (∀ cons : Array Bool, builtin b c.argTypes o.type cons (c.args.map a.eval) = (do pure (.value (← s)) : Sem Next)) → execOp a.eval o = (do pure (.value (← s)) : Sem Next) := by
  intro s hs
  unfold execOp
  simp only [ho, resolve, hc, pure_bind, invoke]
  exact hs _
 unfold jR at hp
 split at hp <;> (try (cases hp; done))
 ·
  split at hp <;> (try (cases hp; done))
  rename_i t x hts hxs
  have hat : c.argTypes = #[t] := Array.toList_inj.1 (by simpa using hts)
  obtain ⟨ox, hca, hox⟩ : ∃ ox, c.args = #[ox] ∧ opr env ox = x := by
   rcases c with ⟨callee, args, ats⟩
   simp only at hxs ⊢
   have := congrArg List.length hxs
   match args, this with
   | ⟨[y]⟩, _ => simp at hxs; exact ⟨y, rfl, hxs⟩
  have hx := bE he ox
  rw [hox] at hx
  refine eMt (hrun (Builtin.len_ #[t] o.type #[a.eval ox]) (by intro cons; rw [hat, hca]; simp [builtin])) ?_
  split at hp <;> (try (cases hp; done))
  ·rename_i ht
   unfold dI at hp
   split at hp <;> (try (cases hp; done))
   rename_i l
   simp only [bD, bM] at hp
   obtain ⟨rfl, rfl⟩ := hp
   generalize a.eval ox = xv at hx ⊢
   cases hx with
   | s _ bs hb =>
    have hlen : l.length = bs.size := by rw [← hb, List.length_map, Array.length_toList]; rfl
    refine SemOk.pure H (by constructor) ?_
    simp only [Builtin.len_, Sem.run_bind, List.getElem?_toArray, List.getElem?_cons_zero, rU ht, Result.andThen_ok, goInt, Sem.run_pure, hlen]
  ·rename_i e ht
   unfold bJ at hp
   split at hp <;> (try (cases hp; done))
   ·simp only [bD, bM] at hp
    obtain ⟨rfl, rfl⟩ := hp
    generalize a.eval ox = xv at hx ⊢
    cases hx with
    | l _ _ _ _ L hL =>
     refine SemOk.pure H (by constructor) ?_
     simp only [Builtin.len_, Sem.run_bind, List.getElem?_toArray, List.getElem?_cons_zero, rU ht, Result.andThen_ok, goInt, Sem.run_pure]
   ·simp only [bD, bM] at hp
    obtain ⟨rfl, rfl⟩ := hp
    generalize a.eval ox = xv at hx ⊢
    cases hx with
    | lx _ _ _ _ L hL =>
     refine SemOk.pure H (by constructor) ?_
     simp only [Builtin.len_, Sem.run_bind, List.getElem?_toArray, List.getElem?_cons_zero, rU ht, Result.andThen_ok, goInt, Sem.run_pure]
   ·simp only [bD, bM] at hp
    obtain ⟨rfl, rfl⟩ := hp
    generalize a.eval ox = xv at hx ⊢
    cases hx
    refine SemOk.pure H (by constructor) ?_
    simp only [Builtin.len_, Sem.run_bind, List.getElem?_toArray, List.getElem?_cons_zero, rU ht, Result.andThen_ok, goInt, Sem.run_pure]
    simp
   ·simp only [bD, bM] at hp
    obtain ⟨rfl, rfl⟩ := hp
    generalize a.eval ox = xv at hx ⊢
    cases hx
    refine SemOk.pure H (by constructor) ?_
    simp only [Builtin.len_, Sem.run_bind, List.getElem?_toArray, List.getElem?_cons_zero, rU ht, Result.andThen_ok, goInt, Sem.run_pure]
    simp
 ·
  unfold sJ at hp
  split at hp <;> (try (cases hp; done))
  rename_i x y hxs
  obtain ⟨ox, oy, hca, hox, hoy⟩ : ∃ ox oy, c.args = #[ox, oy] ∧ opr env ox = x ∧ opr env oy = y := by
   rcases c with ⟨callee, args, ats⟩
   simp only at hxs ⊢
   have := congrArg List.length hxs
   match args, this with
   | ⟨[y1, y2]⟩, _ => simp at hxs; exact ⟨y1, y2, rfl, hxs.1, hxs.2⟩
  have hx := bE he ox
  have hy := bE he oy
  rw [hox] at hx
  rw [hoy] at hy
  refine eMt (hrun (Builtin.min_ c.argTypes o.type #[a.eval ox, a.eval oy]) (by intro cons; rw [hca]; simp [builtin])) ?_
  unfold aXo at hp
  split at hp <;> (try (cases hp; done))
  simp only [bD, bM] at hp
  obtain ⟨rfl, rfl⟩ := hp
  generalize a.eval ox = xv at hx ⊢
  generalize a.eval oy = yv at hy ⊢
  cases hx
  cases hy
  refine SemOk.pure H (by constructor) ?_
  simp [Builtin.min_, Builtin.min2]
 ·
  unfold rV at hp
  split at hp <;> (try (cases hp; done))
  rename_i x y hxs
  obtain ⟨ox, oy, hca, hox, hoy⟩ : ∃ ox oy, c.args = #[ox, oy] ∧ opr env ox = x ∧ opr env oy = y := by
   rcases c with ⟨callee, args, ats⟩
   simp only at hxs ⊢
   have := congrArg List.length hxs
   match args, this with
   | ⟨[y1, y2]⟩, _ => simp at hxs; exact ⟨y1, y2, rfl, hxs.1, hxs.2⟩
  have hx := bE he ox
  have hy := bE he oy
  rw [hox] at hx
  rw [hoy] at hy
  refine eMt (hrun (Builtin.max_ c.argTypes o.type #[a.eval ox, a.eval oy]) (by intro cons; rw [hca]; simp [builtin])) ?_
  unfold dMr at hp
  split at hp <;> (try (cases hp; done))
  simp only [bD, bM] at hp
  obtain ⟨rfl, rfl⟩ := hp
  generalize a.eval ox = xv at hx ⊢
  generalize a.eval oy = yv at hy ⊢
  cases hx
  cases hy
  refine SemOk.pure H (by constructor) ?_
  simp [Builtin.max_, Builtin.max2]
 ·
  split at hp <;> (try (cases hp; done))
  rename_i t x hts hxs
  have hat : c.argTypes = #[t] := Array.toList_inj.1 (by simpa using hts)
  obtain ⟨ox, hca, hox⟩ : ∃ ox, c.args = #[ox] ∧ opr env ox = x := by
   rcases c with ⟨callee, args, ats⟩
   simp only at hxs ⊢
   have := congrArg List.length hxs
   match args, this with
   | ⟨[y]⟩, _ => simp at hxs; exact ⟨y, rfl, hxs⟩
  have hx := bE he ox
  rw [hox] at hx
  refine eMt (hrun (Builtin.clear_ #[t] o.type #[a.eval ox]) (by intro cons; rw [hat, hca]; simp [builtin])) ?_
  split at hp <;> (try (cases hp; done))
  ·rename_i e ht
   split at hp <;> (try (cases hp; done))
   rename_i i hi
   split at hp <;> (try (cases hp; done))
   rename_i z hz
   split at hp <;> (try (cases hp; done))
   rename_i h0
   exact cHv H ht hi hz h0 hx hp
 ·
  split at hp <;> (try (cases hp; done))
  rename_i t u s x hts hxs
  have hat : c.argTypes = #[t, u] := Array.toList_inj.1 (by simpa using hts)
  obtain ⟨ox, oy, hca, hox, hoy⟩ : ∃ ox oy, c.args = #[ox, oy] ∧ opr env ox = s ∧ opr env oy = x := by
   rcases c with ⟨callee, args, ats⟩
   simp only at hxs ⊢
   have := congrArg List.length hxs
   match args, this with
   | ⟨[y1, y2]⟩, _ => simp at hxs; exact ⟨y1, y2, rfl, hxs.1, hxs.2⟩
  have hx := bE he ox
  have hy := bE he oy
  rw [hox] at hx
  rw [hoy] at hy
  refine eMt (hrun (Builtin.append_ #[t, u] o.type #[a.eval ox, a.eval oy]) (by intro cons; rw [hat, hca]; simp [builtin])) ?_
  have hmain : ∀ e d, C.P.underlying t = some (.slice e) → C.P.underlying u = some d → (∀ k, d ≠ .int k) → (match C.P.info? e with
    | some i => match i.zero with
     | some z => if 0 < i.size ∧ 0 < i.bytes ∧ z.cells.size = i.size then aW i.size i.bytes s x h else none
     | none => none
    | none => none) = some (v, h1) → SemOk C.P G ρ w v h1 (Builtin.append_ #[t, u] o.type #[a.eval ox, a.eval oy]) := by
   intro e d ht hu hd hp
   split at hp <;> (try (cases hp; done))
   rename_i i hi
   split at hp <;> (try (cases hp; done))
   rename_i z hz
   split at hp <;> (try (cases hp; done))
   rename_i hc3
   exact bLt H ht hu hd hi hz hc3.1 hc3.2.1 hc3.2.2 hx hy hp
  split at hp <;> (try (cases hp; done))
  ·rename_i e u0 ht hu
   exact hmain e _ ht hu (by simp) hp
  ·rename_i e ht hu
   exact hmain e _ ht hu (by simp) hp
theorem aQu (K : OkC C rec) (H : HR G ρ h w) (he : EnvR ρ env a) {o : Oper} (hp : jE C rec o env h = some (v, h1)) : OpOk C.P G ρ w v h1 a o := by
 unfold jE at hp
 split at hp <;> (try (cases hp; done))
 ·rename_i x ho
  simp only [bD, bM] at hp
  obtain ⟨rfl, rfl⟩ := hp
  exact .inl ⟨ρ, w, a.eval x, .inl (by unfold execOp; simp [ho]), Ex.refl G ρ, bE he x, H, Kp.refl G w⟩
 ·rename_i x ho
  simp only [bD, bM] at hp
  obtain ⟨rfl, rfl⟩ := hp
  exact .inl ⟨ρ, w, a.eval x, .inl (by unfold execOp; simp [ho]), Ex.refl G ρ, bE he x, H, Kp.refl G w⟩
 ·rename_i c x y ho
  have hc := bE he c
  unfold aN at hp
  split at hp <;> (try (cases hp; done))
  all_goals
   rename_i hcb
   simp only [bD, bM] at hp
   obtain ⟨rfl, rfl⟩ := hp
   rw [hcb] at hc
   generalize hcv : a.eval c = cv at hc
   cases hc
  ·exact .inl ⟨ρ, w, a.eval x, .inl (by unfold execOp; simp [ho, hcv, asBool]), Ex.refl G ρ, bE he x, H, Kp.refl G w⟩
  ·exact .inl ⟨ρ, w, a.eval y, .inl (by unfold execOp; simp [ho, hcv, asBool]), Ex.refl G ρ, bE he y, H, Kp.refl G w⟩
 ·rename_i t ho
  split at hp <;> (try (cases hp; done))
  rename_i i hi
  split at hp <;> (try (cases hp; done))
  rename_i z hz
  exact eMt (by unfold execOp; simp [ho]) (bVd H hi hz hp)
 ·rename_i t x ho
  exact eMt (s := Instr.box t (a.eval x)) (by unfold execOp; simp [ho]) (dSz H (bE he x) hp)
 ·rename_i t ps ho
  split at hp <;> (try (cases hp; done))
  ·rename_i fs i ht hi
   split at hp <;> (try (cases hp; done))
   rename_i z pl hz hpl
   split at hp <;> (try (cases hp; done))
   rename_i l hl
   exact eMt (by unfold execOp; simp only [ho]) (cMg H (bE he) ht hi hz hpl hl hp)
  ·rename_i n e i ht hi
   split at hp <;> (try (cases hp; done))
   rename_i z ei hz hps he'
   exact eMt (by unfold execOp; simp only [ho]) (bLu (ev := a.eval) H ht hi hz hps he' hp)
 ·rename_i t n ps ho
  split at hp <;> (try (cases hp; done))
  rename_i e ht
  split at hp <;> (try (cases hp; done))
  rename_i i hi
  split at hp <;> (try (cases hp; done))
  rename_i z hz
  split at hp <;> (try (cases hp; done))
  rename_i hc
  exact eMt (by unfold execOp; simp only [ho]) (aAs H (bE he) ht hi hz hc.1 hc.2.1 hc.2.2 hp)
 ·rename_i t x ho
  split at hp <;> (try (cases hp; done))
  rename_i d i ht hi
  cases hd : jG d with
  | true => rw [hd] at hp; exact eMt (by unfold execOp; simp [ho]) (cIl H ht hi hd (bE he x) hp)
  | false => rw [hd] at hp; exact eMt (by unfold execOp; simp [ho]) (cBt H ht hd (bE he x) hp)
 ·rename_i t x y ho
  split at hp <;> (try (cases hp; done))
  rename_i i hi
  obtain ⟨rfl, w', s1, s2, s3⟩ := bTu (P := C.P) H hi (bE he x) (bE he y) hp
  refine .inl ⟨ρ, w', undef, .inr ⟨?_, rfl⟩, Ex.refl G ρ, .t [] #[] .nil, s2, s3⟩
  unfold execOp
  simp [ho, s1]
 ·rename_i x ho
  obtain ⟨h2, h3, h4⟩ := dTf (P := C.P) H ho (bE he x) hp
  subst h4
  exact .inl ⟨ρ, w, _, .inl h2, Ex.refl G ρ, h3, H, Kp.refl G w⟩
 ·rename_i op t x y yt ho
  split at hp <;> (try (cases hp; done))
  ·rename_i fs ht
   exact eMt (by unfold execOp; simp only [ho]) (dPn (ox := x) (oy := y) H ht (bE he x) (bE he y) hp)
  rename_i d _ ht
  exact eMt (by unfold execOp; simp only [ho]) (dJn (ox := x) (oy := y) H ht (bE he x) (bE he y) hp)
 ·rename_i op t x ho
  exact eMt (by unfold execOp; simp [ho]) (dVp H (bE he x) hp)
 ·rename_i src dst x ho
  split at hp <;> (try (cases hp; done))
  ·rename_i d k hs hd
   exact eMt (by unfold execOp; simp [ho]) (bQi H hs hd (bE he x) hp)
  ·rename_i hs hd
   exact eMt (by unfold execOp; simp [ho]) (bUi H hs hd (bE he x) hp)
  ·rename_i e hs hd
   split at hp <;> (try (cases hp; done))
   rename_i hu
   exact eMt (by unfold execOp; simp [ho]) (cAn H hs hu hd (bE he x) hp)
 ·rename_i fn first captured ho
  split at hp <;> (try (cases hp; done))
  rename_i g
  simp only [bD, bM] at hp
  obtain ⟨rfl, rfl⟩ := hp
  refine .inl ⟨ρ, w, .func (.func g) (first.map a.eval) (captured.map a.eval), .inl ?_, Ex.refl G ρ, ?_, H, Kp.refl G w⟩
  ·unfold execOp; simp [ho, Instr.makeFunc]
  ·exact .f g _ _ _ _ (by simpa using eNs he first.toList) (by simpa using eNs he captured.toList)
 ·rename_i t x lo hi mx ho
  split at hp <;> (try (cases hp; done))
  ·rename_i ht
   exact eMt (by unfold execOp; simp [ho]) (bMd H ht (bE he x) (OR.map he lo) (OR.map he hi) hp)
  ·rename_i e ht
   split at hp <;> (try (cases hp; done))
   rename_i i hi0
   exact eMt (by unfold execOp; simp [ho]) (cDx H ht hi0 (bE he x) (OR.map he lo) (OR.map he hi) hp)
  ·rename_i e m ht
   split at hp <;> (try (cases hp; done))
   rename_i i hv hi0
   exact eMt (by unfold execOp; simp [ho]) (bMq H ht hi0 (bE he x) (OR.map he lo) (bE he hv) (bE he m) hp)
 ·rename_i t x f ho
  split at hp <;> (try (cases hp; done))
  rename_i fs ht
  split at hp <;> (try (cases hp; done))
  rename_i fl hf
  split at hp <;> (try (cases hp; done))
  rename_i i hi
  split at hp <;> (try (cases hp; done))
  rename_i h0
  exact eMt (by unfold execOp; simp [ho]) (cAx H ht hf hi h0 (bE he x) hp)
 ·rename_i t x f ho
  split at hp <;> (try (cases hp; done))
  rename_i fs ht
  split at hp <;> (try (cases hp; done))
  rename_i fl hf
  split at hp <;> (try (cases hp; done))
  rename_i d i hd hi
  cases ha : jG d with
  | true => rw [ha] at hp; exact eMt (by unfold execOp; simp [ho]) (bOv H ht hf hd hi ha (bE he x) hp)
  | false => rw [ha] at hp; exact eMt (by unfold execOp; simp [ho]) (bPo H ht hf hd ha (bE he x) hp)
 ·rename_i t x ix ho
  split at hp <;> (try (cases hp; done))
  ·rename_i e ht
   split at hp <;> (try (cases hp; done))
   rename_i i hi
   exact eMt (by unfold execOp; simp [ho]) (aHo H ht hi (bE he x) (bE he ix) hp)
  ·rename_i n e ht
   split at hp <;> (try (cases hp; done))
   rename_i i hi
   exact eMt (by unfold execOp; simp [ho]) (aQk H ht hi (bE he x) (bE he ix) hp)
 ·rename_i t x ix ho
  split at hp <;> (try (cases hp; done))
  rename_i ht
  exact eMt (by unfold execOp; simp [ho]) (bJq H ht (bE he x) (bE he ix) hp)
 ·rename_i t ho
  exact eMt (s := Instr.makeMap t none) (by unfold execOp; simp [ho]) (aVa H hp)
 ·rename_i t x k ok ho
  split at hp <;> (try (cases hp; done))
  rename_i kt et ht
  split at hp <;> (try (cases hp; done))
  rename_i d i hd hi
  split at hp <;> (try (cases hp; done))
  rename_i z hz
  cases hkt : jU d with
  | false => rw [hkt] at hp; cases hp
  | true =>
   rw [hkt] at hp
   exact eMt (s := Instr.lookup t (a.eval x) (a.eval k) ok) (by unfold execOp; simp [ho]) (bNn H ht hd hi hz hkt (bE he x) (bE he k) hp)
 ·rename_i t m k x ho
  split at hp <;> (try (cases hp; done))
  rename_i kt et ht
  split at hp <;> (try (cases hp; done))
  rename_i d hd
  cases hkt : jU d with
  | false => rw [hkt] at hp; cases hp
  | true =>
   rw [hkt] at hp
   obtain ⟨w', s1, s2, s3, rfl⟩ := bMa (P := C.P) H ht hd hkt (bE he m) (bE he k) (bE he x) hp
   refine .inl ⟨ρ, w', undef, .inr ⟨?_, rfl⟩, Ex.refl G ρ, .t [] #[] .nil, s2, s3⟩
   unfold execOp
   simp [ho, s1]
 ·rename_i t m k ho
  split at hp <;> (try (cases hp; done))
  rename_i kt et ht
  split at hp <;> (try (cases hp; done))
  rename_i d i hd hi
  split at hp <;> (try (cases hp; done))
  rename_i z hz
  cases hkt : jU d with
  | false => rw [hkt] at hp; cases hp
  | true =>
   rw [hkt] at hp
   exact eMt (s := Instr.mapEntry t (a.eval m) (a.eval k)) (by unfold execOp; simp [ho]) (aPv H ht hd hi hz hkt (bE he m) (bE he k) hp)
 ·rename_i t m s x ho
  obtain ⟨w', s1, s2, s3, rfl⟩ := aAt (P := C.P) (t := t) H (bE he m) (bE he s) (bE he x) hp
  refine .inl ⟨ρ, w', undef, .inr ⟨?_, rfl⟩, Ex.refl G ρ, .t [] #[] .nil, s2, s3⟩
  unfold execOp
  simp [ho, s1]
 ·rename_i t n c ho
  split at hp <;> (try (cases hp; done))
  rename_i e ht
  split at hp <;> (try (cases hp; done))
  rename_i i hi
  split at hp <;> (try (cases hp; done))
  rename_i z hz
  split at hp <;> (try (cases hp; done))
  rename_i hc
  exact eMt (s := Instr.makeSlice t (a.eval n) (a.eval c)) (by unfold execOp; simp [ho]) (aJv H ht hi hz hc.1 hc.2 (bE he n) (bE he c) hp)
 ·rename_i x i ho
  exact eMt (by unfold execOp; simp [ho]) (aQx H (bE he x) hp)
 ·rename_i t x ho
  split at hp <;> (try (cases hp; done))
  rename_i ht
  exact eMt (by unfold execOp; simp [ho]) (cMr H ht (bE he x) hp)
 ·rename_i x str ho
  split at hp <;> (try (cases hp; done))
  rename_i hs
  subst hs
  exact eMt (by unfold execOp; simp [ho]) (cVe (ty := o.type) H (bE he x) hp)
 ·rename_i c ho
  split at hp <;> (try (cases hp; done))
  ·rename_i b hb
   exact aTp H he ho hb hp
  ·rename_i f hf
   have hfv := bE he f
   unfold jX at hp
   split at hp <;> (try (cases hp; done))
   rename_i g first cap hg
   rw [hg] at hfv
   generalize hfe : a.eval f = fv at hfv
   cases hfv with
   | f _ _ _ x' y' hx hy =>
    have hargs : VRs ρ (first ++ c.args.toList.map (opr env) ++ cap) (x' ++ c.args.map a.eval ++ y').toList := by
     simpa using (hx.append (eNs he c.args.toList)).append hy
    have hex : execOp a.eval o = callFunc g (x' ++ c.args.map a.eval ++ y') := by
     unfold execOp
     simp only [ho, resolve, hf, hfe, Deferred.ofValue, pure_bind, invoke]
    have hcf : bRs C.P G ρ w v h1 g (x' ++ c.args.map a.eval ++ y') := by
     unfold bX at hp
     split at hp
     ·rename_i F hF
      exact K.own G g F hF _ _ _ _ hp ρ w _ H hargs
     ·exact K.fns G g _ _ _ _ hp ρ w _ H hargs
    rcases hcf with ⟨c1, c2⟩ | ⟨ρ', w', v', c1, c2, c3, c4, c5⟩
    ·exact .inr ⟨g, _, by rw [hex]; exact c1, c2⟩
    ·exact .inl ⟨ρ', w', v', .inl (by rw [hex]; exact c1), c2, c3, c4, c5⟩
end
end Go.Dd

namespace Go.Dd
open Go.RowKit (Below)
section
variable {C : Cfg} {G : Gd} {rec : FuncId → List DV → Hp → aH} {ρ : cN} {w : World} {h h1 : Hp} {v : DV} {a : Act} {env : aZ} {ops : Array Oper}
def bXi (P : Program) (G : Gd) (ρ : cN) (w : World) (v : DV) (h h1 : Hp) (a : Act) (ops : Array Oper) (o : Oper) : Prop :=
 (Region.wanted o (yielded ops a.tmps) = true ∧ OpOk P G ρ w v h1 a o) ∨ (Region.wanted o (yielded ops a.tmps) = false ∧ v = aY ∧ h1 = h)
theorem vW (K : OkC C rec) (H : HR G ρ h w) (he : EnvR ρ env a) {o : Oper} (hp : bH C rec ops o env h = some (v, h1)) : bXi C.P G ρ w v h h1 a ops o := by
 unfold bH at hp
 split at hp
 ·rename_i hg
  exact .inl ⟨by simp [Region.wanted, hg], aQu K H he hp⟩
 ·rename_i j want hg
  have hw : Region.wanted o (yielded ops a.tmps) = (yielded ops a.tmps j == some want) := by simp [Region.wanted, hg]
  have hy : ∀ d, (ops[j]?).bind (·.dst) = some d → ∀ x, a.tmps.getD d undef = .bool x → yielded ops a.tmps j = some x := by
   intro d hd x hx
   unfold yielded
   rw [hd]
   simp only [Option.bind_some]
   have hx' : a.tmps[d]? = some (.bool x) := by
    cases ht : a.tmps[d]? with
    | none => simp [ht, undef] at hx
    | some y => simp [ht] at hx; rw [hx]
   rw [hx']
  unfold gD bGq at hp
  cases hd : (ops[j]?).bind (·.dst) with
  | none =>
   simp only [hd, aY] at hp
   simp only [bD, bM] at hp
   refine .inr ⟨?_, hp.1.symm, hp.2.symm⟩
   rw [hw]
   unfold yielded
   rw [hd]
   rfl
  | some d =>
   simp only [hd] at hp
   have hv := he d
   split at hp <;> (try (cases hp; done))
   ·rename_i x hx
    rw [hx] at hv
    generalize hvv : a.tmps.getD d undef = vv at hv
    cases hv
    have hyy := hy d hd x hvv
    split at hp
    ·rename_i hxw
     refine .inl ⟨?_, aQu K H he hp⟩
     rw [hw, hyy]
     simpa using hxw
    ·rename_i hxw
     simp only [bD, bM] at hp
     refine .inr ⟨?_, hp.1.symm, hp.2.symm⟩
     rw [hw, hyy]
     simpa using hxw
   ·rename_i hx
    rw [hx] at hv
    simp only [bD, bM] at hp
    refine .inr ⟨?_, hp.1.symm, hp.2.symm⟩
    rw [hw]
    generalize hvv : a.tmps.getD d undef = vv at hv
    cases hv with
    | t _ x' hx' =>
     unfold yielded
     rw [hd]
     simp only [Option.bind_some]
     cases ht : a.tmps[d]? with
     | none => rfl
     | some y => simp [ht] at hvv; subst hvv; rfl
theorem tZ {o' : Oper} (hs : bXi C.P G ρ w v h h1 a ops o') {o : Oper} (ho : o' = o) {i : Nat} (hi : ops[i]? = some o) (H : HR G ρ h w) {Kc : Act → World → Prop} {Q : Exit → Act → World → Prop}
  (hn : ∀ ρ' w' v', Ex G ρ ρ' → VR ρ' v v' → HR G ρ' h1 w' → Kp G w w' → Kc (a.put o.dst v') w') : wpOp C.P ops Q i Kc a w := by
 subst ho
 unfold wpOp
 simp only [hi]
 rcases hs with ⟨hw, hok⟩ | ⟨hw, rfl, rfl⟩
 ·rw [if_pos hw]
  refine .inl ?_
  unfold Oper.wp
  rcases hok with ⟨ρ', w', v', hr | ⟨hr, rfl⟩, h2, h3, h4, h5⟩ | ⟨g, args, hr, hc⟩
  ·rw [hr]; exact hn ρ' w' v' h2 h3 h4 h5
  ·rw [hr]; exact hn ρ' w' _ h2 h3 h4 h5
  ·rw [hr]
   refine hc.mono fun e w'' he => ?_
   obtain ⟨ρ', v', rfl, h2, h3, h4, h5⟩ := he
   exact hn ρ' w'' v' h2 h3 h4 h5
 ·rw [if_neg (by rw [hw]; simp)]
  exact hn ρ w undef (Ex.refl G ρ) (.t [] #[] .nil) H (Kp.refl G w)
theorem lG (a : Act) (d : Option Tmp) (x : Value) : (a.put d x).tmps.size = a.tmps.size := by
 cases d <;> simp [Act.put]
theorem iP (a : Act) (d : Option Tmp) (x : Value) : (a.put d x).defers = a.defers := by
 cases d <;> rfl
theorem EnvR.put {ρ' : cN} (he : EnvR ρ env a) (hext : Ext ρ ρ') {d : Option Tmp} {v' : Value} (hv : VR ρ' v v') {nt : Nat} (hf : dD nt d = true) (hnt : nt ≤ a.tmps.size) : EnvR ρ' (bG env d v) (a.put d v') := by
 intro t
 cases d with
 | none => exact (he t).mono hext
 | some d =>
  simp only [dD] at hf
  have hlt : d < a.tmps.size := Nat.lt_of_lt_of_le (Nat.le_of_ble_eq_true hf) hnt
  simp only [bG, Act.put]
  by_cases e : t = d
  ·subst e
   simp [hlt, hv]
  ·have e' : Nat.beq t d = false := by
    cases hb : Nat.beq t d with
    | false => rfl
    | true => exact absurd (Nat.eq_of_beq_eq_true hb) e
   rw [e']
   have h0 := (he t).mono hext
   simpa [Array.getElem?_setIfInBounds_ne (Ne.symm e)] using h0
theorem EnvR.mono {ρ' : cN} (he : EnvR ρ env a) (hext : Ext ρ ρ') : EnvR ρ' env a := fun t => (he t).mono hext
def wT (C : Cfg) (rec : FuncId → List DV → Hp → aH) (nt : Nat) (ops : Array Oper) : List Oper → aZ → Hp → aZ → Hp → Prop
 | [], e, h, e', h' => e = e' ∧ h = h'
 | o :: os, e, h, e', h' => dD nt o.dst = true ∧ ∃ v h1, bH C rec ops o e h = some (v, h1) ∧ wT C rec nt ops os (bG e o.dst v) h1 e' h'
theorem cO {r : aH} {k : DV → Hp → aH} {z : DV × Hp} (hb : bnd r k = some z) : ∃ v h, r = some (v, h) ∧ k v h = some z := by
 unfold bnd at hb
 split at hb
 ·rename_i v h; exact ⟨v, h, rfl, hb⟩
 ·cases hb
theorem mO {nt : Nat} : ∀ (l : List Oper) (k : K) (env : aZ) (h : Hp) (r : DV × Hp), gM C rec nt ops l k env h = some r → ∃ env' h', wT C rec nt ops l env h env' h' ∧ k env' h' = some r
 | [], k, env, h, r, hp => ⟨env, h, ⟨rfl, rfl⟩, hp⟩
 | o :: os, k, env, h, r, hp => by
  change cnd (dD nt o.dst) (bnd (bH C rec ops o env h) fun v h' => gM C rec nt ops os k (bG env o.dst v) h') = some r at hp
  cases hf : dD nt o.dst with
  | false => rw [hf] at hp; cases hp
  | true =>
   rw [hf] at hp
   obtain ⟨v, h1, h2, h3⟩ := cO hp
   obtain ⟨env', h', h4, h5⟩ := mO os k _ _ r h3
   exact ⟨env', h', ⟨hf, v, h1, h2, h4⟩, h5⟩
theorem aNo (K : OkC C rec) {nt : Nat} {DD : List Deferred} {Q : Exit → Act → World → Prop} {env' : aZ} {h' : Hp} : ∀ (l : List Oper) (i : Nat) (ρ : cN) (env : aZ) (h : Hp) (a : Act) (w : World),
  (∀ j : Nat, l[j]? = ops[i + j]?) → wT C rec nt ops l env h env' h' → HR G ρ h w → EnvR ρ env a → nt ≤ a.tmps.size → a.defers = DD →
  (∀ ρ' a' w', Ex G ρ ρ' → HR G ρ' h' w' → EnvR ρ' env' a' → Kp G w w' → nt ≤ a'.tmps.size → a'.defers = DD → Q .normal a' w') → wpOps C.P ops Q (List.range' i l.length) a w
 | [], i, ρ, env, h, a, w, _, hr, H, he, hnt, hd, hQ => by
  obtain ⟨rfl, rfl⟩ := hr
  exact hQ ρ a w (Ex.refl G ρ) H he (Kp.refl G w) hnt hd
 | o :: os, i, ρ, env, h, a, w, hl, hr, H, he, hnt, hd, hQ => by
  obtain ⟨hf, v, h1, hs, hr'⟩ := hr
  have hi : ops[i]? = some o := by simpa using (hl 0).symm
  simp only [List.length_cons, List.range'_succ]
  rw [wpOps_cons]
  refine tZ (vW K H he hs) rfl hi H fun ρ' w' v' h2 h3 h4 h5 => ?_
  refine aNo (DD := DD) K os (i + 1) ρ' _ h1 _ w' (fun j => ?_) hr' h4 (he.put h2.ext h3 hf hnt) (by rw [lG]; exact hnt) (by rw [iP]; exact hd) fun ρ2 a2 w2 e1 e2 e3 e4 e5 e6 => ?_
  ·have := hl (j + 1)
   simpa [Nat.add_assoc, Nat.add_comm 1 j] using this
  ·exact hQ ρ2 a2 w2 (h2.trans e1) e2 e3 (h5.trans e4) e5 e6
end
end Go.Dd

namespace Go.Dd
open Go.RowKit (Below)
def PureP (F : Hp → aH) : Prop := ∀ h v h1, F h = some (v, h1) → h1 = h ∧ ∀ h', F h' = some (v, h')
theorem PureP.none : PureP (fun _ => Option.none) := fun _ _ _ h => by cases h
theorem PureP.val (v : DV) : PureP (fun h => some (v, h)) := fun h u h1 hp => by
 simp only [bD, bM] at hp
 obtain ⟨rfl, rfl⟩ := hp
 exact ⟨rfl, fun _ => rfl⟩
theorem PureP.ite {c : Prop} [Decidable c] {F G : Hp → aH} (hF : PureP F) (hG : PureP G) : PureP (fun h => if c then F h else G h) := by
 by_cases hc : c
 ·simpa [hc] using hF
 ·simpa [hc] using hG
theorem aOb (x : DV) : PureP (aX x) := by cases x <;> first | exact PureP.none | exact PureP.val _
theorem mP (op : BinOp) (x y : DV) : PureP (aD op x y) := by
 intro h v h1 hp
 unfold aD at *
 split at hp <;> (try (cases hp; done))
 split at hp <;> (try (cases hp; done))
 split at hp <;> (try (cases hp; done))
 rename_i hk _ r hr
 simp only [bD, bM] at hp
 obtain ⟨rfl, rfl⟩ := hp
 exact ⟨rfl, fun h' => by simp [hk, hr]⟩
theorem bQw (op : BinOp) (x y : DV) : PureP (fK op x y) := by
 intro h v h1 hp
 unfold fK at *
 split at hp <;> (try (cases hp; done))
 split at hp <;> (try (cases hp; done))
 rename_i r hr
 simp only [bD, bM] at hp
 obtain ⟨rfl, rfl⟩ := hp
 exact ⟨rfl, fun h' => by simp [hr]⟩
theorem aYk (op : BinOp) (x y : DV) : PureP (dL op x y) := by
 intro h v h1 hp
 unfold dL at *
 split at hp <;> (try (cases hp; done))
 split at hp <;> (try (cases hp; done))
 rename_i hb
 split at hp <;> (try (cases hp; done)) <;> (simp only [bD, bM] at hp; obtain ⟨rfl, rfl⟩ := hp; exact ⟨rfl, fun h' => by simp [hb]⟩)
theorem cZo (d : TypeDesc) (pos : Bool) (x y : DV) : PureP (pEq d pos x y) := by
 intro h v h1 hp
 unfold pEq at *
 split at hp <;> (try (cases hp; done))
 rename_i r hr
 simp only [bD, bM] at hp
 obtain ⟨rfl, rfl⟩ := hp
 exact ⟨rfl, fun h' => by simp [hr]⟩
theorem aOn (op : BinOp) (d : TypeDesc) (x y : DV) : PureP (cMx op d x y) := by
 intro h v h1 hp
 cases d <;> cases op <;> simp only [cMx] at hp ⊢ <;> first | exact aYk _ _ _ h v h1 hp | exact mP _ _ _ h v h1 hp | exact bQw _ _ _ h v h1 hp | exact cZo _ _ _ _ h v h1 hp | (cases hp; done)
theorem bWe (ok : Bool) (op : BinOp) (x y : DV) : PureP (bZz ok op x y) := by
 intro h v h1 hp
 unfold bZz at *
 split at hp <;> (try (cases hp; done))
 split at hp <;> (try (cases hp; done))
 rename_i hb
 split at hp <;> (try (cases hp; done)) <;> (simp only [bD, bM] at hp; obtain ⟨rfl, rfl⟩ := hp; exact ⟨rfl, fun h' => by simp [hb]⟩)
theorem bYk (op : BinOp) (x y : DV) : PureP (bNg op x y) := by
 intro h v h1 hp
 unfold bNg at *
 split at hp <;> (try (cases hp; done))
 split at hp <;> (try (cases hp; done))
 rename_i hb
 split at hp <;> (try (cases hp; done)) <;> (simp only [bD, bM] at hp; obtain ⟨rfl, rfl⟩ := hp; exact ⟨rfl, fun h' => by simp [hb]⟩)
theorem aNz (o2 o3 : Bool) (op : BinOp) (x y : DV) : PureP (dBl o2 o3 op x y) := by
 cases o3 with
 | true => exact bYk op x y
 | false => exact bWe o2 op x y
theorem bEj (op : UnOp) (x : DV) : PureP (gP op x) := by cases op <;> cases x <;> first | exact PureP.val _ | exact PureP.none
theorem pB (k : IntKind) (x : DV) : PureP (cX k x) := by cases x <;> first | exact PureP.val _ | exact PureP.none
theorem oP (x : DV) : PureP (aKz x) := by cases x <;> first | exact PureP.val _ | exact PureP.none
theorem nI (x : DV) (lo hi : Option DV) : PureP (fW x lo hi) := by
 intro h v h1 hp
 unfold fW at *
 split at hp <;> (try (cases hp; done))
 split at hp <;> (try (cases hp; done))
 rename_i e he
 split at hp <;> (try (cases hp; done))
 rename_i s hs
 simp only [bD, bM] at hp
 obtain ⟨rfl, rfl⟩ := hp
 exact ⟨rfl, fun h' => by simp [he, hs]⟩
theorem aAa (off : Nat) (x : DV) : PureP (aB off x) := by cases x <;> first | exact PureP.val _ | exact PureP.none
theorem zP (off : Nat) (x : DV) : PureP (gJ off x) := by
 intro h v h1 hp
 unfold gJ at *
 split at hp <;> (try (cases hp; done))
 split at hp <;> (try (cases hp; done))
 rename_i r hr
 simp only [bD, bM] at hp
 obtain ⟨rfl, rfl⟩ := hp
 exact ⟨rfl, fun h' => by simp [hr]⟩
theorem wU (off size : Nat) (x : DV) : PureP (aGz off size x) := by cases x <;> first | exact PureP.val _ | exact PureP.none
theorem mZ (size : Nat) (x ix : DV) : PureP (aC size x ix) := by
 intro h v h1 hp
 unfold aC at hp ⊢
 split at hp <;> (try (cases hp; done))
 all_goals
  split at hp <;> (try (cases hp; done))
  rename_i hr
  simp only [bD, bM] at hp
  obtain ⟨rfl, rfl⟩ := hp
  exact ⟨rfl, fun h' => by rw [if_pos hr]⟩
theorem oD (n size : Nat) (x ix : DV) : PureP (lL n size x ix) := by
 intro h v h1 hp
 unfold lL at *
 split at hp <;> (try (cases hp; done))
 split at hp <;> (try (cases hp; done))
 rename_i hr
 simp only [bD, bM] at hp
 obtain ⟨rfl, rfl⟩ := hp
 exact ⟨rfl, fun h' => by simp [hr]⟩
theorem sV (x ix : DV) : PureP (cQ x ix) := by
 intro h v h1 hp
 unfold cQ at *
 split at hp <;> (try (cases hp; done))
 split at hp <;> (try (cases hp; done))
 rename_i h0
 split at hp <;> (try (cases hp; done))
 rename_i c hc
 simp only [bD, bM] at hp
 obtain ⟨rfl, rfl⟩ := hp
 exact ⟨rfl, fun h' => by simp [h0, hc]⟩
theorem rF (i : Nat) (x : DV) : PureP (aE i x) := by
 intro h v h1 hp
 unfold aE at *
 split at hp <;> (try (cases hp; done))
 split at hp <;> (try (cases hp; done))
 rename_i r hr
 simp only [bD, bM] at hp
 obtain ⟨rfl, rfl⟩ := hp
 exact ⟨rfl, fun h' => by simp [hr]⟩
theorem aBs (c x y : DV) : PureP (aN c x y) := by
 cases c with
 | b z => cases z <;> exact PureP.val _
 | _ => exact PureP.none
theorem aBj (x : DV) : PureP (dI x) := by cases x <;> first | exact PureP.val _ | exact PureP.none
theorem jP (x : DV) : PureP (bJ x) := by cases x <;> first | exact PureP.val _ | exact PureP.none
theorem aQm (x y : DV) : PureP (aXo x y) := by cases x <;> cases y <;> first | exact PureP.val _ | exact PureP.none
theorem aPa (x y : DV) : PureP (dMr x y) := by cases x <;> cases y <;> first | exact PureP.val _ | exact PureP.none
theorem lU (z : List DV) (ps : List (Nat × Nat × DV)) : PureP (bL z ps) := by
 intro h v h1 hp
 unfold bL at *
 split at hp <;> (try (cases hp; done))
 rename_i r hr
 simp only [bD, bM] at hp
 obtain ⟨rfl, rfl⟩ := hp
 exact ⟨rfl, fun h' => by simp [hr]⟩
section
variable {C : Cfg} {rec : FuncId → List DV → Hp → aH}
theorem yO {o : Oper} {env : aZ} (hc : bU C.P o.op = .pure) : PureP (jE C rec o env) := by
 obtain ⟨dst, op, ty, pos, after, guard⟩ := o
 simp only at hc
 unfold jE
 cases op <;> simp only [bU] at hc <;> (try (cases hc; done)) <;> (try ((rename_i r; cases r <;> cases hc); done)) <;> simp only
 case move x => exact PureP.val _
 case assign x => exact PureP.val _
 case pick c a b => exact aBs _ _ _
 case build t ps =>
  split
  ·split
   ·split
    ·exact lU _ _
    ·exact PureP.none
   ·exact PureP.none
  ·split
   ·exact lU _ _
   ·exact PureP.none
  ·exact PureP.none
 case nilCheck x => exact aOb _
 case binOp op t x y yt =>
  split
  ·exact aNz _ _ _ _ _
  ·exact aOn _ _ _ _
  ·exact PureP.none
 case unOp op t x => exact bEj _ _
 case convert src dst x =>
  split
  ·exact pB _ _
  ·exact oP _
  ·rename_i hs _
   rw [hs] at hc
   cases hc
  ·exact PureP.none
 case makeFunc fn first cap =>
  split
  ·exact PureP.val _
  ·exact PureP.none
 case slice t x lo hi mx =>
  split at hc <;> (try (cases hc; done)) <;> (try (cases mx <;> cases hc; done))
  rename_i ht
  rw [ht]
  cases mx with
  | none => exact nI _ _ _
  | some m => exact PureP.none
 case fieldAddr t x f =>
  split
  ·split
   ·split
    ·exact PureP.ite PureP.none (aAa _ _)
    ·exact PureP.none
   ·exact PureP.none
  ·exact PureP.none
 case field t x f =>
  split
  ·split
   ·split
    ·rename_i d i _ _; cases jG d <;> first | exact wU _ _ _ | exact zP _ _
    ·exact PureP.none
   ·exact PureP.none
  ·exact PureP.none
 case indexAddr t x ix =>
  split
  ·split
   ·exact mZ _ _ _
   ·exact PureP.none
  ·split
   ·exact oD _ _ _ _
   ·exact PureP.none
  ·exact PureP.none
 case index t x ix =>
  split
  ·exact sV _ _
  ·exact PureP.none
 case extract x i => exact rF _ _
 case call c =>
  obtain ⟨callee, args, ats⟩ := c
  cases callee with
  | value f => cases hc
  | invoke r m => cases hc
  | builtin b =>
   cases b <;> (try (cases hc; done)) <;> simp only [jR]
   case len =>
    split
    ·split
     ·exact aBj _
     ·exact jP _
     ·exact PureP.none
    ·exact PureP.none
   case max =>
    unfold rV
    split
    ·exact aPa _ _
    ·exact PureP.none
   case min =>
    unfold sJ
    split
    ·exact aQm _ _
    ·exact PureP.none
theorem aVi {size : Nat} {x : DV} {lo hi : Option DV} {h h1 : Hp} {v : DV} (hp : cT size x lo hi h = some (v, h1)) : h1 = h := by
 unfold cT at hp
 repeat' (split at hp <;> (try (cases hp; done)))
 all_goals (simp only [bD, bM] at hp; exact hp.2.symm)
theorem tH {o : Oper} {env : aZ} (hc : bU C.P o.op = .reads) {h h1 : Hp} {v : DV} (hp : jE C rec o env h = some (v, h1)) : h1 = h := by
 obtain ⟨dst, op, ty, pos, after, guard⟩ := o
 simp only at hc
 unfold jE at hp
 cases op <;> simp only [bU] at hc <;> (try (cases hc; done)) <;> (try ((rename_i r; cases r <;> cases hc); done))
 case slice t x lo hi mx =>
  split at hc
  ·cases hc
  ·cases mx with
   | some m => cases hc
   | none =>
    simp only at hp
    split at hp <;> (try (cases hp; done))
    ·exact (nI _ _ _ _ _ _ hp).1
    ·split at hp <;> (try (cases hp; done))
     exact aVi hp
    ·rename_i hm
     cases hm
 case convert src dst x =>
  simp only at hp
  split at hp <;> (try (cases hp; done))
  ·exact (pB _ _ _ _ _ hp).1
  ·exact (oP _ _ _ _ hp).1
  ·split at hp <;> (try (cases hp; done))
   unfold gY at hp
   split at hp <;> (try (cases hp; done))
   ·simp only [bD, bM] at hp
    exact hp.2.symm
   ·split at hp <;> (try (cases hp; done))
    split at hp <;> (try (cases hp; done))
    simp only [bD, bM] at hp
    exact hp.2.symm
 case load t x =>
  simp only at hp
  split at hp <;> (try (cases hp; done))
  rename_i d i _ _
  cases hd : jG d with
  | true =>
   rw [hd] at hp
   simp only [cond_true] at hp
   unfold aL at hp
   split at hp <;> (try (cases hp; done))
   split at hp <;> (try (cases hp; done))
   simp only [bD, bM] at hp
   exact hp.2.symm
  | false =>
   rw [hd] at hp
   simp only [cond_false] at hp
   unfold aA at hp
   split at hp <;> (try (cases hp; done))
   split at hp <;> (try (cases hp; done))
   simp only [bD, bM] at hp
   exact hp.2.symm
 case lookup t x k ok =>
  simp only at hp
  split at hp <;> (try (cases hp; done))
  split at hp <;> (try (cases hp; done))
  split at hp <;> (try (cases hp; done))
  rename_i d _ _ _ _ _ _
  cases hkt : jU d with
  | false => rw [hkt] at hp; cases hp
  | true =>
   rw [hkt] at hp
   simp only [cond_true] at hp
   unfold gG at hp
   split at hp <;> (try (cases hp; done))
   split at hp <;> (try (cases hp; done))
   all_goals
    simp only [bD, bM] at hp
    exact hp.2.symm
 case call c =>
  obtain ⟨callee, args, ats⟩ := c
  cases callee with
  | value f => cases hc
  | invoke r m => cases hc
  | builtin b => cases b <;> cases hc
theorem rX {ops : Array Oper} {o : Oper} {env : aZ} (hc : bU C.P o.op = .pure) : PureP (bH C rec ops o env) := by
 unfold bH
 split
 ·exact yO hc
 ·intro h v h1 hp
  unfold gD at *
  split at hp <;> (try (cases hp; done))
  ·split at hp
   ·rename_i x hx hw
    obtain ⟨h2, h3⟩ := yO (rec := rec) (env := env) hc h v h1 hp
    exact ⟨h2, fun h' => by simp only [hx]; rw [if_pos hw]; exact h3 h'⟩
   ·rename_i x hx hw
    simp only [bD, bM] at hp
    obtain ⟨rfl, rfl⟩ := hp
    exact ⟨rfl, fun h' => by simp only [hx]; rw [if_neg hw]⟩
  ·rename_i hx
   simp only [bD, bM] at hp
   obtain ⟨rfl, rfl⟩ := hp
   exact ⟨rfl, fun h' => by simp only [hx]⟩
theorem oV {ops : Array Oper} {o : Oper} {env : aZ} (hc : bU C.P o.op = .reads) {h h1 : Hp} {v : DV} (hp : bH C rec ops o env h = some (v, h1)) : h1 = h := by
 unfold bH at hp
 split at hp
 ·exact tH hc hp
 ·unfold gD at hp
  split at hp <;> (try (cases hp; done))
  ·split at hp
   ·exact tH hc hp
   ·simp only [bD, bM] at hp
    exact hp.2.symm
  ·simp only [bD, bM] at hp
   exact hp.2.symm
theorem aBe {env env' : aZ} {x : Operand} (h : ∀ t, x = .tmp t → env t = env' t) : opr env x = opr env' x := by
 cases x with
 | tmp t => exact h t rfl
 | _ => rfl
theorem aPf {o : Oper} {env env' : aZ} {h : Hp} (hs : ∀ x ∈ o.op.operands, opr env x = opr env' x) : jE C rec o env h = jE C rec o env' h := by
 obtain ⟨dst, op, ty, pos, after, guard⟩ := o
 simp only at hs
 have pairs : ∀ (ps : Array (Nat × Operand)), (∀ x ∈ ps.toList.map (·.2), opr env x = opr env' x) → ∀ q ∈ ps.toList, opr env q.2 = opr env' q.2 := fun ps hp q hq => hp _ (List.mem_map_of_mem hq)
 have lst : ∀ (l : Array Operand), (∀ x ∈ l, opr env x = opr env' x) → l.toList.map (opr env) = l.toList.map (opr env') := fun l hl => List.map_congr_left fun x hx => hl x (by simpa using hx)
 unfold jE
 cases op <;> simp only [Op.operands] at hs <;> simp only
 case move x => rw [hs x (by simp)]
 case assign x => rw [hs x (by simp)]
 case pick c x y => rw [hs c (by simp), hs x (by simp), hs y (by simp)]
 case box t x => rw [hs x (by simp)]
 case build t ps =>
  have hp := pairs ps (by simpa using hs)
  have e : ∀ pl : List (Nat × Nat), ps.toList.mapM (fun (q : Nat × Operand) => (pl[q.1]?).map fun s => (s.1, s.2, opr env q.2)) = ps.toList.mapM (fun (q : Nat × Operand) => (pl[q.1]?).map fun s => (s.1, s.2, opr env' q.2)) := by
   intro pl
   generalize ps.toList = l at hp
   induction l with
   | nil => rfl
   | cons q l ih =>
    simp only [List.mapM_cons]
    rw [ih (fun x hx => hp x (by simp [hx])), hp q (by simp)]
  simp only [e]
 case buildSlice t n ps =>
  have hp := pairs ps (by simpa using hs)
  have e : ∀ sz : Nat, (ps.toList.map fun (q : Nat × Operand) => (q.1 * sz, sz, opr env q.2)) = (ps.toList.map fun (q : Nat × Operand) => (q.1 * sz, sz, opr env' q.2)) := fun sz => List.map_congr_left fun q hq => by rw [hp q hq]
  simp only [e]
 case load t x => rw [hs x (by simp)]
 case store t x y => rw [hs x (by simp), hs y (by simp)]
 case nilCheck x => rw [hs x (by simp)]
 case binOp op t x y yt => rw [hs x (by simp), hs y (by simp)]
 case unOp op t x => rw [hs x (by simp)]
 case convert src dst x => rw [hs x (by simp)]
 case makeFunc fn first cap => rw [lst first (fun x hx => hs x (by simp [hx])), lst cap (fun x hx => hs x (by simp [hx]))]
 case slice t x lo hi mx =>
  have e0 := hs x (by simp)
  have e1 : lo.map (opr env) = lo.map (opr env') := by cases lo <;> simp_all
  have e2 : hi.map (opr env) = hi.map (opr env') := by cases hi <;> simp_all
  rw [e0, e1, e2]
  cases mx with
  | none =>
   cases hu : C.P.underlying t with
   | none => rfl
   | some d => cases d <;> rfl
  | some m =>
   have e3 := hs m (by simp)
   cases hu : C.P.underlying t with
   | none => rfl
   | some d =>
    cases d <;> (try rfl)
    rename_i el
    simp only
    cases hie : C.P.info? el with
    | none => cases hi <;> rfl
    | some ie =>
     cases hi with
     | none => rfl
     | some hv => simp only; rw [e3, hs hv (by simp)]
 case fieldAddr t x f => rw [hs x (by simp)]
 case field t x f => rw [hs x (by simp)]
 case indexAddr t x ix => rw [hs x (by simp), hs ix (by simp)]
 case index t x ix => rw [hs x (by simp), hs ix (by simp)]
 case makeMap t r => cases r <;> rfl
 case lookup t x k ok => rw [hs x (by simp), hs k (by simp)]
 case mapUpdate t m k x => rw [hs m (by simp), hs k (by simp), hs x (by simp)]
 case mapEntry t m k => rw [hs m (by simp), hs k (by simp)]
 case entryStore t m s x => rw [hs m (by simp), hs s (by simp), hs x (by simp)]
 case makeSlice t n c => rw [hs n (by simp), hs c (by simp)]
 case extract x i => rw [hs x (by simp)]
 case range t x => rw [hs x (by simp)]
 case next x str => rw [hs x (by simp)]
 case call c =>
  obtain ⟨callee, args, ats⟩ := c
  simp only [Call.operands] at hs
  rw [lst args (fun x hx => hs x (by simp [hx]))]
  cases callee with
  | value f => simp only; rw [hs f (by simp)]
  | invoke r m => rfl
  | builtin b => rfl
theorem aAx {o : Oper} {b : Pos} {env env' : aZ} {h : Hp} (hs : ∀ x ∈ o.op.operands, opr env x = opr env' x) : dQ C o b env h = dQ C o b env' h := by
 obtain ⟨dst, op, ty, pos, after, guard⟩ := o
 simp only at hs
 unfold dQ
 cases op <;> simp only [Op.operands] at hs <;> simp only
 case makeMap t r => cases r <;> rfl
 case box t x => rw [hs x (by simp)]
 case buildSlice t n ps =>
  have hp : ∀ q ∈ ps.toList, opr env q.2 = opr env' q.2 := fun q hq => hs _ (by simpa using ⟨q.1, by simpa using hq⟩)
  have e : ∀ sz : Nat, (ps.toList.map fun (q : Nat × Operand) => (q.1 * sz, sz, opr env q.2)) = (ps.toList.map fun (q : Nat × Operand) => (q.1 * sz, sz, opr env' q.2)) := fun sz => List.map_congr_left fun q hq => by rw [hp q hq]
  simp only [e]
theorem aOj {ops : Array Oper} {o : Oper} {env env' : aZ} {h : Hp} (hs : ∀ t ∈ o.looksAt ops, env t = env' t) : bH C rec ops o env h = bH C rec ops o env' h := by
 have hop : jE C rec o env h = jE C rec o env' h := aPf fun x hx => aBe fun t ht => hs t (by
  unfold Oper.looksAt
  refine List.mem_append_left _ (List.mem_filterMap.2 ⟨x, by simpa using hx, ?_⟩)
  rw [ht])
 unfold bH
 cases hg : o.guard with
 | none => exact hop
 | some g =>
  obtain ⟨j, want⟩ := g
  simp only
  rw [hop]
  congr 1
  unfold bGq
  cases hd : (ops[j]?).bind (·.dst) with
  | none => rfl
  | some d => exact hs d (by unfold Oper.looksAt; simp [hg, hd])
end
theorem bNy (acc : Array Nat) : ∀ (es : List Edge) (s j : Nat), (es.foldl (fun s e => if Region.binds .any e then s ||| 2 ^ e.on ||| acc.getD e.on 0 else s) s).testBit j = true →
  s.testBit j = true ∨ ∃ e ∈ es, Region.binds .any e = true ∧ (e.on = j ∨ (acc.getD e.on 0).testBit j = true)
 | [], s, j, h => .inl h
 | e :: es, s, j, h => by
  simp only [List.foldl_cons] at h
  rcases bNy acc es _ j h with h1 | ⟨e', he', h2⟩
  ·split at h1
   ·rename_i hb
    simp only [Nat.testBit_or, Bool.or_eq_true] at h1
    rcases h1 with (h1 | h1) | h1
    ·exact .inl h1
    ·exact .inr ⟨e, by simp, hb, .inl (by simpa [Nat.testBit_two_pow] using h1)⟩
    ·exact .inr ⟨e, by simp, hb, .inr h1⟩
   ·exact .inl h1
  ·exact .inr ⟨e', by simp [he'], h2⟩
def jV (acc : Array Nat) (o : Oper) : Array Nat := acc.push (o.after.foldl (fun s e => if Region.binds .any e then s ||| 2 ^ e.on ||| acc.getD e.on 0 else s) 0)
theorem pR : ∀ (l : List Oper) (acc : Array Nat) (i : Nat), i < acc.size → (l.foldl jV acc).getD i 0 = acc.getD i 0
 | [], acc, i, h => rfl
 | o :: l, acc, i, h => by
  simp only [List.foldl_cons]
  rw [pR l _ i (by simp [jV]; omega)]
  simp [jV, Array.getElem?_push, Nat.ne_of_lt h]
theorem yS : ∀ (l : List Oper) (acc : Array Nat) (i j : Nat) (o : Oper), l[i]? = some o → ((l.foldl jV acc).getD (acc.size + i) 0).testBit j = true →
  ∃ e ∈ o.after, Region.binds .any e = true ∧ (e.on = j ∨ ((l.foldl jV acc).getD e.on 0).testBit j = true)
 | [], acc, i, j, o, h, _ => by simp at h
 | o' :: l, acc, 0, j, o, h, hb => by
  simp at h; subst h
  simp only [List.foldl_cons, Nat.add_zero] at hb ⊢
  rw [pR l _ acc.size (by simp [jV])] at hb
  have hv : (jV acc o').getD acc.size 0 = o'.after.foldl (fun s e => if Region.binds .any e then s ||| 2 ^ e.on ||| acc.getD e.on 0 else s) 0 := by simp [jV]
  rw [hv, ← Array.foldl_toList] at hb
  rcases bNy acc _ 0 j hb with h1 | ⟨e, he, h2, h3⟩
  ·simp at h1
  ·refine ⟨e, by simpa using he, h2, h3.imp id fun h4 => ?_⟩
   have hlt : e.on < acc.size := by
    rcases Nat.lt_or_ge e.on acc.size with h | h
    ·exact h
    ·simp [Array.getElem?_eq_none h] at h4
   rw [pR l _ e.on (by simp [jV]; omega)]
   have : (jV acc o').getD e.on 0 = acc.getD e.on 0 := by simp [jV, Array.getElem?_push, Nat.ne_of_lt hlt]
   rw [this]
   exact h4
 | o' :: l, acc, i + 1, j, o, h, hb => by
  simp at h
  simp only [List.foldl_cons] at hb ⊢
  have := yS l (jV acc o') i j o h (by
   have e : (jV acc o').size + i = acc.size + (i + 1) := by simp [jV]; omega
   rw [e]
   exact hb)
  exact this
theorem aQa {ops : Array Oper} {i j : Nat} {o : Oper} (ho : ops[i]? = some o) (h : gL (Region.before ops) j i = true) :
  ∃ e ∈ o.after, Region.binds .any e = true ∧ (e.on = j ∨ gL (Region.before ops) j e.on = true) := by
 have hb : Region.before ops = ops.toList.foldl jV #[] := by
  unfold Region.before
  rw [← Array.foldl_toList]
  rfl
 unfold gL at *
 rw [hb] at h ⊢
 have := yS ops.toList #[] i j o (by simpa using ho) (by simpa using h)
 exact this
end Go.Dd

namespace Go.Dd
open Go.RowKit (Below)
section
variable {C : Cfg} {G : Gd} {rec : FuncId → List DV → Hp → aH} {ops : Array Oper} {m : Array Nat} {nt : Nat} {k : K}
def jW (C : Cfg) (ops : Array Oper) (j : Nat) : Bool :=
 match ops[j]? with
 | some o => decide (bU C.P o.op = .acts)
 | none => false
theorem bMz {j : Nat} {o : Oper} (ho : ops[j]? = some o) : jW C ops j = true ↔ bU C.P o.op = .acts := by
 unfold jW; rw [ho]; simp
def iX (C : Cfg) (ops : Array Oper) (Hh : Nat → Hp) (lo : Nat) : Nat → List (Option Nat × Hp)
 | 0 => []
 | d + 1 => (if jW C ops (lo + d) then [(some (lo + d), Hh (lo + d + 1))] else []) ++ iX C ops Hh lo d
theorem tD {Hh Hh' : Nat → Hp} {lo : Nat} : ∀ d, (∀ p, lo < p → p ≤ lo + d → Hh p = Hh' p) → iX C ops Hh lo d = iX C ops Hh' lo d
 | 0, _ => rfl
 | d + 1, h => by
  simp only [iX]
  rw [tD d (fun p h1 h2 => h p h1 (by omega)), h (lo + d + 1) (by omega) (by omega)]
theorem sW {Hh : Nat → Hp} {lo : Nat} : ∀ d, iX C ops Hh lo (d + 1) = iX C ops Hh (lo + 1) d ++ (if jW C ops lo then [(some lo, Hh (lo + 1))] else [])
 | 0 => by simp [iX]
 | d + 1 => by
  have ih := sW (Hh := Hh) (lo := lo) d
  rw [iX, ih]
  simp only [iX, List.append_assoc]
  rw [show lo + 1 + d = lo + (d + 1) from by omega]
def sK (m : Array Nat) (p : Nat) (Pv : Hp → Prop) : List (Option Nat × Hp) → Prop
 | [] => True
 | (j, hj) :: rest => Pv hj ∧ (match j with
  | none => True
  | some j => gL m j p = true ∨ sK m p Pv rest)
theorem pC {m : Array Nat} {i : Nat} {v : DV} {look : Hp → aH} {Pv : Hp → Prop} (hP : ∀ h, bR (look h) v = true → Pv h) : ∀ (hs : List (Option Nat × Hp)), eK m i v look true hs = true → sK m i Pv hs
 | [], _ => trivial
 | (j, hj) :: rest, hc => by
  simp only [eK, cond_true, Bool.and_eq_true] at hc
  refine ⟨hP hj hc.1, ?_⟩
  cases j with
  | none => trivial
  | some j =>
   simp only at hc ⊢
   cases ho : gL m j i with
   | true => exact .inl rfl
   | false =>
    rw [ho] at hc
    exact .inr (pC hP rest hc.2)
structure StepT (C : Cfg) (rec : FuncId → List DV → Hp → aH) (ops : Array Oper) (m : Array Nat) (nt : Nat) (b : Pos) (E : Nat → aZ) (Hh : Nat → Hp) (V : Nat → DV) (lo : Nat) (hs : List (Option Nat × Hp)) (p : Nat) (o : Oper) : Prop where
 fits : dD nt o.dst = true
 step : bU C.P o.op ≠ .makes → bH C rec ops o (E p) (Hh p) = some (V p, Hh (p + 1))
 made : bU C.P o.op = .makes → dQ C o b (E p) (Hh p) = some (V p, Hh (p + 1))
 env : E (p + 1) = bG (E p) o.dst (V p)
 reads : bU C.P o.op = .reads → sK m p (fun h => bH C rec ops o (E p) h = some (V p, h)) (iX C ops Hh lo (p - lo) ++ hs)
 acts : bU C.P o.op = .acts → ∀ j oj, lo ≤ j → j < p → ops[j]? = some oj → bU C.P oj.op = .reads → gL m j p = true ∨ bR (bH C rec ops oj (E j) (Hh (p + 1))) (V j) = true
theorem sX {o : Oper} {env : aZ} {h : Hp} {v : DV} (hc : bU C.P o.op = .reads) (hs : bR (bH C rec ops o env h) v = true) : bH C rec ops o env h = some (v, h) := by
 cases hr : bH C rec ops o env h with
 | none => rw [hr] at hs; cases hs
 | some r =>
  obtain ⟨x, h1⟩ := r
  rw [hr] at hs
  have := eNo _ _ hs
  have h2 := oV hc hr
  rw [this, h2]
theorem sU {p0 : Pos} : ∀ (l : List Oper) (i c : Nat) (dirty : Bool) (rd : List Seen) (hs : List (Option Nat × Hp)) (env : aZ) (h : Hp) (r : DV × Hp),
  eI C rec nt ops m p0 l k i c dirty rd hs env h = some r → (∀ j : Nat, l[j]? = ops[i + j]?) → (dirty = false → ∃ j rest, hs = (j, h) :: rest) →
  ∃ (E : Nat → aZ) (Hh : Nat → Hp) (V : Nat → DV), E i = env ∧ Hh i = h ∧ k (E (i + l.length)) (Hh (i + l.length)) = some r ∧
   ∀ p o, i ≤ p → p < i + l.length → ops[p]? = some o → StepT C rec ops m nt (bN (c + cG C.P (l.take (p - i))) p0) E Hh V i hs p o ∧
    (bU C.P o.op = .acts → ∀ q ∈ rd, gL m q.at_ p = true ∨ bR (q.look (Hh (p + 1))) q.v = true)
 | [], i, c, dirty, rd, hs, env, h, r, hp, hl, _ => ⟨fun _ => env, fun _ => h, fun _ => .u, rfl, rfl, hp, fun p o h1 h2 => by simp at h2; omega⟩
 | o :: os, i, c, dirty, rd, hs, env, h, r, hp, hl, hdirty => by
  have hi : ops[i]? = some o := by simpa using (hl 0).symm
  have hl' : ∀ j : Nat, os[j]? = ops[i + 1 + j]? := fun j => by
   have := hl (j + 1)
   simpa [Nat.add_assoc, Nat.add_comm 1 j] using this
  have hstep : ∃ v h1 c' dirty' rd' hs', dD nt o.dst = true ∧ (bU C.P o.op ≠ .makes → bH C rec ops o env h = some (v, h1)) ∧ (bU C.P o.op = .makes → dQ C o (bN c p0) env h = some (v, h1)) ∧
    eI C rec nt ops m p0 os k (i + 1) c' dirty' rd' hs' (bG env o.dst v) h1 = some r ∧ (dirty' = false → ∃ j rest, hs' = (j, h1) :: rest) ∧
    (∀ q ∈ rd, q ∈ rd') ∧ hs' = (if jW C ops i then [(some i, h1)] else []) ++ hs ∧ c' = c + cG C.P [o] ∧
    (bU C.P o.op = .reads → sK m i (fun h => bH C rec ops o env h = some (v, h)) hs ∧ ⟨i, bH C rec ops o env, v⟩ ∈ rd') ∧
    (bU C.P o.op = .acts → (∀ q ∈ rd, gL m q.at_ i = true ∨ bR (q.look h1) q.v = true)) := by
   change cnd (dD nt o.dst) (
     match bU C.P o.op with
     | .pure => bnd (bH C rec ops o env h) fun v h' => eI C rec nt ops m p0 os k (i + 1) c dirty rd hs (bG env o.dst v) h'
     | .reads => bnd (bH C rec ops o env h) fun v h' =>
       cnd (eK m i v (bH C rec ops o env) dirty hs) (eI C rec nt ops m p0 os k (i + 1) c dirty (⟨i, bH C rec ops o env, v⟩ :: rd) hs (bG env o.dst v) h')
     | .makes => bnd (dQ C o (bN c p0) env h) fun v h' => eI C rec nt ops m p0 os k (i + 1) (c + 1) true rd hs (bG env o.dst v) h'
     | .acts => bnd (bH C rec ops o env h) fun v h' =>
       cnd (rd.all (fun q => gL m q.at_ i || bR (q.look h') q.v)) (eI C rec nt ops m p0 os k (i + 1) c false rd ((some i, h') :: hs) (bG env o.dst v) h')) = some r at hp
   cases hf : dD nt o.dst with
   | false => rw [hf] at hp; cases hp
   | true =>
    rw [hf] at hp
    dsimp only [cnd] at hp
    cases hc : bU C.P o.op with
    | pure =>
     have ha : jW C ops i = false := by unfold jW; rw [hi]; simp [hc]
     rw [hc] at hp
     obtain ⟨v, h1, h2, h3⟩ := cO hp
     have hh := (rX hc _ _ _ h2).1
     refine ⟨v, h1, c, dirty, rd, hs, rfl, fun _ => h2, (fun h => by cases h), h3, (by rw [hh]; exact hdirty), fun q hq => hq, by simp [ha], by simp [cG, hc], (fun h => by cases h), (fun h => by cases h)⟩
    | reads =>
     have ha : jW C ops i = false := by unfold jW; rw [hi]; simp [hc]
     rw [hc] at hp
     obtain ⟨v, h1, h2, h3⟩ := cO hp
     have hh := oV hc h2
     cases hall : eK m i v (bH C rec ops o env) dirty hs with
     | false => rw [hall] at h3; cases h3
     | true =>
      rw [hall] at h3
      refine ⟨v, h1, c, dirty, _, hs, rfl, fun _ => h2, (fun h => by cases h), h3, (by rw [hh]; exact hdirty), (fun q hq => by simp [hq]), by simp [ha], by simp [cG, hc], fun _ => ⟨?_, by simp⟩, (fun h => by cases h)⟩
      have hP : ∀ h, bR (bH C rec ops o env h) v = true → bH C rec ops o env h = some (v, h) := fun h hs => sX hc hs
      cases hd : dirty with
      | true => rw [hd] at hall; exact pC hP hs hall
      | false =>
       obtain ⟨j, rest, hcons⟩ := hdirty hd
       subst hcons
       rw [hd] at hall
       simp only [eK, cond_false, Bool.true_and] at hall
       refine ⟨by rw [hh] at h2; exact h2, ?_⟩
       cases j with
       | none => trivial
       | some j =>
        simp only at hall ⊢
        cases ho : gL m j i with
        | true => exact .inl rfl
        | false => rw [ho] at hall; exact .inr (pC hP rest hall)
    | makes =>
     have ha : jW C ops i = false := by unfold jW; rw [hi]; simp [hc]
     rw [hc] at hp
     obtain ⟨v, h1, h2, h3⟩ := cO hp
     exact ⟨v, h1, c + 1, true, rd, hs, rfl, (fun h => absurd rfl h), fun _ => h2, h3, (fun h => by cases h), fun q hq => hq, by simp [ha], by simp [cG, hc], (fun h => by cases h), (fun h => by cases h)⟩
    | acts =>
     have ha : jW C ops i = true := by unfold jW; rw [hi]; simp [hc]
     rw [hc] at hp
     obtain ⟨v, h1, h2, h3⟩ := cO hp
     cases hall : rd.all (fun q => gL m q.at_ i || bR (q.look h1) q.v) with
     | false => rw [hall] at h3; cases h3
     | true =>
      rw [hall] at h3
      refine ⟨v, h1, c, false, rd, _, rfl, fun _ => h2, (fun h => by cases h), h3, fun _ => ⟨_, _, rfl⟩, fun q hq => hq, by simp [ha], by simp [cG, hc], (fun h => by cases h), fun _ q hq => ?_⟩
      have := List.all_eq_true.1 hall q hq
      simpa using this
  obtain ⟨v, h1, c', dirty', rd', hs', hf, hst, hmk, hrest, hdirty', hrd, hhs, hcc, hR, hA⟩ := hstep
  obtain ⟨E', Hh', V', e1, e2, e3, e4⟩ := sU os (i + 1) c' dirty' rd' hs' _ h1 r hrest hl' hdirty'
  refine ⟨fun p => if p = i then env else E' p, fun p => if p = i then h else Hh' p, fun p => if p = i then v else V' p, by simp, by simp, ?_, ?_⟩
  ·simp only [List.length_cons]
   rw [if_neg (by omega), if_neg (by omega), show i + (os.length + 1) = i + 1 + os.length from by omega]
   exact e3
  ·intro p o' hp1 hp2 ho'
   by_cases hpi : p = i
   ·subst hpi
    rw [hi] at ho'
    cases ho'
    refine ⟨⟨hf, ?_, ?_, ?_, ?_, ?_⟩, ?_⟩
    ·intro hc
     simp only [if_true]
     rw [if_neg (by omega), e2]
     exact hst hc
    ·intro hc
     simp only [if_true, Nat.sub_self, List.take_zero, cG, Nat.add_zero]
     rw [if_neg (by omega), e2]
     exact hmk hc
    ·simp only [if_true]
     rw [if_neg (by omega), e1]
    ·intro hc
     simpa [iX] using (hR hc).1
    ·intro _ j oj hj1 hj2; omega
    ·intro hc q hq
     simp only [show p + 1 ≠ p from by omega, if_false, e2]
     exact hA hc q hq
   ·simp only [List.length_cons] at hp2
    obtain ⟨s, sa⟩ := e4 p o' (by omega) (by omega) ho'
    refine ⟨⟨s.fits, ?_, ?_, ?_, ?_, ?_⟩, ?_⟩
    ·intro hc; simp only [hpi, if_false, show p + 1 ≠ i from by omega]; exact s.step hc
    ·intro hc
     simp only [hpi, if_false, show p + 1 ≠ i from by omega]
     have := s.made hc
     rw [hcc] at this
     have e : c + cG C.P ((o :: os).take (p - i)) = c + cG C.P [o] + cG C.P (os.take (p - (i + 1))) := by
      rw [show p - i = (p - (i + 1)) + 1 from by omega, List.take_succ_cons]
      simp [cG, Nat.add_assoc]
     rw [e]
     exact this
    ·simp only [hpi, if_false, show p + 1 ≠ i from by omega]; exact s.env
    ·intro hc
     have := s.reads hc
     simp only [hpi, if_false]
     have e : iX C ops (fun p => if p = i then h else Hh' p) i (p - i) ++ hs = iX C ops Hh' (i + 1) (p - (i + 1)) ++ hs' := by
      rw [show p - i = (p - (i + 1)) + 1 from by omega, sW, hhs]
      rw [tD (Hh' := Hh') (p - (i + 1)) (fun q h1 h2 => by simp [show q ≠ i from by omega])]
      simp only [show i + 1 ≠ i from by omega, if_false, e2, List.append_assoc]
     rw [e]
     exact this
    ·intro hc j oj hj1 hj2 hoj hcj
     by_cases hji : j = i
     ·subst hji
      rw [hi] at hoj
      cases hoj
      simp only [if_true, show p + 1 ≠ j from by omega, if_false]
      exact sa hc ⟨j, bH C rec ops o env, v⟩ (hR hcj).2
     ·simp only [hji, if_false, show p + 1 ≠ i from by omega]
      exact s.acts hc j oj (by omega) hj2 hoj hcj
    ·intro hc q hq
     simp only [show p + 1 ≠ i from by omega, if_false]
     exact sa hc q (hrd q hq)
theorem dN (hd : eE C.P ops = true) {j : Nat} {y : Oper} (hy : ops[j]? = some y) :
  (∀ e ∈ y.after, Region.binds .any e = true → e.on < j) ∧ (bU C.P y.op = .makes → y.guard = none) ∧
  ∀ i x, i < j → ops[i]? = some x → gL (Region.before ops) i j = true ∨ (Oper.apart ops x y = true ∧ ¬ ((bU C.P x.op = .acts ∨ bU C.P x.op = .makes) ∧ bU C.P y.op = .acts)) := by
 unfold eE at hd
 have hj : j < ops.size := by
  rcases Nat.lt_or_ge j ops.size with h | h
  ·exact h
  ·simp [Array.getElem?_eq_none h] at hy
 have h1 := List.all_eq_true.1 hd j (by simpa using hj)
 simp only [hy, Bool.and_eq_true] at h1
 obtain ⟨⟨h2, hg⟩, h3⟩ := h1
 refine ⟨fun e he hb => ?_, fun hm => ?_, fun i x hij hx => ?_⟩
 ·have := (Array.all_eq_true_iff_forall_mem.1 h2) e he
  simp only [hb, Bool.not_true, Bool.false_or] at this
  exact Nat.le_of_ble_eq_true this
 ·cases hgd : y.guard with
  | none => rfl
  | some g => rw [hgd] at hg; simp [hm] at hg
 ·have := List.all_eq_true.1 h3 i (by simpa using hij)
  simp only [hx, Bool.or_eq_true, Bool.and_eq_true] at this
  rcases this with h | ⟨h, h'⟩
  ·exact .inl h
  ·refine .inr ⟨h, ?_⟩
   rintro ⟨a1, a2⟩
   rcases a1 with a1 | a1 <;> simp [a1, a2] at h'
def S (listed : Array Bool) (j : Nat) : Prop := listed.getD j false = true
def TS (ops : Array Oper) (V : Nat → DV) (env : aZ) (listed : Array Bool) : Nat → aZ
 | 0 => env
 | p + 1 => match ops[p]? with
  | some o => if listed.getD p false then bG (TS ops V env listed p) o.dst (V p) else TS ops V env listed p
  | none => TS ops V env listed p
theorem lT (env : aZ) (d : Option Tmp) (v : DV) (t : Nat) : bG env d v t = if d = some t then v else env t := by
 cases d with
 | none => simp [bG]
 | some d =>
  simp only [bG, bD]
  by_cases e : t = d
  ·subst e
   rw [if_pos rfl]
   have : Nat.beq t t = true := Nat.beq_refl t
   rw [this]; rfl
  ·rw [if_neg (fun h => e h.symm)]
   have : Nat.beq t d = false := by
    cases hb : Nat.beq t d with
    | false => rfl
    | true => exact absurd (Nat.eq_of_beq_eq_true hb) e
   rw [this]; rfl
theorem dAg {V : Nat → DV} {env : aZ} {listed : Array Bool} {t i : Nat} (hno : ∀ j o, i ≤ j → ops[j]? = some o → o.dst = some t → ¬ S listed j) :
  ∀ p, i ≤ p → TS ops V env listed p t = TS ops V env listed i t := by
 intro p
 induction p with
 | zero => intro h; have : i = 0 := by omega
           subst this; rfl
 | succ p ih =>
  intro h
  by_cases e : i = p + 1
  ·rw [e]
  ·have ih' := ih (by omega)
   cases ho : ops[p]? with
   | none => simp only [TS, ho]; exact ih'
   | some o =>
    simp only [TS, ho]
    split
    ·rename_i hl
     rw [lT]
     rw [if_neg (fun hd => hno p o (by omega) ho hd hl)]
     exact ih'
    ·exact ih'
theorem cHp {V : Nat → DV} {env : aZ} {listed : Array Bool} {E : Nat → aZ} (h0 : E 0 = env) {t i : Nat} (hE : ∀ p o, p < i → ops[p]? = some o → E (p + 1) = bG (E p) o.dst (V p))
  (hin : ∀ p, p < i → ∃ o, ops[p]? = some o) (hyes : ∀ j o, j < i → ops[j]? = some o → o.dst = some t → S listed j) :
  ∀ p, p ≤ i → TS ops V env listed p t = E p t := by
 intro p
 induction p with
 | zero => intro _; simp [TS, h0]
 | succ p ih =>
  intro h
  have ih' := ih (by omega)
  obtain ⟨o, ho⟩ := hin p (by omega)
  rw [hE p o (by omega) ho, lT]
  simp only [TS, ho]
  split
  ·rw [lT, ih']
  ·rename_i hl
   rw [if_neg (fun hd => hl (hyes p o (by omega) ho hd))]
   exact ih'
end
end Go.Dd

namespace Go.Dd
open Go.RowKit (Below)
theorem dJ : ∀ (n : Nat) (p : Pos), (bN n p).toNat = p.toNat + n
 | 0, p => rfl
 | n + 1, p => by simp only [bN]; rw [dJ n p.succ, eMv]; omega
theorem rK (k : Nat) (h : Hp) : (resv k h).next = bN k h.next ∧ (resv k h).bl = h.bl := by
 cases k <;> exact ⟨rfl, rfl⟩
section
variable {G G' : Gd} {ρ : cN} {h : Hp} {w : World}
theorem nR {h' : Hp} (e : h'.bl = h.bl) {b : Pos} {a : Addr} : Claims ρ h' b a ↔ Claims ρ h b a := by
 unfold Claims; rw [e]
theorem aDz {h' : Hp} (e : h'.bl = h.bl) {b : Pos} : isRo h' b ↔ isRo h b := by
 unfold isRo; rw [e]
theorem HR.weak (H : HR G' ρ h w) (hB : G'.B = G.B) (hX : ∀ k, G.X k → G'.X k) (hN : G.N ≤ G'.N) (hW : G'.W = G.W) : HR G ρ h w where
 gl := fun k hk => by rw [← hW]; exact H.gl k (by rw [hB]; exact hk)
 sz := ⟨by rw [← hB]; exact H.sz.1, fun k hk => H.sz.2 k (hX k hk)⟩
 nx := Nat.le_trans hN H.nx
 ro := fun b a h1 h2 => by rw [← hB]; exact H.ro b a h1 h2
 dom := H.dom
 lt := H.lt
 cell := H.cell
 spare := H.spare
 free := fun b a h1 h2 => by
  obtain ⟨h3, h4, h5⟩ := H.free b a h1 h2
  exact ⟨h3, by rw [← hB]; exact h4, fun hk => h5 (hX _ hk)⟩
 inj := H.inj
 ex := H.ex
 grone := H.grone
 itr := fun b o L h0 h1 h2 => by
  obtain ⟨⟨h3, h4⟩, h5⟩ := H.itr b o L h0 h1 h2
  exact ⟨⟨by rw [← hB]; exact h3, fun hk => h4 (hX _ hk)⟩, h5⟩
 itj := H.itj
theorem HR.reserve (H : HR G ρ h w) (k : Nat) : HR ⟨G.B, G.X, (resv k h).next.toNat, G.W, G.ok⟩ ρ (resv k h) w := by
 obtain ⟨e1, e2⟩ := rK k h
 exact {
  gl := H.gl
  sz := H.sz
  nx := Nat.le_refl _
  ro := fun b a h1 h2 => H.ro b a ((nR e2).1 h1) ((aDz e2).1 h2)
  dom := fun b o h1 => H.dom b o (by rwa [e2] at h1)
  lt := fun b L h1 => by rw [e1, dJ]; have := H.lt b L h1; omega
  cell := fun b k l L i v h1 => H.cell b k l L i v (by rwa [e2] at h1)
  spare := fun b l L es j h1 => H.spare b l L es j (by rwa [e2] at h1)
  free := fun b a h1 h2 => H.free b a ((nR e2).1 h1) (fun h => h2 ((aDz e2).2 h))
  inj := fun b b' a h1 h2 h3 => H.inj b b' a ((nR e2).1 h1) ((nR e2).1 h2) (fun h => h3 ((aDz e2).2 h))
  ex := fun b l L h1 => H.ex b l L (by rwa [e2] at h1)
  grone := fun b es l i v h1 => H.grone b es l i v (by rwa [e2] at h1)
  itr := fun b o L h0 h1 => H.itr b o L h0 (by rwa [e2] at h1)
  itj := fun b o b' o' L L' h0 h0' h1 h2 => H.itj b o b' o' L L' h0 h0' (by rwa [e2] at h1) (by rwa [e2] at h2) }
theorem HR.early (H : HR G ρ h w) {b : Pos} (hb : ρ b = none) (hlt : b.toNat < h.next.toNat) (x0 : Obj) :
  HR ⟨G.B, fun k => G.X k ∨ k = w.heap.size, G.N, G.W, G.ok⟩ (mH ρ b ⟨w.heap.size, 0, 0, none⟩) h (w.alloc x0) := by
 have hext : Ext ρ (mH ρ b ⟨w.heap.size, 0, 0, none⟩) := by
  intro x L hx
  by_cases e : x = b
  ·subst e; rw [hb] at hx; cases hx
  ·rw [aV _ _ e]; exact hx
 have hrow : h.bl.get b = none := by
  cases hr : h.bl.get b with
  | none => rfl
  | some o => obtain ⟨L, hL⟩ := H.dom b o hr; rw [hb] at hL; cases hL
 have hne : ∀ x o, h.bl.get x = some o → x ≠ b := fun x o hx e => by subst e; rw [hrow] at hx; cases hx
 have hcl : ∀ {x a}, Claims (mH ρ b ⟨w.heap.size, 0, 0, none⟩) h x a → Claims ρ h x a := by
  rintro x a ⟨k, l, L, h1, h2, h3⟩
  rw [aV _ _ (hne x _ h1)] at h2
  exact ⟨k, l, L, h1, h2, h3⟩
 have hblt : ∀ {x a}, Claims ρ h x a → a.block < w.heap.size := fun hc => by
  obtain ⟨v, hv⟩ := H.lt_cell hc
  exact dY hv
 refine { gl := fun k hk => by rw [Below.heap_alloc _ _ _ (Nat.lt_of_lt_of_le hk H.sz.1)]; exact H.gl k hk, sz := ⟨by have := H.sz.1; simp; omega, fun k hk => ?_⟩, nx := H.nx, ro := fun x a h1 h2 => H.ro x a (hcl h1) h2, dom := ?_, lt := ?_, cell := ?_, spare := ?_, free := ?_, inj := ?_, ex := ?_, grone := H.grone, itr := ?_, itj := ?_ }
 ·rcases hk with hk | hk
  ·have := H.sz.2 k hk; simp; omega
  ·simp; omega
 ·intro x o hx
  obtain ⟨L, hL⟩ := H.dom x o hx
  exact ⟨L, hext _ _ hL⟩
 ·intro x L hx
  by_cases e : x = b
  ·subst e; exact hlt
  ·rw [aV _ _ e] at hx; exact H.lt x L hx
 ·intro x k l L i v hx hL hi hv
  rw [aV _ _ (hne x _ hx)] at hL
  obtain ⟨v', h5, h6⟩ := H.cell x k l L i v hx hL hi hv
  exact ⟨v', by rw [dM (dY h5)]; exact h5, h6.mono hext⟩
 ·intro x l L es j hx hL hj
  rw [aV _ _ (hne x _ hx)] at hL
  obtain ⟨v', h5⟩ := H.spare x l L es j hx hL hj
  exact ⟨v', by rw [dM (dY h5)]; exact h5⟩
 ·intro x a hc hr
  have hlt' := hblt (hcl hc)
  obtain ⟨h3, h4, h5⟩ := H.free x a (hcl hc) hr
  refine ⟨by rw [fY (by omega)]; exact h3, h4, ?_⟩
  rintro (hk | hk)
  ·exact h5 hk
  ·omega
 ·intro x x' a hc hc' hr
  exact H.inj x x' a (hcl hc) (hcl hc') hr
 ·intro x l L hx hL
  have : x ≠ b := by rcases hx with hx | hx <;> exact hne x _ hx
  rw [aV _ _ this] at hL
  exact H.ex x l L hx hL
 ·intro x o L h0 hx hL
  rw [aV _ _ (hne x _ hx)] at hL
  obtain ⟨⟨h1, h1'⟩, h2, bs, h3, h4⟩ := H.itr x o L h0 hx hL
  have hlt' : L.bl < w.heap.size := by
   rcases Nat.lt_or_ge L.bl w.heap.size with h | h
   ·exact h
   ·simp [Array.getElem?_eq_none h] at h3
  refine ⟨⟨h1, ?_⟩, h2, bs, by rw [Below.heap_alloc _ _ _ hlt']; exact h3, h4.mono hext⟩
  rintro (hk | hk)
  ·exact h1' hk
  ·omega
 ·intro x o x' o' L L' h0 h0' hx hx' hL hL' he
  rw [aV _ _ (hne x _ hx)] at hL
  rw [aV _ _ (hne x' _ hx')] at hL'
  exact H.itj x o x' o' L L' h0 h0' hx hx' hL hL' he
theorem HR.adopt (H : HR G' ρ h w) (hB : G'.B = G.B) (hX : ∀ k, G.X k → G'.X k) (hN : G.N ≤ G'.N) (hW : G'.W = G.W) {b : Pos} {r : Nat} {arr : Array Value} {t : TypeId} {cs : List DV}
  (hb : ρ b = some ⟨r, 0, 0, none⟩) (hr : w.heap[r]? = some (.cells arr t (0, 0))) (hcs : VRs ρ cs arr.toList) (hBr : G.B ≤ r) (hXr : ¬ G.X r) (hXr' : G'.X r) :
  HR G ρ ⟨h.next, Tr.set (.row .ex cs) b h.bl⟩ w := by
 have hcell : ∀ i, w.cell? (fN ⟨r, 0, 0, none⟩ i) = arr[i]? := fun i => by simp [World.cell?, fN, hr]
 have hfro : ∀ i, w.frozen? (fN ⟨r, 0, 0, none⟩ i) = false := fun i => by simp [World.frozen?, fN, hr]
 have hnew : ∀ {a}, Claims ρ ⟨h.next, Tr.set (.row .ex cs) b h.bl⟩ b a → ∃ i, a = fN ⟨r, 0, 0, none⟩ i := by
  rintro a ⟨k, l, L, h1, h2, h3⟩
  simp only [eMs, bD, Ob.row.injEq] at h1
  obtain ⟨rfl, rfl⟩ := h1
  rw [hb] at h2; cases h2
  rcases h3 with ⟨i, v, hi, hv, rfl⟩ | ⟨es, j, h4, _, _⟩
  ·exact ⟨i, rfl⟩
  ·cases h4
 have hold : ∀ {x a}, x ≠ b → Claims ρ ⟨h.next, Tr.set (.row .ex cs) b h.bl⟩ x a → Claims ρ h x a := by
  rintro x a hx ⟨k, l, L, h1, h2, h3⟩
  simp only [eMr _ _ _ _ hx] at h1
  exact ⟨k, l, L, h1, h2, h3⟩
 have hroo : ∀ x, x ≠ b → (isRo ⟨h.next, Tr.set (.row .ex cs) b h.bl⟩ x ↔ isRo h x) := fun x hx => by simp [isRo, eMr _ _ _ _ hx]
 have hapart : ∀ {x a}, Claims ρ h x a → a.block ≠ r := by
  intro x a hc e
  by_cases hro : isRo h x
  ·have := H.ro x a hc hro
   omega
  ·exact (H.free x a hc hro).2.2 (e ▸ hXr')
 refine { gl := fun k hk => by rw [← hW]; exact H.gl k (by rw [hB]; exact hk), sz := ⟨by rw [← hB]; exact H.sz.1, fun k hk => H.sz.2 k (hX k hk)⟩, nx := Nat.le_trans hN H.nx, ro := ?_, dom := ?_, lt := H.lt, cell := ?_, spare := ?_, free := ?_, inj := ?_, ex := ?_, grone := ?_, itr := ?_, itj := ?_ }
 ·intro x a hc hro
  by_cases e : x = b
  ·subst e
   obtain ⟨l0, h0⟩ := hro
   simp [eMs] at h0
  ·rw [← hB]; exact H.ro x a (hold e hc) ((hroo x e).1 hro)
 ·intro x o hx
  by_cases e : x = b
  ·subst e; exact ⟨_, hb⟩
  ·simp only [eMr _ _ _ _ e] at hx; exact H.dom x o hx
 ·intro x k l L i v hx hL hi hv
  by_cases e : x = b
  ·subst e
   simp only [eMs, bD, Ob.row.injEq] at hx
   obtain ⟨rfl, rfl⟩ := hx
   rw [hb] at hL; cases hL
   obtain ⟨v', h5, h6⟩ := hcs.get i v hi
   exact ⟨v', by rw [hcell]; simpa using h5, h6⟩
  ·simp only [eMr _ _ _ _ e] at hx
   exact H.cell x k l L i v hx hL hi hv
 ·intro x l L es j hx hL hj
  by_cases e : x = b
  ·subst e; simp [eMs] at hx
  ·simp only [eMr _ _ _ _ e] at hx
   exact H.spare x l L es j hx hL hj
 ·intro x a hc hro
  by_cases e : x = b
  ·subst e
   obtain ⟨i, rfl⟩ := hnew hc
   exact ⟨hfro i, hBr, hXr⟩
  ·obtain ⟨h3, h4, h5⟩ := H.free x a (hold e hc) (fun h => hro ((hroo x e).2 h))
   exact ⟨h3, by rw [← hB]; exact h4, fun hk => h5 (hX _ hk)⟩
 ·intro x x' a hc hc' hro
  by_cases e : x = b
  ·subst e
   by_cases e' : x' = x
   ·exact e'.symm
   ·obtain ⟨i, rfl⟩ := hnew hc
    exact absurd rfl (hapart (hold e' hc'))
  ·by_cases e' : x' = b
   ·subst e'
    obtain ⟨i, rfl⟩ := hnew hc'
    exact absurd rfl (hapart (hold e hc))
   ·exact H.inj x x' a (hold e hc) (hold e' hc') (fun h => hro ((hroo x e).2 h))
 ·intro x l L hx hL
  by_cases e : x = b
  ·subst e
   rw [hb] at hL; cases hL
   rfl
  ·simp only [eMr _ _ _ _ e] at hx
   exact H.ex x l L hx hL
 ·intro x es l i v hx hi
  by_cases e : x = b
  ·subst e; simp [eMs] at hx
  ·simp only [eMr _ _ _ _ e] at hx
   exact H.grone x es l i v hx hi
 ·intro x o L h0 hx hL
  by_cases e : x = b
  ·subst e; simp [eMs] at hx; subst hx; cases h0
  ·simp only [eMr _ _ _ _ e] at hx
   obtain ⟨⟨h1, h1'⟩, h2⟩ := H.itr x o L h0 hx hL
   exact ⟨⟨by rw [← hB]; exact h1, fun hk => h1' (hX _ hk)⟩, h2⟩
 ·intro x o x' o' L L' h0 h0' hx hx' hL hL' he
  by_cases e : x = b
  ·subst e; simp [eMs] at hx; subst hx; cases h0
  ·by_cases e' : x' = b
   ·subst e'; simp [eMs] at hx'; subst hx'; cases h0'
   ·simp only [eMr _ _ _ _ e] at hx
    simp only [eMr _ _ _ _ e'] at hx'
    exact H.itj x o x' o' L L' h0 h0' hx hx' hL hL' he
theorem HR.adoptMp (H : HR G' ρ h w) (hB : G'.B = G.B) (hX : ∀ k, G.X k → G'.X k) (hN : G.N ≤ G'.N) (hW : G'.W = G.W) {b : Pos} {r : Nat}
  (hb : ρ b = some ⟨r, 0, 0, none⟩) (hr : w.heap[r]? = some (.map #[] 0)) (hBr : G.B ≤ r) (hXr : ¬ G.X r) (hXr' : G'.X r) :
  HR G ρ ⟨h.next, Tr.set (.mp []) b h.bl⟩ w := by
 have hnew : ∀ {a}, ¬ Claims ρ ⟨h.next, Tr.set (.mp []) b h.bl⟩ b a := by
  rintro a ⟨k, l, L, h1, h2, h3⟩
  simp only [eMs, bD] at h1
  cases h1
 have hold : ∀ {x a}, x ≠ b → Claims ρ ⟨h.next, Tr.set (.mp []) b h.bl⟩ x a → Claims ρ h x a := by
  rintro x a hx ⟨k, l, L, h1, h2, h3⟩
  simp only [eMr _ _ _ _ hx] at h1
  exact ⟨k, l, L, h1, h2, h3⟩
 have hroo : ∀ x, x ≠ b → (isRo ⟨h.next, Tr.set (.mp []) b h.bl⟩ x ↔ isRo h x) := fun x hx => by simp [isRo, eMr _ _ _ _ hx]
 refine { gl := fun k hk => by rw [← hW]; exact H.gl k (by rw [hB]; exact hk), sz := ⟨by rw [← hB]; exact H.sz.1, fun k hk => H.sz.2 k (hX k hk)⟩, nx := Nat.le_trans hN H.nx, ro := ?_, dom := ?_, lt := H.lt, cell := ?_, spare := ?_, free := ?_, inj := ?_, ex := ?_, grone := ?_, itr := ?_, itj := ?_ }
 ·intro x a hc hro
  by_cases e : x = b
  ·subst e; exact absurd hc hnew
  ·rw [← hB]; exact H.ro x a (hold e hc) ((hroo x e).1 hro)
 ·intro x o hx
  by_cases e : x = b
  ·subst e; exact ⟨_, hb⟩
  ·simp only [eMr _ _ _ _ e] at hx; exact H.dom x o hx
 ·intro x k l L i v hx hL hi hv
  by_cases e : x = b
  ·subst e; simp [eMs] at hx
  ·simp only [eMr _ _ _ _ e] at hx
   exact H.cell x k l L i v hx hL hi hv
 ·intro x l L es j hx hL hj
  by_cases e : x = b
  ·subst e; simp [eMs] at hx
  ·simp only [eMr _ _ _ _ e] at hx
   exact H.spare x l L es j hx hL hj
 ·intro x a hc hro
  by_cases e : x = b
  ·subst e; exact absurd hc hnew
  ·obtain ⟨h3, h4, h5⟩ := H.free x a (hold e hc) (fun h => hro ((hroo x e).2 h))
   exact ⟨h3, by rw [← hB]; exact h4, fun hk => h5 (hX _ hk)⟩
 ·intro x x' a hc hc' hro
  by_cases e : x = b
  ·subst e; exact absurd hc hnew
  ·by_cases e' : x' = b
   ·subst e'; exact absurd hc' hnew
   ·exact H.inj x x' a (hold e hc) (hold e' hc') (fun h => hro ((hroo x e).2 h))
 ·intro x l L hx hL
  by_cases e : x = b
  ·subst e; simp [eMs] at hx
  ·simp only [eMr _ _ _ _ e] at hx
   exact H.ex x l L hx hL
 ·intro x es l i v hx hi
  by_cases e : x = b
  ·subst e; simp [eMs] at hx
  ·simp only [eMr _ _ _ _ e] at hx
   exact H.grone x es l i v hx hi
 ·intro x o L h0 hx hL
  by_cases e : x = b
  ·subst e
   simp only [eMs, bD] at hx
   subst hx
   rw [hb] at hL
   cases hL
   exact ⟨⟨hBr, hXr⟩, ⟨rfl, rfl⟩, _, hr, ⟨#[], 0, rfl, .nil, .nil, rfl, by simp⟩⟩
  ·simp only [eMr _ _ _ _ e] at hx
   obtain ⟨⟨h1, h1'⟩, h2⟩ := H.itr x o L h0 hx hL
   exact ⟨⟨by rw [← hB]; exact h1, fun hk => h1' (hX _ hk)⟩, h2⟩
 ·intro x o x' o' L L' h0 h0' hx hx' hL hL' he
  by_cases e : x = b
  ·by_cases e' : x' = b
   ·rw [e, e']
   ·subst e
    rw [hb] at hL
    cases hL
    simp only [eMr _ _ _ _ e'] at hx'
    obtain ⟨⟨_, h1'⟩, _⟩ := H.itr x' o' L' h0' hx' hL'
    exact absurd (he ▸ hXr') h1'
  ·by_cases e' : x' = b
   ·subst e'
    rw [hb] at hL'
    cases hL'
    simp only [eMr _ _ _ _ e] at hx
    obtain ⟨⟨_, h1'⟩, _⟩ := H.itr x o L h0 hx hL
    exact absurd (he ▸ hXr') h1'
   ·simp only [eMr _ _ _ _ e] at hx
    simp only [eMr _ _ _ _ e'] at hx'
    exact H.itj x o x' o' L L' h0 h0' hx hx' hL hL' he
def MO (ρ : cN) (ob : Ob) (x : Obj) : Prop :=
 (∃ (cs : List DV) (arr : Array Value) (t : TypeId), ob = .row .ex cs ∧ x = .cells arr t (0, 0) ∧ VRs ρ cs arr.toList) ∨ (ob = .mp [] ∧ x = .map #[] 0)
theorem MO.mono {ob : Ob} {x : Obj} {ρ' : cN} (h : MO ρ ob x) (e : Ext ρ ρ') : MO ρ' ob x := by
 rcases h with ⟨cs, arr, t, h1, h2, h3⟩ | h
 ·exact .inl ⟨cs, arr, t, h1, h2, h3.mono e⟩
 ·exact .inr h
theorem eNz (H : HR G' ρ h w) (hB : G'.B = G.B) (hX : ∀ k, G.X k → G'.X k) (hN : G.N ≤ G'.N) (hW : G'.W = G.W) {b : Pos} {r : Nat} {ob : Ob} {x : Obj}
  (hb : ρ b = some ⟨r, 0, 0, none⟩) (hr : w.heap[r]? = some x) (hm : MO ρ ob x) (hBr : G.B ≤ r) (hXr : ¬ G.X r) (hXr' : G'.X r) :
  HR G ρ ⟨h.next, Tr.set ob b h.bl⟩ w := by
 rcases hm with ⟨cs, arr, t, rfl, rfl, h3⟩ | ⟨rfl, rfl⟩
 ·exact H.adopt hB hX hN hW hb hr h3 hBr hXr hXr'
 ·exact H.adoptMp hB hX hN hW hb hr hBr hXr hXr'
end
section
variable {C : Cfg} {ρ : cN} {w : World} {h h1 : Hp} {v : DV} {a : Act} {env : aZ}
theorem dNb (he : EnvR ρ env a) {o : Oper} {b : Pos} (hp : dQ C o b env h = some (v, h1)) (hb : ρ b = none) :
  ∃ (ob : Ob) (x0 : Obj) (v' : Value), (execOp a.eval o).run C.P w = .ok (.value v') (w.alloc x0) ∧ MO ρ ob x0 ∧
   h1 = ⟨h.next, Tr.set ob b h.bl⟩ ∧ VR (mH ρ b ⟨w.heap.size, 0, 0, none⟩) v v' := by
 unfold dQ at hp
 split at hp <;> (try (cases hp; done))
 ·rename_i t ho
  split at hp <;> (try (cases hp; done))
  rename_i i hi
  split at hp <;> (try (cases hp; done))
  rename_i z hz
  simp only [iQ, bD, bM] at hp
  obtain ⟨rfl, rfl⟩ := hp
  refine ⟨_, .cells z.cells t, .pointer (some ⟨w.heap.size, 0, none⟩), ?_, .inl ⟨_, _, _, rfl, rfl, eNv ρ z⟩, rfl, .p _ 0 ⟨w.heap.size, 0, 0, none⟩ (cB _ _ _)⟩
  unfold execOp
  simp only [ho, Instr.alloc, Sem.run_bind, rZ hi hz, Result.andThen_ok]
  simp [newVar, newRow]
 ·rename_i t x ho
  unfold xJ at hp
  split at hp <;> (try (cases hp; done))
  rename_i cs hc
  simp only [iQ, bD, bM] at hp
  obtain ⟨rfl, rfl⟩ := hp
  refine ⟨.row .ex cs, .cells (a.eval x).cells t, .pointer (some ⟨w.heap.size, 0, none⟩), ?_, .inl ⟨_, _, _, rfl, rfl, (bE he x).cells hc⟩, rfl, .p _ 0 ⟨w.heap.size, 0, 0, none⟩ (cB _ _ _)⟩
  unfold execOp
  simp [ho, Instr.box, newVar, newRow]
 ·rename_i t n ps ho
  split at hp <;> (try (cases hp; done))
  rename_i e ht
  split at hp <;> (try (cases hp; done))
  rename_i i hi
  split at hp <;> (try (cases hp; done))
  rename_i z hz
  split at hp <;> (try (cases hp; done))
  rename_i hc
  unfold bB at hp
  split at hp <;> (try (cases hp; done))
  rename_i cs hf
  simp only [bD, bM] at hp
  obtain ⟨rfl, rfl⟩ := hp
  obtain ⟨out', h3, h4⟩ := nG (P := C.P) (w := w) (ρ := ρ) (bE he) ht hi hz hc.1 hc.2.1 hc.2.2 hf
  refine ⟨.row .ex cs, .cells out' e, .slice (some ⟨w.heap.size, 0, none⟩) n n, ?_, .inl ⟨_, _, _, rfl, rfl, h4⟩, rfl, .l _ 0 n n ⟨w.heap.size, 0, 0, none⟩ (cB _ _ _)⟩
  unfold execOp
  simp only [ho, Sem.run_bind]
  rw [h3]
  simp
 ·rename_i t ho
  simp only [jO, bD, bM] at hp
  obtain ⟨rfl, rfl⟩ := hp
  refine ⟨.mp [], .map #[] 0, .map (some w.heap.size), ?_, .inr ⟨rfl, rfl⟩, rfl, .m _ ⟨w.heap.size, 0, 0, none⟩ (cB _ _ _)⟩
  unfold execOp
  simp only [ho, Instr.makeMap, Sem.run_bind, Sem.run_pure, Result.andThen_ok, run_newObj]
  rfl
end
end Go.Dd

