/- Dd, part A: a deterministic semantics over the model's Code: values, heap, operations, denotation. Definitions only. -/
import Derived.Orders
import Derived.Below
set_option linter.unusedVariables false
namespace Go.Dd
noncomputable section

inductive Pos where
  | h
  | o (p : Pos)
  | i (p : Pos)
  deriving DecidableEq

def Pos.toNat : Pos → Nat
  | .h => 1
  | .o p => 2 * p.toNat
  | .i p => 2 * p.toNat + 1

noncomputable def Pos.succ (p : Pos) : Pos := Pos.rec (motive := fun _ => Pos) (.o .h) (fun p _ => .i p) (fun _ ih => .o ih) p

theorem Pos.succ_h : Pos.h.succ = .o .h := rfl
theorem Pos.succ_o (p : Pos) : (Pos.o p).succ = .i p := rfl
theorem Pos.succ_i (p : Pos) : (Pos.i p).succ = .o p.succ := rfl

inductive Tr (α : Type) where
  | e
  | n (l : Tr α) (v : Option α) (r : Tr α)

noncomputable def Tr.get {α : Type} (t : Tr α) : Pos → Option α :=
  Tr.rec (motive := fun _ => Pos → Option α) (fun _ => none)
    (fun _ v _ ihl ihr p => Pos.rec (motive := fun _ => Option α) v (fun q _ => ihl q) (fun q _ => ihr q) p) t

noncomputable def Tr.set {α : Type} (x : α) (p : Pos) : Tr α → Tr α :=
  Pos.rec (motive := fun _ => Tr α → Tr α)
    (fun t => Tr.rec (motive := fun _ => Tr α) (.n .e (some x) .e) (fun l _ r _ _ => .n l (some x) r) t)
    (fun _ ih t => Tr.rec (motive := fun _ => Tr α) (.n (ih .e) none .e) (fun l v r _ _ => .n (ih l) v r) t)
    (fun _ ih t => Tr.rec (motive := fun _ => Tr α) (.n .e none (ih .e)) (fun l v r _ _ => .n l v (ih r)) t) p

theorem Tr.get_e' {α : Type} (p : Pos) : (Tr.e : Tr α).get p = none := rfl
theorem Tr.get_h {α : Type} (l : Tr α) (v : Option α) (r : Tr α) : (Tr.n l v r).get .h = v := rfl
theorem Tr.get_o {α : Type} (l : Tr α) (v : Option α) (r : Tr α) (p : Pos) : (Tr.n l v r).get (.o p) = l.get p := rfl
theorem Tr.get_i {α : Type} (l : Tr α) (v : Option α) (r : Tr α) (p : Pos) : (Tr.n l v r).get (.i p) = r.get p := rfl
theorem Tr.set_he {α : Type} (x : α) : Tr.set x .h .e = .n .e (some x) .e := rfl
theorem Tr.set_hn {α : Type} (x : α) (l : Tr α) (v : Option α) (r : Tr α) : Tr.set x .h (.n l v r) = .n l (some x) r := rfl
theorem Tr.set_oe {α : Type} (x : α) (p : Pos) : Tr.set x (.o p) .e = .n (Tr.set x p .e) none .e := rfl
theorem Tr.set_on {α : Type} (x : α) (p : Pos) (l : Tr α) (v : Option α) (r : Tr α) : Tr.set x (.o p) (.n l v r) = .n (Tr.set x p l) v r := rfl
theorem Tr.set_ie {α : Type} (x : α) (p : Pos) : Tr.set x (.i p) .e = .n .e none (Tr.set x p .e) := rfl
theorem Tr.set_in {α : Type} (x : α) (p : Pos) (l : Tr α) (v : Option α) (r : Tr α) : Tr.set x (.i p) (.n l v r) = .n l v (Tr.set x p r) := rfl

/-- A value: 'u' is one of which nothing is known. -/
inductive DV where
  | u
  | b (x : Bool)
  | i (k : IntKind) (n : Int)
  | s (l : List Nat)
  | p0
  | p (b : Pos) (o : Nat)
  | l0
  | l (b : Pos) (o len cap : Nat)
  | m0
  | m (b : Pos)
  | f0
  | f (g : FuncId) (first cap : List DV)
  | n0
  | c (t : TypeId) (v : DV)
  | a (cs : List DV)
  | t (vs : List DV)

/-- ro: read only; ex: its capacity is what it is; gr: made by append, its spare capacity is not known; sp: like it, and taken further by another row. -/
inductive Kind where
  | ro
  | ex
  | gr (es : Nat)
  | sp
  deriving DecidableEq

inductive Ob where
  | row (k : Kind) (l : List DV)
  | it (s : List Nat) (pos : Nat)

structure Hp where
  next : Pos
  bl : Tr Ob

abbrev Res := Option (DV × Hp)
abbrev Env := Nat → DV
abbrev K := Env → Hp → Res

def DV.one : DV → Bool
  | .u | .a _ | .t _ => false
  | _ => true

def undefD : DV := .t []

/-- The cells of a value; none: it is not known. -/
def cellsD : DV → Option (List DV)
  | .u => none
  | .t _ => none
  | .a cs => some cs
  | v => some [v]

def cv : Value → DV
  | .bool x => .b x
  | .int k n => .i k n
  | .string s => .s (s.data.toList.map (·.toNat))
  | .pointer none => .p0
  | .slice none 0 0 => .l0
  | .map none => .m0
  | .nilFunc => .f0
  | .nilIface => .n0
  | _ => .u

def zsD (v : Value) : List DV := v.cells.toList.map cv

def Hp.new (h : Hp) (o : Ob) : Pos × Hp := (h.next, ⟨h.next.succ, Tr.set o h.next h.bl⟩)

/-! ### The primitives -/

def pNew (cs : List DV) (h : Hp) : Res := some (.p h.next 0, ⟨h.next.succ, Tr.set (.row .ex cs) h.next h.bl⟩)

/-- The same under a name that was kept for it. -/
def pNewAt (b : Pos) (cs : List DV) (h : Hp) : Res := some (.p b 0, ⟨h.next, Tr.set (.row .ex cs) b h.bl⟩)

def pBoxAt (b : Pos) (v : DV) (h : Hp) : Res :=
  match cellsD v with
  | some cs => pNewAt b cs h
  | none => none

def pBox (v : DV) (h : Hp) : Res :=
  match cellsD v with
  | some cs => pNew cs h
  | none => none

def takeD : Nat → List DV → Option (List DV)
  | 0, _ => some []
  | n + 1, x :: xs => if x.one then (takeD n xs).map (x :: ·) else none
  | _ + 1, [] => none

def rowOf (b : Pos) (h : Hp) : Option (List DV) :=
  match h.bl.get b with
  | some (.row _ l) => some l
  | _ => none

def cellD (b : Pos) (o : Nat) (h : Hp) : Option DV :=
  match rowOf b h with
  | some l => match l[o]? with
    | some v => if v.one then some v else none
    | none => none
  | none => none

def cellsAt (b : Pos) (o n : Nat) (h : Hp) : Option (List DV) :=
  match rowOf b h with
  | some l => takeD n (l.drop o)
  | none => none

def pLoad1 (x : DV) (h : Hp) : Res :=
  match x with
  | .p b o => match cellD b o h with
    | some v => some (v, h)
    | none => none
  | _ => none

def pLoadA (n : Nat) (x : DV) (h : Hp) : Res :=
  match x with
  | .p b o => match cellsAt b o n h with
    | some cs => some (.a cs, h)
    | none => none
  | _ => none

/-- Overwrite cells from a place on; each must be known and there. -/
def putD : List DV → List DV → Option (List DV)
  | l, [] => some l
  | x :: l, v :: vs => if x.one && v.one then (putD l vs).map (v :: ·) else none
  | [], _ :: _ => none

def putAt : Nat → List DV → List DV → Option (List DV)
  | 0, l, vs => putD l vs
  | n + 1, x :: l, vs => (putAt n l vs).map (x :: ·)
  | _ + 1, [], vs => if vs.isEmpty then some [] else none

def Kind.writable : Kind → Bool
  | .ro => false
  | _ => true

def storeAtD (b : Pos) (o : Nat) (vs : List DV) (h : Hp) : Option Hp :=
  match h.bl.get b with
  | some (.row k l) => if k.writable then (match putAt o l vs with
    | some l' => some ⟨h.next, Tr.set (.row k l') b h.bl⟩
    | none => none) else none
  | _ => none

def pStore (n : Nat) (x v : DV) (h : Hp) : Res :=
  match x, cellsD v with
  | .p b o, some cs => if cs.length = n then (match storeAtD b o cs h with
    | some h' => some (undefD, h')
    | none => none) else none
  | _, _ => none

def pNil (x : DV) (h : Hp) : Res :=
  match x with
  | .p b o => some (.p b o, h)
  | .f g a c => some (.f g a c, h)
  | .c t v => some (.c t v, h)
  | _ => none

def lessD : List Nat → List Nat → Bool
  | _, [] => false
  | [], _ :: _ => true
  | a :: x, b :: y => Nat.blt a b || (Nat.beq a b && lessD x y)

def eqD : List Nat → List Nat → Bool
  | [], [] => true
  | a :: x, b :: y => Nat.beq a b && eqD x y
  | _, _ => false

def intBin (op : BinOp) (k : IntKind) (a b : Int) : Option DV :=
  match op with
  | .add => some (.i k (k.wrap (a + b)))
  | .sub => some (.i k (k.wrap (a - b)))
  | .mul => some (.i k (k.wrap (a * b)))
  | .quo => if b = 0 then none else some (.i k (k.wrap (a.tdiv b)))
  | .rem => if b = 0 then none else some (.i k (a.tmod b))
  | .eql => some (.b (a == b))
  | .neq => some (.b (a != b))
  | .lss => some (.b (a < b))
  | .leq => some (.b (a ≤ b))
  | .gtr => some (.b (a > b))
  | .geq => some (.b (a ≥ b))
  | .and => some (.i k (k.wrap ((BitVec.ofInt k.bits a &&& BitVec.ofInt k.bits b).toNat)))
  | .or => some (.i k (k.wrap ((BitVec.ofInt k.bits a ||| BitVec.ofInt k.bits b).toNat)))
  | .xor => some (.i k (k.wrap ((BitVec.ofInt k.bits a ^^^ BitVec.ofInt k.bits b).toNat)))
  | _ => none

def strBin (op : BinOp) (a b : List Nat) : Option DV :=
  match op with
  | .add => if ((a.length + b.length : Nat) : Int) > IntKind.i64.max then none else some (.s (a ++ b))
  | .eql => some (.b (eqD a b))
  | .neq => some (.b (!eqD a b))
  | .lss => some (.b (lessD a b))
  | .leq => some (.b (lessD a b || eqD a b))
  | .gtr => some (.b (!(lessD a b || eqD a b)))
  | .geq => some (.b (!lessD a b))
  | _ => none

/-- Whether two values are one: what is compared with nil, and bools. -/
def eqNil (d : TypeDesc) (x y : DV) : Option Bool :=
  match d, x, y with
  | .bool, .b a, .b b => some (a == b)
  | .pointer _, .p0, .p0 => some true
  | .pointer _, .p0, .p _ _ => some false
  | .pointer _, .p _ _, .p0 => some false
  | .slice _, .l0, .l0 => some true
  | .slice _, .l0, .l _ _ _ _ => some false
  | .slice _, .l _ _ _ _, .l0 => some false
  | .func _ _ _, .f0, .f0 => some true
  | .func _ _ _, .f0, .f _ _ _ => some false
  | .func _ _ _, .f _ _ _, .f0 => some false
  | .map _ _, .m0, .m0 => some true
  | .map _ _, .m0, .m _ => some false
  | .map _ _, .m _, .m0 => some false
  | _, _, _ => none

def pInt (op : BinOp) (x y : DV) (h : Hp) : Res :=
  match x, y with
  | .i k a, .i k' b => if k = k' then (match intBin op k a b with
    | some v => some (v, h)
    | none => none) else none
  | _, _ => none

def pStr (op : BinOp) (x y : DV) (h : Hp) : Res :=
  match x, y with
  | .s a, .s b => match strBin op a b with
    | some v => some (v, h)
    | none => none
  | _, _ => none

def pShift (op : BinOp) (x y : DV) (h : Hp) : Res :=
  match x, y with
  | .i k a, .i _ b =>
    if b < 0 then none else
    match op with
    | .shl => some (.i k (k.wrap (a * 2 ^ (min b.toNat k.bits))), h)
    | .shr => some (.i k (a.fdiv (2 ^ (min b.toNat k.bits))), h)
    | _ => none
  | _, _ => none

def pEq (d : TypeDesc) (pos : Bool) (x y : DV) (h : Hp) : Res :=
  match eqNil d x y with
  | some r => some (.b (if pos then r else !r), h)
  | none => none

/-- A binary operation, by the type of its operands. -/
def pBin (op : BinOp) (d : TypeDesc) (x y : DV) (h : Hp) : Res :=
  match d with
  | .int _ => match op with
    | .shl => pShift .shl x y h
    | .shr => pShift .shr x y h
    | op => pInt op x y h
  | .string => pStr op x y h
  | d => match op with
    | .eql => pEq d true x y h
    | .neq => pEq d false x y h
    | _ => none

def pUn (op : UnOp) (x : DV) (h : Hp) : Res :=
  match op, x with
  | .neg, .i k n => some (.i k (k.wrap (0 - n)), h)
  | .not, .b b => some (.b (!b), h)
  | _, _ => none

def pConvI (k : IntKind) (x : DV) (h : Hp) : Res :=
  match x with
  | .i _ n => some (.i k (k.wrap n), h)
  | _ => none

def pConvS (x : DV) (h : Hp) : Res :=
  match x with
  | .s l => some (.s l, h)
  | _ => none

def natIn (x : DV) (y : Nat) : Option Nat :=
  match x with
  | .i _ i => if 0 ≤ i ∧ i ≤ (y : Int) then some i.toNat else none
  | _ => none

def loD (lo : Option DV) (y : Nat) : Option Nat :=
  match lo with
  | none => some 0
  | some v => natIn v y

def hiD (hi : Option DV) (len cap : Nat) : Option Nat :=
  match hi with
  | none => if len ≤ cap then some len else none
  | some v => natIn v cap

def pSliceS (x : DV) (lo hi : Option DV) (h : Hp) : Res :=
  match x with
  | .s l => match hiD hi l.length l.length with
    | some e => match loD lo e with
      | some b => some (.s ((l.take e).drop b), h)
      | none => none
    | none => none
  | _ => none

/-- A slice of a slice: two indexes. At the end of a row whose spare capacity is not known, a new name for the empty place. -/
def pSlice (size : Nat) (x : DV) (lo hi : Option DV) (h : Hp) : Res :=
  match x with
  | .l b o len cap => match hiD hi len cap with
    | some e => match loD lo e with
      | some s =>
        match h.bl.get b with
        | some (.row .ro _) | some (.row .ex _) => some (.l b (if cap = s then o else o + s * size) (e - s) (cap - s), h)
        | some (.row _ _) => if cap = s then some (.l h.next 0 0 0, ⟨h.next.succ, Tr.set (.row .sp []) h.next h.bl⟩) else some (.l b (o + s * size) (e - s) (cap - s), h)
        | _ => none
      | none => none
    | none => none
  | .l0 => match hiD hi 0 0 with
    | some e => match loD lo e with
      | some _ => some (.l0, h)
      | none => none
    | none => none
  | _ => none

/-- With three indexes: only the empty piece at the front ('s[:0:0]'). -/
def pSlice3 (x : DV) (lo : Option DV) (hi mx : DV) (h : Hp) : Res :=
  match x, lo, natIn mx 0, natIn hi 0 with
  | .l b o _ _, none, some _, some _ => match h.bl.get b with
    | some (.row _ _) => some (.l h.next 0 0 0, ⟨h.next.succ, Tr.set (.row .ex []) h.next h.bl⟩)
    | _ => if o = o then none else none
  | .l0, none, some _, some _ => some (.l0, h)
  | _, _, _, _ => none

def pField (off : Nat) (x : DV) (h : Hp) : Res :=
  match x with
  | .p b o => some (.p b (o + off), h)
  | _ => none

def pPart1 (off : Nat) (x : DV) (h : Hp) : Res :=
  match x with
  | .a cs => match cs[off]? with
    | some v => some (v, h)
    | none => none
  | _ => none

def pPartA (off size : Nat) (x : DV) (h : Hp) : Res :=
  match x with
  | .a cs => some (.a ((cs.drop off).take size), h)
  | _ => none

def pIndexAddr (size : Nat) (x ix : DV) (h : Hp) : Res :=
  match x, ix with
  | .l b o len _, .i _ i => if 0 ≤ i ∧ i < (len : Int) then some (.p b (o + i.toNat * size), h) else none
  | _, _ => none

def pIndexArr (n size : Nat) (x ix : DV) (h : Hp) : Res :=
  match x, ix with
  | .p b o, .i _ i => if 0 ≤ i ∧ i < (n : Int) then some (.p b (o + i.toNat * size), h) else none
  | _, _ => none

def pIndexS (x ix : DV) (h : Hp) : Res :=
  match x, ix with
  | .s l, .i _ i => if 0 ≤ i then (match l[i.toNat]? with
    | some c => some (.i .u8 (c : Int), h)
    | none => none) else none
  | _, _ => none

def pExtract (i : Nat) (x : DV) (h : Hp) : Res :=
  match x with
  | .t vs => match vs[i]? with
    | some v => some (v, h)
    | none => none
  | _ => none

def pPick (c x y : DV) (h : Hp) : Res :=
  match c with
  | .b true => some (x, h)
  | .b false => some (y, h)
  | _ => none

def pLenS (x : DV) (h : Hp) : Res :=
  match x with
  | .s l => some (.i .i64 (l.length : Int), h)
  | _ => none

def pLen (x : DV) (h : Hp) : Res :=
  match x with
  | .l _ _ n _ => some (.i .i64 (n : Int), h)
  | .l0 => some (.i .i64 0, h)
  | _ => none

def pMin (x y : DV) (h : Hp) : Res :=
  match x, y with
  | .i k a, .i _ b => some (.i k (if b < a then b else a), h)
  | _, _ => none

def pMax (x y : DV) (h : Hp) : Res :=
  match x, y with
  | .i k a, .i _ b => some (.i k (if b > a then b else a), h)
  | _, _ => none

/-- Parts laid over cells. -/
def fillD (cells : List DV) : List (Nat × Nat × DV) → Option (List DV)
  | [] => some cells
  | (off, size, v) :: rest =>
    match cellsD v with
    | some cs => if cs.length = size ∧ off + size ≤ cells.length then fillD (cells.take off ++ cs ++ cells.drop (off + size)) rest else none
    | none => none

def pBuild (zero : List DV) (parts : List (Nat × Nat × DV)) (h : Hp) : Res :=
  match fillD zero parts with
  | some cs => some (.a cs, h)
  | none => none

def pBuildSlice (zeros : List DV) (n : Nat) (parts : List (Nat × Nat × DV)) (h : Hp) : Res :=
  match fillD zeros parts with
  | some cs => some (.l h.next 0 n n, ⟨h.next.succ, Tr.set (.row .ex cs) h.next h.bl⟩)
  | none => none

def pBuildSliceAt (b : Pos) (zeros : List DV) (n : Nat) (parts : List (Nat × Nat × DV)) (h : Hp) : Res :=
  match fillD zeros parts with
  | some cs => some (.l b 0 n n, ⟨h.next, Tr.set (.row .ex cs) b h.bl⟩)
  | none => none

def killFrom : Nat → List DV → List DV
  | 0, l => l.map fun _ => .u
  | _ + 1, [] => []
  | n + 1, x :: l => x :: killFrom n l

/-- What is appended: how many, and their cells. -/
def srcD (size : Nat) (x : DV) (h : Hp) : Option (Nat × List DV) :=
  match x with
  | .l0 => some (0, [])
  | .l b o n _ => match cellsAt b o (n * size) h with
    | some cs => some (n, cs)
    | none => none
  | .s l => if size = 1 then some (l.length, l.map fun (c : Nat) => DV.i .u8 (c : Int)) else none
  | _ => none

def roomD : Nat := 70368744177664

def pAppend (size bytes : Nat) (s x : DV) (h : Hp) : Res :=
  match srcD size x h with
  | none => none
  | some (n, new) =>
    match s with
    | .l0 => if n = 0 then some (.l0, h) else
      if n * bytes ≤ roomD then some (.l h.next 0 n n, ⟨h.next.succ, Tr.set (.row (.gr size) new) h.next h.bl⟩) else none
    | .l b o len cap =>
      if len + n ≤ cap then
        match storeAtD b (o + len * size) new h with
        | some h' => some (.l b o (len + n) cap, h')
        | none => none
      else
        match h.bl.get b, cellsAt b o (len * size) h with
        | some (.row k l), some old =>
          if (len + n) * bytes ≤ roomD then
            match k with
            | .ro | .ex => some (.l h.next 0 (len + n) (len + n), ⟨h.next.succ, Tr.set (.row (.gr size) (old ++ new)) h.next h.bl⟩)
            | .gr es => if es = size ∧ o + cap * size = l.length then
                some (.l h.next 0 (len + n) (len + n), ⟨h.next.succ, Tr.set (.row (.gr size) (old ++ new)) h.next (Tr.set (.row .sp (killFrom o l)) b h.bl)⟩) else none
            | .sp => none
          else none
        | _, _ => none
    | _ => none

def pRange (x : DV) (h : Hp) : Res :=
  match x with
  | .s l => some (.p h.next 0, ⟨h.next.succ, Tr.set (.it l 0) h.next h.bl⟩)
  | _ => none

/-- Only bytes below 128. -/
def pNext (x : DV) (h : Hp) : Res :=
  match x with
  | .p b 0 => match h.bl.get b with
    | some (.it l pos) => match l[pos]? with
      | some c => if c < 128 then some (.t [.b true, .i .i64 (pos : Int), .i .i32 (c : Int)], ⟨h.next, Tr.set (.it l (pos + 1)) b h.bl⟩) else none
      | none => some (.t [.b false], h)
    | _ => none
  | _ => none

/-! ### Operations -/

def isAgD (d : TypeDesc) : Bool :=
  match d with
  | .struct _ | .array _ _ => true
  | _ => false

def opr (env : Env) : Operand → DV
  | .tmp t => env t
  | .const v => cv v
  | .global _ => .u
  | .func f => .f f [] []

structure Cfg where
  P : Program
  I : FuncId → Option (List DV → Hp → Res)

section
variable (C : Cfg) (rec : FuncId → List DV → Hp → Res)

def callD (g : FuncId) (args : List DV) (h : Hp) : Res :=
  match C.I g with
  | some F => F args h
  | none => rec g args h

def pCall (f : DV) (args : List DV) (h : Hp) : Res :=
  match f with
  | .f g first cap => callD C rec g (first ++ args ++ cap) h
  | _ => none

def minAll (l : List DV) (h : Hp) : Res :=
  match l with
  | [x, y] => pMin x y h
  | _ => none

def maxAll (l : List DV) (h : Hp) : Res :=
  match l with
  | [x, y] => pMax x y h
  | _ => none

def builtinD (b : Builtin) (ts : List TypeId) (args : List DV) (h : Hp) : Res :=
  match b with
  | .len => match ts, args with
    | [t], [x] => match C.P.underlying t with
      | some .string => pLenS x h
      | some (.slice _) => pLen x h
      | _ => none
    | _, _ => none
  | .min => minAll args h
  | .max => maxAll args h
  | .append => match ts, args with
    | [t, u], [s, x] => match C.P.underlying t, C.P.underlying u with
      | some (.slice e), some (.slice _) | some (.slice e), some .string => match C.P.info? e with
        | some i => match i.zero with
          | some z => if 0 < i.size ∧ 0 < i.bytes ∧ z.cells.size = i.size then pAppend i.size i.bytes s x h else none
          | none => none
        | none => none
      | _, _ => none
    | _, _ => none
  | _ => none

def opsem (o : Oper) (env : Env) (h : Hp) : Res :=
  match o.op with
  | .move x => some (opr env x, h)
  | .assign x => some (opr env x, h)
  | .pick c a b => pPick (opr env c) (opr env a) (opr env b) h
  | .alloc t => match C.P.info? t with
    | some i => match i.zero with
      | some z => pNew (zsD z) h
      | none => none
    | none => none
  | .box _ x => pBox (opr env x) h
  | .build t ps => match C.P.underlying t, C.P.info? t with
    | some (.struct fs), some i => match i.zero, fs.toList.mapM (fun f => (C.P.info? f.type).map fun fi => (f.offset, fi.size)) with
      | some z, some pl => match ps.toList.mapM (fun (q : Nat × Operand) => (pl[q.1]?).map fun s => (s.1, s.2, opr env q.2)) with
        | some l => pBuild (zsD z) l h
        | none => none
      | _, _ => none
    | _, _ => none
  | .buildSlice t n ps => match C.P.underlying t with
    | some (.slice e) => match C.P.info? e with
      | some i => match i.zero with
        | some z => if n * i.size ≤ 2 ^ 24 ∧ 0 < i.size ∧ z.cells.size = i.size then
            pBuildSlice ((List.replicate n (zsD z)).flatten) n (ps.toList.map fun (q : Nat × Operand) => (q.1 * i.size, i.size, opr env q.2)) h else none
        | none => none
      | none => none
    | _ => none
  | .load t a => match C.P.underlying t, C.P.info? t with
    | some d, some i => bif isAgD d then pLoadA i.size (opr env a) h else pLoad1 (opr env a) h
    | _, _ => none
  | .store t a x => match C.P.info? t with
    | some i => pStore i.size (opr env a) (opr env x) h
    | none => none
  | .nilCheck x => pNil (opr env x) h
  | .binOp op t x y _ => match C.P.underlying t with
    | some d => pBin op d (opr env x) (opr env y) h
    | none => none
  | .unOp op _ x => pUn op (opr env x) h
  | .convert src dst x => match C.P.underlying src, C.P.underlying dst with
    | some _, some (.int k) => pConvI k (opr env x) h
    | some .string, some .string => pConvS (opr env x) h
    | _, _ => none
  | .makeFunc fn first captured => match fn with
    | .func g => some (.f g (first.toList.map (opr env)) (captured.toList.map (opr env)), h)
    | _ => none
  | .slice t x lo hi mx => match C.P.underlying t, mx with
    | some .string, none => pSliceS (opr env x) (lo.map (opr env)) (hi.map (opr env)) h
    | some (.slice e), none => match C.P.info? e with
      | some i => pSlice i.size (opr env x) (lo.map (opr env)) (hi.map (opr env)) h
      | none => none
    | some (.slice e), some m => match C.P.info? e, hi with
      | some _, some hv => pSlice3 (opr env x) (lo.map (opr env)) (opr env hv) (opr env m) h
      | _, _ => none
    | _, _ => none
  | .fieldAddr t x f => match C.P.underlying t with
    | some (.struct fs) => match fs[f]? with
      | some fl => match C.P.info? fl.type with
        | some i => if i.size = 0 then none else pField fl.offset (opr env x) h
        | none => none
      | none => none
    | _ => none
  | .field t x f => match C.P.underlying t with
    | some (.struct fs) => match fs[f]? with
      | some fl => match C.P.underlying fl.type, C.P.info? fl.type with
        | some d, some i => bif isAgD d then pPartA fl.offset i.size (opr env x) h else pPart1 fl.offset (opr env x) h
        | _, _ => none
      | none => none
    | _ => none
  | .indexAddr t x ix => match C.P.underlying t with
    | some (.slice e) => match C.P.info? e with
      | some i => pIndexAddr i.size (opr env x) (opr env ix) h
      | none => none
    | some (.array n e) => match C.P.info? e with
      | some i => pIndexArr n i.size (opr env x) (opr env ix) h
      | none => none
    | _ => none
  | .index t x ix => match C.P.underlying t with
    | some .string => pIndexS (opr env x) (opr env ix) h
    | _ => none
  | .extract x i => pExtract i (opr env x) h
  | .range t x => match C.P.underlying t with
    | some .string => pRange (opr env x) h
    | _ => none
  | .next x str => if str then pNext (opr env x) h else none
  | .call c => match c.callee with
    | .builtin b => builtinD C b c.argTypes.toList (c.args.toList.map (opr env)) h
    | .value f => pCall C rec (opr env f) (c.args.toList.map (opr env)) h
    | .invoke _ _ => none
  | _ => none

def setE (env : Env) (d : Option Tmp) (v : DV) : Env :=
  match d with
  | some t => fun j => bif Nat.beq j t then v else env j
  | none => env

def fitsE (nt : Nat) : Option Tmp → Bool
  | some t => Nat.blt t nt
  | none => true

/-- Go on with what came out. -/
def bnd (r : Res) (k : DV → Hp → Res) : Res :=
  match r with
  | some (v, h) => k v h
  | none => none

def ifD (c : DV) (a b : Res) : Res :=
  match c with
  | .b true => a
  | .b false => b
  | _ => none

/-- An operation under a guard. -/
def gD (g : DV) (want : Bool) (r : Res) (h : Hp) : Res :=
  match g with
  | .b x => if x == want then r else some (undefD, h)
  | .t [] => some (undefD, h)
  | _ => none

def dstAt (all : Array Oper) (j : Nat) (env : Env) : DV :=
  match (all[j]?).bind (·.dst) with
  | some d => env d
  | none => undefD

def stepD (all : Array Oper) (o : Oper) (env : Env) (h : Hp) : Res :=
  match o.guard with
  | none => opsem C rec o env h
  | some (j, want) => gD (dstAt all j env) want (opsem C rec o env h) h

/-- Go on if it holds. -/
@[reducible] noncomputable def cnd (b : Bool) (x : Res) : Res := Bool.rec (motive := fun _ => Res) none x b

/-- Operations one behind the other. -/
noncomputable def opsD (nt : Nat) (all : Array Oper) (l : List Oper) (k : K) : K :=
  List.rec (motive := fun _ => K) k (fun o _ ih => fun env h =>
    cnd (fitsE nt o.dst) (bnd (stepD C rec all o env h) fun v h' => ih (setE env o.dst v) h')) l

/-! ### A region that draws its order -/

mutual
def DV.beq : DV → DV → Bool
  | .b x, .b y => x == y
  | .i q x, .i q' y => q == q' && x == y
  | .s x, .s y => eqD x y
  | .p0, .p0 => true
  | .p x y, .p x' y' => x == x' && y == y'
  | .l0, .l0 => true
  | .l x y z w, .l x' y' z' w' => x == x' && y == y' && z == z' && w == w'
  | .m0, .m0 => true
  | .m x, .m x' => x == x'
  | .f0, .f0 => true
  | .f z x y, .f z' x' y' => z == z' && DV.beqs x x' && DV.beqs y y'
  | .n0, .n0 => true
  | .c x y, .c x' y' => x == x' && DV.beq y y'
  | .a x, .a y => DV.beqs x y
  | .t x, .t y => DV.beqs x y
  | _, _ => false
def DV.beqs : List DV → List DV → Bool
  | [], [] => true
  | x :: xs, y :: ys => DV.beq x y && DV.beqs xs ys
  | _, _ => false
end

def sameR (r : Res) (v : DV) : Bool :=
  match r with
  | some (x, _) => DV.beq x v
  | none => false

inductive Cls where
  | pure
  | reads
  | makes
  | acts
  deriving DecidableEq

def clsOf (P : Program) : Op → Cls
  | .move _ | .assign _ | .pick _ _ _ | .nilCheck _ | .binOp .. | .unOp .. | .fieldAddr .. | .field .. | .index .. | .indexAddr .. | .extract .. | .makeFunc .. | .build .. => .pure
  | .convert .. => .pure
  | .slice t _ _ _ _ => match P.underlying t with
    | some .string => .pure
    | _ => .acts
  | .load .. => .reads
  | .alloc _ => .makes
  | .box .. => .makes
  | .buildSlice .. => .makes
  | .call { callee := .builtin .len, .. } => .pure
  | .call { callee := .builtin .min, .. } => .pure
  | .call { callee := .builtin .max, .. } => .pure
  | _ => .acts

/-- What makes a new row, under a name that was kept for it. -/
def opsemMk (o : Oper) (b : Pos) (env : Env) (h : Hp) : Res :=
  match o.op with
  | .alloc t => match C.P.info? t with
    | some i => match i.zero with
      | some z => pNewAt b (zsD z) h
      | none => none
    | none => none
  | .box _ x => pBoxAt b (opr env x) h
  | .buildSlice t n ps => match C.P.underlying t with
    | some (.slice e) => match C.P.info? e with
      | some i => match i.zero with
        | some z => if n * i.size ≤ 2 ^ 24 ∧ 0 < i.size ∧ z.cells.size = i.size then
            pBuildSliceAt b ((List.replicate n (zsD z)).flatten) n (ps.toList.map fun (q : Nat × Operand) => (q.1 * i.size, i.size, opr env q.2)) h else none
        | none => none
      | none => none
    | _ => none
  | _ => none

def nthPos : Nat → Pos → Pos
  | 0, p => p
  | n + 1, p => nthPos n p.succ

/-- So many names are kept. -/
def resv (k : Nat) (h : Hp) : Hp :=
  match k with
  | 0 => h
  | k + 1 => ⟨nthPos (k + 1) h.next, h.bl⟩

def mkCount (P : Program) (l : List Oper) : Nat :=
  match l with
  | [] => 0
  | o :: l => (match clsOf P o.op with
    | .makes => 1
    | _ => 0) + mkCount P l

def ordD (m : Array Nat) (i j : Nat) : Bool := (m.getD j 0).testBit i

/-- May the operations be run in the order of the text? What acts is in order; what is in no order has nothing to do with one another. -/
def drawOk (P : Program) (ops : Array Oper) : Bool :=
  let m := Region.before ops
  (List.range ops.size).all fun j =>
    (match ops[j]? with
     | some y => (y.after.all fun e => !Region.binds .any e || Nat.blt e.on j) &&
        (match y.guard with
         | some (g, _) => ordD m g j && !(clsOf P y.op == .makes)
         | none => true) &&
       (List.range j).all fun i =>
        match ops[i]? with
        | some x => ordD m i j || (Oper.apart ops x y && !((clsOf P x.op == .acts || clsOf P x.op == .makes) && clsOf P y.op == .acts))
        | none => false
     | none => false)

structure Seen where
  at_ : Nat
  look : Hp → Res
  v : DV

/-- Is it the same at every heap at which it may be looked at? -/
def candChk (m : Array Nat) (i : Nat) (v : DV) (look : Hp → Res) : Bool → List (Option Nat × Hp) → Bool
  | _, [] => true
  | dirty, (j, hj) :: rest =>
    (bif dirty then sameR (look hj) v else true) && (match j with
      | none => true
      | some j => bif ordD m j i then true else candChk m i v look true rest)

noncomputable def dopsD (nt : Nat) (all : Array Oper) (m : Array Nat) (p0 : Pos) (l : List Oper) (k : K) : Nat → Nat → Bool → List Seen → List (Option Nat × Hp) → K :=
  List.rec (motive := fun _ => Nat → Nat → Bool → List Seen → List (Option Nat × Hp) → K) (fun _ _ _ _ _ => k) (fun o _ ih => fun i c dirty rd hs env h =>
    cnd (fitsE nt o.dst) (
      match clsOf C.P o.op with
      | .pure => bnd (stepD C rec all o env h) fun v h' => ih (i + 1) c dirty rd hs (setE env o.dst v) h'
      | .reads => bnd (stepD C rec all o env h) fun v h' =>
          cnd (candChk m i v (stepD C rec all o env) dirty hs) (ih (i + 1) c dirty (⟨i, stepD C rec all o env, v⟩ :: rd) hs (setE env o.dst v) h')
      | .makes => bnd (opsemMk C o (nthPos c p0) env h) fun v h' => ih (i + 1) (c + 1) true rd hs (setE env o.dst v) h'
      | .acts => bnd (stepD C rec all o env h) fun v h' =>
          cnd (rd.all (fun q => ordD m q.at_ i || sameR (q.look h') q.v)) (ih (i + 1) c false rd ((some i, h') :: hs) (setE env o.dst v) h'))) l

noncomputable def drawK (nt : Nat) (ops : Array Oper) (k : K) : K := fun env h =>
  dopsD C rec nt ops (Region.before ops) h.next ops.toList k 0 0 false [] [(none, resv (mkCount C.P ops.toList) h)] env (resv (mkCount C.P ops.toList) h)

/-! ### Code -/

def failK : K := fun _ _ => none

noncomputable def loopN (body : K → K) (n : Nat) : K :=
  Nat.rec (motive := fun _ => K) failK (fun _ ih => body ih) n

noncomputable def codeD (nt n : Nat) (c : Code) : (Nat → K) → K → K → K :=
  Code.rec (motive := fun _ => (Nat → K) → K → K → K)
    (fun _ _ k => k)
    (fun _ ops dr _ _ k => Bool.rec (motive := fun _ => K) (opsD C rec nt ops ops.toList k) (Bool.rec (motive := fun _ => K) failK (drawK C rec nt ops k) (drawOk C.P ops)) dr)
    (fun _ _ iha ihb X kr k => iha X kr (ihb X kr k))
    (fun c _ _ iha ihb X kr k => fun env h => ifD (opr env c) (iha X kr k env h) (ihb X kr k env h))
    (fun id _ ih X kr k => ih (fun j => bif Nat.beq j id then k else X j) kr k)
    (fun _ ih X kr _ => loopN (fun kk => ih X kr kk) n)
    (fun _ _ _ _ _ _ _ _ _ => failK)
    (fun id X _ _ => X id)
    (fun _ ih X kr k => ih X kr k)
    (fun _ _ _ k => k)
    (fun _ _ _ _ => failK)
    (fun _ kr _ => kr)
    (fun _ _ _ _ => failK) c

def loadK (t : TypeId) (x : DV) (h : Hp) (k : DV → Res) : Res :=
  match C.P.underlying t, C.P.info? t with
  | some d, some i => bnd (bif isAgD d then pLoadA i.size x h else pLoad1 x h) fun v _ => k v
  | _, _ => none

noncomputable def retGo (env : Env) (h : Hp) (l : List ResultVar) : (List DV → Res) → Res :=
  List.rec (motive := fun _ => (List DV → Res) → Res) (fun k => k []) (fun r _ ih k => match r with
    | .tmp t => ih fun vs => k (env t :: vs)
    | .cell a t => loadK C t (env a) h fun v => ih fun vs => k (v :: vs)) l

def doneK (h : Hp) (vs : List DV) : Res :=
  match vs with
  | [v] => some (v, h)
  | vs => some (.t vs, h)

noncomputable def retK (fn : Func) : K := fun env h => retGo C env h fn.results.toList (doneK h)

def argsE (args : List DV) : Env := fun t => args.getD t undefD

noncomputable def bodyD (n : Nat) (f : FuncId) (args : List DV) (h : Hp) : Res :=
  match C.P.funcs[f]? with
  | some fn => match fn.body with
    | some c => codeD C rec fn.ntmps n c (fun _ => failK) (retK C fn) (retK C fn) (argsE args) h
    | none => none
  | none => none

end

noncomputable def fnD (C : Cfg) (n : Nat) : FuncId → List DV → Hp → Res :=
  Nat.rec (motive := fun _ => FuncId → List DV → Hp → Res) (fun _ _ _ => none) (fun m ih => bodyD C ih m) n

end
end Go.Dd
