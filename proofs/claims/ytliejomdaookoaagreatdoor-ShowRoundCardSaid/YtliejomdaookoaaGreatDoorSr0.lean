/- A part of the proof: A B C0 C D E F G H I J K L M N0 N O Qh: each text has a comment of its own. -/
import Derived.Orders
import Derived.Below
import Derived.Lib.LaidTab
import Derived.Lib.ItoaNum
import Derived.Laws.Tables
import Derived.Laws.Append
import Derived.Laws.Strings
import Derived.Laws.Slices
import Derived.Laws.BytesString
import Derived.Laws.RangeString
import Derived.LoopN
import Derived.Scope
import Derived.Test.YtliejomdaookoaaGreatDoorProg
import Derived.KernelRfl
set_option linter.unusedVariables false
set_option linter.unusedSimpArgs false
set_option linter.constructorNameAsVariable false
set_option maxRecDepth 100000
namespace Go.Dd
theorem dA0 {α : Type} {l r : List α} {i : Nat} {x : α} (h : l.drop i = x :: r) : l[i]? = some x := by
 have := congrArg (fun l => l[0]?) h
 simpa using this
theorem dA1 {α : Type} {l r : List α} {i : Nat} {x : α} (h : l.drop i = x :: r) : l.drop (i + 1) = r := by
 have := congrArg (List.drop 1) h
 simpa [List.drop_drop] using this
theorem gLt {α : Type} {l : List α} {i : Nat} {x : α} (h : l[i]? = some x) : i < l.length := (List.getElem?_eq_some_iff.1 h).1
theorem eG {α : Type} {a : α} {l : List α} : a ∈ a :: l := List.Mem.head _
theorem mH1 {α : Type} {a b : α} {l : List α} : a ∈ b :: a :: l := List.Mem.tail _ (List.Mem.head _)
theorem laE {α : Type} {a b : List α} : (a ++ b).length = a.length + b.length := List.length_append
theorem lcE {α : Type} {a : α} {b : List α} : (a :: b).length = b.length + 1 := List.length_cons
theorem lnE {α : Type} : ([] : List α).length = 0 := List.length_nil
theorem bB {α : Type} (a b : α) : (some a = some b) = (a = b) := Option.some.injEq a b
theorem bW {α β : Type} (a c : α) (b d : β) : ((a, b) = (c, d)) = (a = c ∧ b = d) := Prod.mk.injEq a b c d
theorem bC {α β : Type} {o : Option α} {f : α → Option β} {b : β} (h : o.bind f = some b) : ∃ a, o = some a ∧ f a = some b := Option.bind_eq_some_iff.1 h
noncomputable section
inductive Pos where
 | h
 | o (p : Pos)
 | i (p : Pos)
 deriving DecidableEq
def Pos.toNat : Pos → Nat
 | .h => 1
 | .o p => 2 * p.toNat
 | .i p => 2 * p.toNat + 1
noncomputable def Pos.succ (p : Pos) : Pos := Pos.rec (motive := fun _ => Pos) (.o .h) (fun p _ => .i p) (fun _ ih => .o ih) p
theorem cBy : Pos.h.succ = .o .h := rfl
theorem cBz (p : Pos) : (Pos.o p).succ = .i p := rfl
theorem cCa (p : Pos) : (Pos.i p).succ = .o p.succ := rfl
inductive Tr (α : Type) where
 | e
 | n (l : Tr α) (v : Option α) (r : Tr α)
noncomputable def Tr.get {α : Type} (t : Tr α) : Pos → Option α :=
 Tr.rec (motive := fun _ => Pos → Option α) (fun _ => none)
  (fun _ v _ ihl ihr p => Pos.rec (motive := fun _ => Option α) v (fun q _ => ihl q) (fun q _ => ihr q) p) t
noncomputable def Tr.set {α : Type} (x : α) (p : Pos) : Tr α → Tr α :=
 Pos.rec (motive := fun _ => Tr α → Tr α)
  (fun t => Tr.rec (motive := fun _ => Tr α) (.n .e (some x) .e) (fun l _ r _ _ => .n l (some x) r) t)
  (fun _ ih t => Tr.rec (motive := fun _ => Tr α) (.n (ih .e) none .e) (fun l v r _ _ => .n (ih l) v r) t)
  (fun _ ih t => Tr.rec (motive := fun _ => Tr α) (.n .e none (ih .e)) (fun l v r _ _ => .n l v (ih r)) t) p
theorem bZr {α : Type} (p : Pos) : (Tr.e : Tr α).get p = none := rfl
theorem cAc {α : Type} (l : Tr α) (v : Option α) (r : Tr α) : (Tr.n l v r).get .h = v := rfl
theorem cAd {α : Type} (l : Tr α) (v : Option α) (r : Tr α) (p : Pos) : (Tr.n l v r).get (.o p) = l.get p := rfl
theorem cAe {α : Type} (l : Tr α) (v : Option α) (r : Tr α) (p : Pos) : (Tr.n l v r).get (.i p) = r.get p := rfl
theorem bZs {α : Type} (x : α) : Tr.set x .h .e = .n .e (some x) .e := rfl
theorem bZt {α : Type} (x : α) (l : Tr α) (v : Option α) (r : Tr α) : Tr.set x .h (.n l v r) = .n l (some x) r := rfl
theorem bZu {α : Type} (x : α) (p : Pos) : Tr.set x (.o p) .e = .n (Tr.set x p .e) none .e := rfl
theorem bZv {α : Type} (x : α) (p : Pos) (l : Tr α) (v : Option α) (r : Tr α) : Tr.set x (.o p) (.n l v r) = .n (Tr.set x p l) v r := rfl
theorem bZw {α : Type} (x : α) (p : Pos) : Tr.set x (.i p) .e = .n .e none (Tr.set x p .e) := rfl
theorem bZx {α : Type} (x : α) (p : Pos) (l : Tr α) (v : Option α) (r : Tr α) : Tr.set x (.i p) (.n l v r) = .n l v (Tr.set x p r) := rfl
inductive DV where
 | u
 | b (x : Bool)
 | i (k : IntKind) (n : Int)
 | s (l : List Nat)
 | p0
 | p (b : Pos) (o : Nat)
 | l0
 | l (b : Pos) (o len cap : Nat)
 | le
 | m0
 | m (b : Pos)
 | f0
 | f (g : FuncId) (first cap : List DV)
 | n0
 | c (t : TypeId) (v : DV)
 | a (cs : List DV)
 | t (vs : List DV)
inductive Kind where
 | ro
 | ex
 | gr (es : Nat)
 | sp
 deriving DecidableEq
inductive Ob where
 | row (k : Kind) (l : List DV)
 | it (s : List Nat) (pos : Nat)
structure Hp where
 next : Pos
 bl : Tr Ob
abbrev aG := Option (DV × Hp)
abbrev fQ := Nat → DV
abbrev K := fQ → Hp → aG
def DV.one : DV → Bool
 | .u | .a _ | .t _ => false
 | _ => true
def dK : DV := .t []
def cF : DV → Option (List DV)
 | .u => none
 | .t _ => none
 | .a cs => some cs
 | v => some [v]
def cv : Value → DV
 | .bool x => .b x
 | .int k n => .i k n
 | .string s => .s (s.data.toList.map (·.toNat))
 | .pointer none => .p0
 | .slice none 0 0 => .l0
 | .map none => .m0
 | .nilFunc => .f0
 | .nilIface => .n0
 | _ => .u
def zsD (v : Value) : List DV := v.cells.toList.map cv
def Hp.new (h : Hp) (o : Ob) : Pos × Hp := (h.next, ⟨h.next.succ, Tr.set o h.next h.bl⟩)
def cJ (cs : List DV) (h : Hp) : aG := some (.p h.next 0, ⟨h.next.succ, Tr.set (.row .ex cs) h.next h.bl⟩)
def qE (b : Pos) (cs : List DV) (h : Hp) : aG := some (.p b 0, ⟨h.next, Tr.set (.row .ex cs) b h.bl⟩)
def aXv (b : Pos) (v : DV) (h : Hp) : aG :=
 match cF v with
 | some cs => qE b cs h
 | none => none
def iB (v : DV) (h : Hp) : aG :=
 match cF v with
 | some cs => cJ cs h
 | none => none
def iZ : Nat → List DV → Option (List DV)
 | 0, _ => some []
 | n + 1, x :: xs => if x.one then (iZ n xs).map (x :: ·) else none
 | _ + 1, [] => none
def lT (b : Pos) (h : Hp) : Option (List DV) :=
 match h.bl.get b with
 | some (.row _ l) => some l
 | _ => none
def aEe (b : Pos) (o : Nat) (h : Hp) : Option DV :=
 match lT b h with
 | some l => match l[o]? with
  | some v => if v.one then some v else none
  | none => none
 | none => none
def eI (b : Pos) (o n : Nat) (h : Hp) : Option (List DV) :=
 match lT b h with
 | some l => iZ n (l.drop o)
 | none => none
def aB (x : DV) (h : Hp) : aG :=
 match x with
 | .p b o => match aEe b o h with
  | some v => some (v, h)
  | none => none
 | _ => none
def aD (n : Nat) (x : DV) (h : Hp) : aG :=
 match x with
 | .p b o => match eI b o n h with
  | some cs => some (.a cs, h)
  | none => none
 | _ => none
def qD : List DV → List DV → Option (List DV)
 | l, [] => some l
 | x :: l, v :: vs => if x.one && v.one then (qD l vs).map (v :: ·) else none
 | [], _ :: _ => none
def jS : Nat → List DV → List DV → Option (List DV)
 | 0, l, vs => qD l vs
 | n + 1, x :: l, vs => (jS n l vs).map (x :: ·)
 | _ + 1, [], vs => if vs.isEmpty then some [] else none
def Kind.writable : Kind → Bool
 | .ro => false
 | _ => true
def hZ (b : Pos) (o : Nat) (vs : List DV) (h : Hp) : Option Hp :=
 match h.bl.get b with
 | some (.row k l) => if k.writable then (match jS o l vs with
  | some l' => some ⟨h.next, Tr.set (.row k l') b h.bl⟩
  | none => none) else none
 | _ => none
def aC (n : Nat) (x v : DV) (h : Hp) : aG :=
 match x, cF v with
 | .p b o, some cs => if cs.length = n then (match hZ b o cs h with
  | some h' => some (dK, h')
  | none => none) else none
 | _, _ => none
def bM (x : DV) (h : Hp) : aG :=
 match x with
 | .p b o => some (.p b o, h)
 | .f g a c => some (.f g a c, h)
 | .c t v => some (.c t v, h)
 | _ => none
def nI : List Nat → List Nat → Bool
 | _, [] => false
 | [], _ :: _ => true
 | a :: x, b :: y => Nat.blt a b || (Nat.beq a b && nI x y)
def uN : List Nat → List Nat → Bool
 | [], [] => true
 | a :: x, b :: y => Nat.beq a b && uN x y
 | _, _ => false
def aGc (op : BinOp) (k : IntKind) (a b : Int) : Option DV :=
 match op with
 | .add => some (.i k (k.wrap (a + b)))
 | .sub => some (.i k (k.wrap (a - b)))
 | .mul => some (.i k (k.wrap (a * b)))
 | .quo => if b = 0 then none else some (.i k (k.wrap (a.tdiv b)))
 | .rem => if b = 0 then none else some (.i k (a.tmod b))
 | .eql => some (.b (a == b))
 | .neq => some (.b (a != b))
 | .lss => some (.b (a < b))
 | .leq => some (.b (a ≤ b))
 | .gtr => some (.b (a > b))
 | .geq => some (.b (a ≥ b))
 | .and => some (.i k (k.wrap ((BitVec.ofInt k.bits a &&& BitVec.ofInt k.bits b).toNat)))
 | .or => some (.i k (k.wrap ((BitVec.ofInt k.bits a ||| BitVec.ofInt k.bits b).toNat)))
 | .xor => some (.i k (k.wrap ((BitVec.ofInt k.bits a ^^^ BitVec.ofInt k.bits b).toNat)))
 | _ => none
def zZ (op : BinOp) (a b : List Nat) : Option DV :=
 match op with
 | .add => if ((a.length + b.length : Nat) : Int) > IntKind.i64.max then none else some (.s (a ++ b))
 | .eql => some (.b (uN a b))
 | .neq => some (.b (!uN a b))
 | .lss => some (.b (nI a b))
 | .leq => some (.b (nI a b || uN a b))
 | .gtr => some (.b (!(nI a b || uN a b)))
 | .geq => some (.b (!nI a b))
 | _ => none
def aEd (d : TypeDesc) (x y : DV) : Option Bool :=
 match d, x, y with
 | .bool, .b a, .b b => some (a == b)
 | .pointer _, .p0, .p0 => some true
 | .pointer _, .p0, .p _ _ => some false
 | .pointer _, .p _ _, .p0 => some false
 | .slice _, .l0, .l0 => some true
 | .slice _, .l0, .l _ _ _ _ => some false
 | .slice _, .l _ _ _ _, .l0 => some false
 | .slice _, .l0, .le => some false
 | .slice _, .le, .l0 => some false
 | .func _ _ _, .f0, .f0 => some true
 | .func _ _ _, .f0, .f _ _ _ => some false
 | .func _ _ _, .f _ _ _, .f0 => some false
 | .map _ _, .m0, .m0 => some true
 | .map _ _, .m0, .m _ => some false
 | .map _ _, .m _, .m0 => some false
 | _, _, _ => none
def aQ (op : BinOp) (x y : DV) (h : Hp) : aG :=
 match x, y with
 | .i k a, .i k' b => if k = k' then (match aGc op k a b with
  | some v => some (v, h)
  | none => none) else none
 | _, _ => none
def gU (op : BinOp) (x y : DV) (h : Hp) : aG :=
 match x, y with
 | .s a, .s b => match zZ op a b with
  | some v => some (v, h)
  | none => none
 | _, _ => none
def qP (op : BinOp) (x y : DV) (h : Hp) : aG :=
 match x, y with
 | .i k a, .i _ b =>
  if b < 0 then none else
  match op with
  | .shl => some (.i k (k.wrap (a * 2 ^ (min b.toNat k.bits))), h)
  | .shr => some (.i k (a.fdiv (2 ^ (min b.toNat k.bits))), h)
  | _ => none
 | _, _ => none
def pEq (d : TypeDesc) (pos : Bool) (x y : DV) (h : Hp) : aG :=
 match aEd d x y with
 | some r => some (.b (if pos then r else !r), h)
 | none => none
def aVs (op : BinOp) (d : TypeDesc) (x y : DV) (h : Hp) : aG :=
 match d with
 | .int _ => match op with
  | .shl => qP .shl x y h
  | .shr => qP .shr x y h
  | op => aQ op x y h
 | .string => gU op x y h
 | d => match op with
  | .eql => pEq d true x y h
  | .neq => pEq d false x y h
  | _ => none
def pJ (op : UnOp) (x : DV) (h : Hp) : aG :=
 match op, x with
 | .neg, .i k n => some (.i k (k.wrap (0 - n)), h)
 | .not, .b b => some (.b (!b), h)
 | _, _ => none
def qC (k : IntKind) (x : DV) (h : Hp) : aG :=
 match x with
 | .i _ n => some (.i k (k.wrap n), h)
 | _ => none
def xQ (x : DV) (h : Hp) : aG :=
 match x with
 | .s l => some (.s l, h)
 | _ => none
def vJ : List DV → Option (List Nat)
 | [] => some []
 | .i .u8 (.ofNat n) :: l => if n < 256 then (vJ l).map (n :: ·) else none
 | _ :: _ => none
def yO (x : DV) (h : Hp) : aG :=
 match x with
 | .l0 => some (.s [], h)
 | .l b o len _ => match eI b o len h with
  | some cs => match vJ cs with
   | some l => some (.s l, h)
   | none => none
  | none => none
 | _ => none
def wQ (x : DV) (y : Nat) : Option Nat :=
 match x with
 | .i _ i => if 0 ≤ i ∧ i ≤ (y : Int) then some i.toNat else none
 | _ => none
def loD (lo : Option DV) (y : Nat) : Option Nat :=
 match lo with
 | none => some 0
 | some v => wQ v y
def hiD (hi : Option DV) (len cap : Nat) : Option Nat :=
 match hi with
 | none => if len ≤ cap then some len else none
 | some v => wQ v cap
def eH (x : DV) (lo hi : Option DV) (h : Hp) : aG :=
 match x with
 | .s l => match hiD hi l.length l.length with
  | some e => match loD lo e with
   | some b => some (.s ((l.take e).drop b), h)
   | none => none
  | none => none
 | _ => none
def dB (size : Nat) (x : DV) (lo hi : Option DV) (h : Hp) : aG :=
 match x with
 | .l b o len cap => match hiD hi len cap with
  | some e => match loD lo e with
   | some s =>
    match h.bl.get b with
    | some (.row .ro _) | some (.row .ex _) => some (.l b (if cap = s then o else o + s * size) (e - s) (cap - s), h)
    | some (.row _ _) => if cap = s then some (.le, h) else some (.l b (o + s * size) (e - s) (cap - s), h)
    | _ => none
   | none => none
  | none => none
 | .l0 => match hiD hi 0 0 with
  | some e => match loD lo e with
   | some _ => some (.l0, h)
   | none => none
  | none => none
 | .le => match hiD hi 0 0 with
  | some e => match loD lo e with
   | some _ => some (.le, h)
   | none => none
  | none => none
 | _ => none
def aBa (x : DV) (lo : Option DV) (hi mx : DV) (h : Hp) : aG :=
 match x, lo, wQ mx 0, wQ hi 0 with
 | .l b o _ _, none, some _, some _ => match h.bl.get b with
  | some (.row _ _) => some (.l h.next 0 0 0, ⟨h.next.succ, Tr.set (.row .ex []) h.next h.bl⟩)
  | _ => if o = o then none else none
 | .l0, none, some _, some _ => some (.l0, h)
 | .le, none, some _, some _ => some (.le, h)
 | _, _, _, _ => none
def aA (off : Nat) (x : DV) (h : Hp) : aG :=
 match x with
 | .p b o => some (.p b (o + off), h)
 | _ => none
def eM (off : Nat) (x : DV) (h : Hp) : aG :=
 match x with
 | .a cs => match cs[off]? with
  | some v => some (v, h)
  | none => none
 | _ => none
def aAw (off size : Nat) (x : DV) (h : Hp) : aG :=
 match x with
 | .a cs => some (.a ((cs.drop off).take size), h)
 | _ => none
def aT (size : Nat) (x ix : DV) (h : Hp) : aG :=
 match x, ix with
 | .l b o len _, .i _ i => if 0 ≤ i ∧ i < (len : Int) then some (.p b (o + i.toNat * size), h) else none
 | _, _ => none
def kS (n size : Nat) (x ix : DV) (h : Hp) : aG :=
 match x, ix with
 | .p b o, .i _ i => if 0 ≤ i ∧ i < (n : Int) then some (.p b (o + i.toNat * size), h) else none
 | _, _ => none
def eP (x ix : DV) (h : Hp) : aG :=
 match x, ix with
 | .s l, .i _ i => if 0 ≤ i then (match l[i.toNat]? with
  | some c => some (.i .u8 (c : Int), h)
  | none => none) else none
 | _, _ => none
def aH (i : Nat) (x : DV) (h : Hp) : aG :=
 match x with
 | .t vs => match vs[i]? with
  | some v => some (v, h)
  | none => none
 | _ => none
def cA (c x y : DV) (h : Hp) : aG :=
 match c with
 | .b true => some (x, h)
 | .b false => some (y, h)
 | _ => none
def iE (x : DV) (h : Hp) : aG :=
 match x with
 | .s l => some (.i .i64 (l.length : Int), h)
 | _ => none
def fS (x : DV) (h : Hp) : aG :=
 match x with
 | .l _ _ n _ => some (.i .i64 (n : Int), h)
 | .l0 => some (.i .i64 0, h)
 | .le => some (.i .i64 0, h)
 | _ => none
def aNp (x y : DV) (h : Hp) : aG :=
 match x, y with
 | .i k a, .i _ b => some (.i k (if b < a then b else a), h)
 | _, _ => none
def bLc (x y : DV) (h : Hp) : aG :=
 match x, y with
 | .i k a, .i _ b => some (.i k (if b > a then b else a), h)
 | _, _ => none
def cM (cells : List DV) : List (Nat × Nat × DV) → Option (List DV)
 | [] => some cells
 | (off, size, v) :: rest =>
  match cF v with
  | some cs => if cs.length = size ∧ off + size ≤ cells.length then cM (cells.take off ++ cs ++ cells.drop (off + size)) rest else none
  | none => none
def cS (zero : List DV) (parts : List (Nat × Nat × DV)) (h : Hp) : aG :=
 match cM zero parts with
 | some cs => some (.a cs, h)
 | none => none
def aO (zeros : List DV) (n : Nat) (parts : List (Nat × Nat × DV)) (h : Hp) : aG :=
 match cM zeros parts with
 | some cs => some (.l h.next 0 n n, ⟨h.next.succ, Tr.set (.row .ex cs) h.next h.bl⟩)
 | none => none
def aY (b : Pos) (zeros : List DV) (n : Nat) (parts : List (Nat × Nat × DV)) (h : Hp) : aG :=
 match cM zeros parts with
 | some cs => some (.l b 0 n n, ⟨h.next, Tr.set (.row .ex cs) b h.bl⟩)
 | none => none
def cD : Nat → List DV → List DV
 | 0, l => l.map fun _ => .u
 | _ + 1, [] => []
 | n + 1, x :: l => x :: cD n l
def nC (size : Nat) (x : DV) (h : Hp) : Option (Nat × List DV) :=
 match x with
 | .l0 => some (0, [])
 | .le => some (0, [])
 | .l b o n _ => match eI b o (n * size) h with
  | some cs => some (n, cs)
  | none => none
 | .s l => if size = 1 then some (l.length, l.map fun (c : Nat) => DV.i .u8 (c : Int)) else none
 | _ => none
def gW : Nat := 70368744177664
def bH (size bytes : Nat) (s x : DV) (h : Hp) : aG :=
 match nC size x h with
 | none => none
 | some (n, new) =>
  match s with
  | .l0 => if n = 0 then some (.l0, h) else
   if n * bytes ≤ gW then some (.l h.next 0 n n, ⟨h.next.succ, Tr.set (.row (.gr size) new) h.next h.bl⟩) else none
  | .le => if n = 0 then some (.le, h) else none
  | .l b o len cap =>
   if len + n ≤ cap then
    match hZ b (o + len * size) new h with
    | some h' => some (.l b o (len + n) cap, h')
    | none => none
   else
    match h.bl.get b, eI b o (len * size) h with
    | some (.row k l), some old =>
     if (len + n) * bytes ≤ gW then
      match k with
      | .ro | .ex => some (.l h.next 0 (len + n) (len + n), ⟨h.next.succ, Tr.set (.row (.gr size) (old ++ new)) h.next h.bl⟩)
      | .gr es => if es = size ∧ o + cap * size = l.length then
       some (.l h.next 0 (len + n) (len + n), ⟨h.next.succ, Tr.set (.row (.gr size) (old ++ new)) h.next (Tr.set (.row .sp (cD o l)) b h.bl)⟩) else none
      | .sp => none
     else none
    | _, _ => none
  | _ => none
def yW (x : DV) (h : Hp) : aG :=
 match x with
 | .s l => some (.p h.next 0, ⟨h.next.succ, Tr.set (.it l 0) h.next h.bl⟩)
 | _ => none
def qX (x : DV) (h : Hp) : aG :=
 match x with
 | .p b 0 => match h.bl.get b with
  | some (.it l pos) => match l[pos]? with
   | some c => if c < 128 then some (.t [.b true, .i .i64 (pos : Int), .i .i32 (c : Int)], ⟨h.next, Tr.set (.it l (pos + 1)) b h.bl⟩) else none
   | none => some (.t [.b false], h)
  | _ => none
 | _ => none
def kP (d : TypeDesc) : Bool :=
 match d with
 | .struct _ | .array _ _ => true
 | _ => false
def opr (env : fQ) : Operand → DV
 | .tmp t => env t
 | .const v => cv v
 | .global _ => .u
 | .func f => .f f [] []
structure Cfg where
 P : Program
 I : FuncId → Option (List DV → Hp → aG)
section
variable (C : Cfg) (rec : FuncId → List DV → Hp → aG)
def bJx (g : FuncId) (args : List DV) (h : Hp) : aG :=
 match C.I g with
 | some F => F args h
 | none => rec g args h
def dM (f : DV) (args : List DV) (h : Hp) : aG :=
 match f with
 | .f g first cap => bJx C rec g (first ++ args ++ cap) h
 | _ => none
def aGf (l : List DV) (h : Hp) : aG :=
 match l with
 | [x, y] => aNp x y h
 | _ => none
def aFa (l : List DV) (h : Hp) : aG :=
 match l with
 | [x, y] => bLc x y h
 | _ => none
def oS (b : Builtin) (ts : List TypeId) (args : List DV) (h : Hp) : aG :=
 match b with
 | .len => match ts, args with
  | [t], [x] => match C.P.underlying t with
   | some .string => iE x h
   | some (.slice _) => fS x h
   | _ => none
  | _, _ => none
 | .min => aGf args h
 | .max => aFa args h
 | .append => match ts, args with
  | [t, u], [s, x] => match C.P.underlying t, C.P.underlying u with
   | some (.slice e), some (.slice _) | some (.slice e), some .string => match C.P.info? e with
    | some i => match i.zero with
     | some z => if 0 < i.size ∧ 0 < i.bytes ∧ z.cells.size = i.size then bH i.size i.bytes s x h else none
     | none => none
    | none => none
   | _, _ => none
  | _, _ => none
 | _ => none
def kM (o : Oper) (env : fQ) (h : Hp) : aG :=
 match o.op with
 | .move x => some (opr env x, h)
 | .assign x => some (opr env x, h)
 | .pick c a b => cA (opr env c) (opr env a) (opr env b) h
 | .alloc t => match C.P.info? t with
  | some i => match i.zero with
   | some z => cJ (zsD z) h
   | none => none
  | none => none
 | .box _ x => iB (opr env x) h
 | .build t ps => match C.P.underlying t, C.P.info? t with
  | some (.struct fs), some i => match i.zero, fs.toList.mapM (fun f => (C.P.info? f.type).map fun fi => (f.offset, fi.size)) with
   | some z, some pl => match ps.toList.mapM (fun (q : Nat × Operand) => (pl[q.1]?).map fun s => (s.1, s.2, opr env q.2)) with
    | some l => cS (zsD z) l h
    | none => none
   | _, _ => none
  | _, _ => none
 | .buildSlice t n ps => match C.P.underlying t with
  | some (.slice e) => match C.P.info? e with
   | some i => match i.zero with
    | some z => if n * i.size ≤ 2 ^ 24 ∧ 0 < i.size ∧ z.cells.size = i.size then
     aO ((List.replicate n (zsD z)).flatten) n (ps.toList.map fun (q : Nat × Operand) => (q.1 * i.size, i.size, opr env q.2)) h else none
    | none => none
   | none => none
  | _ => none
 | .load t a => match C.P.underlying t, C.P.info? t with
  | some d, some i => bif kP d then aD i.size (opr env a) h else aB (opr env a) h
  | _, _ => none
 | .store t a x => match C.P.info? t with
  | some i => aC i.size (opr env a) (opr env x) h
  | none => none
 | .nilCheck x => bM (opr env x) h
 | .binOp op t x y _ => match C.P.underlying t with
  | some d => aVs op d (opr env x) (opr env y) h
  | none => none
 | .unOp op _ x => pJ op (opr env x) h
 | .convert src dst x => match C.P.underlying src, C.P.underlying dst with
  | some _, some (.int k) => qC k (opr env x) h
  | some .string, some .string => xQ (opr env x) h
  | some (.slice e), some .string => match C.P.underlying e with
   | some (.int .u8) => yO (opr env x) h
   | _ => none
  | _, _ => none
 | .makeFunc fn first captured => match fn with
  | .func g => some (.f g (first.toList.map (opr env)) (captured.toList.map (opr env)), h)
  | _ => none
 | .slice t x lo hi mx => match C.P.underlying t, mx with
  | some .string, none => eH (opr env x) (lo.map (opr env)) (hi.map (opr env)) h
  | some (.slice e), none => match C.P.info? e with
   | some i => dB i.size (opr env x) (lo.map (opr env)) (hi.map (opr env)) h
   | none => none
  | some (.slice e), some m => match C.P.info? e, hi with
   | some _, some hv => aBa (opr env x) (lo.map (opr env)) (opr env hv) (opr env m) h
   | _, _ => none
  | _, _ => none
 | .fieldAddr t x f => match C.P.underlying t with
  | some (.struct fs) => match fs[f]? with
   | some fl => match C.P.info? fl.type with
    | some i => if i.size = 0 then none else aA fl.offset (opr env x) h
    | none => none
   | none => none
  | _ => none
 | .field t x f => match C.P.underlying t with
  | some (.struct fs) => match fs[f]? with
   | some fl => match C.P.underlying fl.type, C.P.info? fl.type with
    | some d, some i => bif kP d then aAw fl.offset i.size (opr env x) h else eM fl.offset (opr env x) h
    | _, _ => none
   | none => none
  | _ => none
 | .indexAddr t x ix => match C.P.underlying t with
  | some (.slice e) => match C.P.info? e with
   | some i => aT i.size (opr env x) (opr env ix) h
   | none => none
  | some (.array n e) => match C.P.info? e with
   | some i => kS n i.size (opr env x) (opr env ix) h
   | none => none
  | _ => none
 | .index t x ix => match C.P.underlying t with
  | some .string => eP (opr env x) (opr env ix) h
  | _ => none
 | .extract x i => aH i (opr env x) h
 | .range t x => match C.P.underlying t with
  | some .string => yW (opr env x) h
  | _ => none
 | .next x str => if str then qX (opr env x) h else none
 | .call c => match c.callee with
  | .builtin b => oS C b c.argTypes.toList (c.args.toList.map (opr env)) h
  | .value f => dM C rec (opr env f) (c.args.toList.map (opr env)) h
  | .invoke _ _ => none
 | _ => none
def kJ (env : fQ) (d : Option Tmp) (v : DV) : fQ :=
 match d with
 | some t => fun j => bif Nat.beq j t then v else env j
 | none => env
def lZ (nt : Nat) : Option Tmp → Bool
 | some t => Nat.blt t nt
 | none => true
def bnd (r : aG) (k : DV → Hp → aG) : aG :=
 match r with
 | some (v, h) => k v h
 | none => none
def cB (c : DV) (a b : aG) : aG :=
 match c with
 | .b true => a
 | .b false => b
 | _ => none
def gD (g : DV) (want : Bool) (r : aG) (h : Hp) : aG :=
 match g with
 | .b x => if x == want then r else some (dK, h)
 | .t [] => some (dK, h)
 | _ => none
def aQb (all : Array Oper) (j : Nat) (env : fQ) : DV :=
 match (all[j]?).bind (·.dst) with
 | some d => env d
 | none => dK
def cU (all : Array Oper) (o : Oper) (env : fQ) (h : Hp) : aG :=
 match o.guard with
 | none => kM C rec o env h
 | some (j, want) => gD (aQb all j env) want (kM C rec o env h) h
@[reducible] noncomputable def cnd (b : Bool) (x : aG) : aG := Bool.rec (motive := fun _ => aG) none x b
noncomputable def bHh (nt : Nat) (all : Array Oper) (l : List Oper) (k : K) : K :=
 List.rec (motive := fun _ => K) k (fun o _ ih => fun env h =>
  cnd (lZ nt o.dst) (bnd (cU C rec all o env h) fun v h' => ih (kJ env o.dst v) h')) l
mutual
def DV.beq : DV → DV → Bool
 | .b x, .b y => x == y
 | .i q x, .i q' y => q == q' && x == y
 | .s x, .s y => uN x y
 | .p0, .p0 => true
 | .p x y, .p x' y' => x == x' && y == y'
 | .l0, .l0 => true
 | .le, .le => true
 | .l x y z w, .l x' y' z' w' => x == x' && y == y' && z == z' && w == w'
 | .m0, .m0 => true
 | .m x, .m x' => x == x'
 | .f0, .f0 => true
 | .f z x y, .f z' x' y' => z == z' && cAm x x' && cAm y y'
 | .n0, .n0 => true
 | .c x y, .c x' y' => x == x' && DV.beq y y'
 | .a x, .a y => cAm x y
 | .t x, .t y => cAm x y
 | _, _ => false
def cAm : List DV → List DV → Bool
 | [], [] => true
 | x :: xs, y :: ys => DV.beq x y && cAm xs ys
 | _, _ => false
end
def bX (r : aG) (v : DV) : Bool :=
 match r with
 | some (x, _) => DV.beq x v
 | none => false
inductive Cls where
 | pure
 | reads
 | makes
 | acts
 deriving DecidableEq
def bP (P : Program) : Op → Cls
 | .move _ | .assign _ | .pick _ _ _ | .nilCheck _ | .binOp .. | .unOp .. | .fieldAddr .. | .field .. | .index .. | .indexAddr .. | .extract .. | .makeFunc .. | .build .. => .pure
 | .convert src _ _ => match P.underlying src with
  | some (.slice _) => .reads
  | _ => .pure
 | .slice t _ _ _ mx => match P.underlying t with
  | some .string => .pure
  | _ => match mx with
   | none => .reads
   | some _ => .acts
 | .load .. => .reads
 | .alloc _ => .makes
 | .box .. => .makes
 | .buildSlice .. => .makes
 | .call { callee := .builtin .len, .. } => .pure
 | .call { callee := .builtin .min, .. } => .pure
 | .call { callee := .builtin .max, .. } => .pure
 | _ => .acts
def iN (o : Oper) (b : Pos) (env : fQ) (h : Hp) : aG :=
 match o.op with
 | .alloc t => match C.P.info? t with
  | some i => match i.zero with
   | some z => qE b (zsD z) h
   | none => none
  | none => none
 | .box _ x => aXv b (opr env x) h
 | .buildSlice t n ps => match C.P.underlying t with
  | some (.slice e) => match C.P.info? e with
   | some i => match i.zero with
    | some z => if n * i.size ≤ 2 ^ 24 ∧ 0 < i.size ∧ z.cells.size = i.size then
     aY b ((List.replicate n (zsD z)).flatten) n (ps.toList.map fun (q : Nat × Operand) => (q.1 * i.size, i.size, opr env q.2)) h else none
    | none => none
   | none => none
  | _ => none
 | _ => none
def dA : Nat → Pos → Pos
 | 0, p => p
 | n + 1, p => dA n p.succ
def gT (k : Nat) (h : Hp) : Hp :=
 match k with
 | 0 => h
 | k + 1 => ⟨dA (k + 1) h.next, h.bl⟩
def cE (P : Program) (l : List Oper) : Nat :=
 match l with
 | [] => 0
 | o :: l => (match bP P o.op with
  | .makes => 1
  | _ => 0) + cE P l
def jU (m : Array Nat) (i j : Nat) : Bool := (m.getD j 0).testBit i
def nK (P : Program) (ops : Array Oper) : Bool :=
 let m := Region.before ops
 (List.range ops.size).all fun j =>
  (match ops[j]? with
   | some y => (y.after.all fun e => !Region.binds .any e || Nat.blt e.on j) &&
    (match y.guard with
     | some (g, _) => jU m g j && !(bP P y.op == .makes)
     | none => true) &&
    (List.range j).all fun i =>
     match ops[i]? with
     | some x => jU m i j || (Oper.apart ops x y && !((bP P x.op == .acts || bP P x.op == .makes) && bP P y.op == .acts))
     | none => false
   | none => false)
structure Seen where
 at_ : Nat
 look : Hp → aG
 v : DV
def lF (m : Array Nat) (i : Nat) (v : DV) (look : Hp → aG) : Bool → List (Option Nat × Hp) → Bool
 | _, [] => true
 | dirty, (j, hj) :: rest =>
  (bif dirty then bX (look hj) v else true) && (match j with
   | none => true
   | some j => bif jU m j i then true else lF m i v look true rest)
noncomputable def tS (nt : Nat) (all : Array Oper) (m : Array Nat) (p0 : Pos) (l : List Oper) (k : K) : Nat → Nat → Bool → List Seen → List (Option Nat × Hp) → K :=
 List.rec (motive := fun _ => Nat → Nat → Bool → List Seen → List (Option Nat × Hp) → K) (fun _ _ _ _ _ => k) (fun o _ ih => fun i c dirty rd hs env h =>
  cnd (lZ nt o.dst) (
   match bP C.P o.op with
   | .pure => bnd (cU C rec all o env h) fun v h' => ih (i + 1) c dirty rd hs (kJ env o.dst v) h'
   | .reads => bnd (cU C rec all o env h) fun v h' =>
    cnd (lF m i v (cU C rec all o env) dirty hs) (ih (i + 1) c dirty (⟨i, cU C rec all o env, v⟩ :: rd) hs (kJ env o.dst v) h')
   | .makes => bnd (iN C o (dA c p0) env h) fun v h' => ih (i + 1) (c + 1) true rd hs (kJ env o.dst v) h'
   | .acts => bnd (cU C rec all o env h) fun v h' =>
    cnd (rd.all (fun q => jU m q.at_ i || bX (q.look h') q.v)) (ih (i + 1) c false rd ((some i, h') :: hs) (kJ env o.dst v) h'))) l
noncomputable def aRw (nt : Nat) (ops : Array Oper) (k : K) : K := fun env h =>
 tS C rec nt ops (Region.before ops) h.next ops.toList k 0 0 false [] [(none, gT (cE C.P ops.toList) h)] env (gT (cE C.P ops.toList) h)
def oY : K := fun _ _ => none
noncomputable def aN (body : K → K) (n : Nat) : K :=
 Nat.rec (motive := fun _ => K) oY (fun _ ih => body ih) n
noncomputable def aU (nt n : Nat) (c : Code) : (Nat → K) → K → K → K :=
 Code.rec (motive := fun _ => (Nat → K) → K → K → K)
  (fun _ _ k => k)
  (fun _ ops dr _ _ k => Bool.rec (motive := fun _ => K) (bHh C rec nt ops ops.toList k) (Bool.rec (motive := fun _ => K) oY (aRw C rec nt ops k) (nK C.P ops)) dr)
  (fun _ _ iha ihb X kr k => iha X kr (ihb X kr k))
  (fun c _ _ iha ihb X kr k => fun env h => cB (opr env c) (iha X kr k env h) (ihb X kr k env h))
  (fun id _ ih X kr k => ih (fun j => bif Nat.beq j id then k else X j) kr k)
  (fun _ ih X kr _ => aN (fun kk => ih X kr kk) n)
  (fun _ _ _ _ _ _ _ _ _ => oY)
  (fun id X _ _ => X id)
  (fun _ ih X kr k => ih X kr k)
  (fun _ _ _ k => k)
  (fun _ _ _ _ => oY)
  (fun _ kr _ => kr)
  (fun _ _ _ _ => oY) c
def aVq (t : TypeId) (x : DV) (h : Hp) (k : DV → aG) : aG :=
 match C.P.underlying t, C.P.info? t with
 | some d, some i => bnd (bif kP d then aD i.size x h else aB x h) fun v _ => k v
 | _, _ => none
noncomputable def bHy (env : fQ) (h : Hp) (l : List ResultVar) : (List DV → aG) → aG :=
 List.rec (motive := fun _ => (List DV → aG) → aG) (fun k => k []) (fun r _ ih k => match r with
  | .tmp t => ih fun vs => k (env t :: vs)
  | .cell a t => aVq C t (env a) h fun v => ih fun vs => k (v :: vs)) l
def bJm (h : Hp) (vs : List DV) : aG :=
 match vs with
 | [v] => some (v, h)
 | vs => some (.t vs, h)
noncomputable def bT (fn : Func) : K := fun env h => bHy C env h fn.results.toList (bJm h)
def uX (args : List DV) : fQ := fun t => args.getD t dK
noncomputable def aM (n : Nat) (f : FuncId) (args : List DV) (h : Hp) : aG :=
 match C.P.funcs[f]? with
 | some fn => match fn.body with
  | some c => aU C rec fn.ntmps n c (fun _ => oY) (bT C fn) (bT C fn) (uX args) h
  | none => none
 | none => none
end
noncomputable def fnD (C : Cfg) (n : Nat) : FuncId → List DV → Hp → aG :=
 Nat.rec (motive := fun _ => FuncId → List DV → Hp → aG) (fun _ _ _ => none) (fun m ih => aM C ih m) n
end
end Go.Dd

namespace Go.Dd
theorem cBm : ∀ p : Pos, 0 < p.toNat
 | .h => by simp [Pos.toNat]
 | .o p => by have := cBm p; simp [Pos.toNat]; omega
 | .i p => by simp [Pos.toNat]
theorem bZm : ∀ p : Pos, p.succ.toNat = p.toNat + 1
 | .h => rfl
 | .o p => rfl
 | .i p => by have := bZm p; simp [cBy, cBz, cCa, Pos.toNat, this]; omega
theorem bZf {α : Type} (x : α) : ∀ (p : Pos) (t : Tr α), (Tr.set x p t).get p = some x
 | .h, .e => rfl
 | .h, .n _ _ _ => rfl
 | .o p, .e => by simp [bZr, cAc, cAd, cAe, bZs, bZt, bZu, bZv, bZw, bZx, bZf x p]
 | .o p, .n l _ _ => by simp [bZr, cAc, cAd, cAe, bZs, bZt, bZu, bZv, bZw, bZx, bZf x p]
 | .i p, .e => by simp [bZr, cAc, cAd, cAe, bZs, bZt, bZu, bZv, bZw, bZx, bZf x p]
 | .i p, .n _ _ r => by simp [bZr, cAc, cAd, cAe, bZs, bZt, bZu, bZv, bZw, bZx, bZf x p]
theorem cAv {α : Type} (q : Pos) : (Tr.e : Tr α).get q = none := by cases q <;> rfl
theorem bZd {α : Type} (x : α) : ∀ (p q : Pos) (t : Tr α), q ≠ p → (Tr.set x p t).get q = t.get q
 | .h, .h, _, hn => absurd rfl hn
 | .h, .o q, .e, _ => by simp [bZr, cAc, cAd, cAe, bZs, bZt, bZu, bZv, bZw, bZx, cAv]
 | .h, .i q, .e, _ => by simp [bZr, cAc, cAd, cAe, bZs, bZt, bZu, bZv, bZw, bZx, cAv]
 | .h, .o q, .n _ _ _, _ => rfl
 | .h, .i q, .n _ _ _, _ => rfl
 | .o p, .h, .e, _ => rfl
 | .o p, .o q, .e, hn => by simp only [bZr, cAc, cAd, cAe, bZs, bZt, bZu, bZv, bZw, bZx]; rw [bZd x p q _ (fun e => hn (by rw [e]))]; simp [cAv]
 | .o p, .i q, .e, _ => by simp [bZr, cAc, cAd, cAe, bZs, bZt, bZu, bZv, bZw, bZx, cAv]
 | .o p, .h, .n _ _ _, _ => rfl
 | .o p, .o q, .n l _ _, hn => by simp only [bZr, cAc, cAd, cAe, bZs, bZt, bZu, bZv, bZw, bZx]; exact bZd x p q l (fun e => hn (by rw [e]))
 | .o p, .i q, .n _ _ _, _ => rfl
 | .i p, .h, .e, _ => rfl
 | .i p, .i q, .e, hn => by simp only [bZr, cAc, cAd, cAe, bZs, bZt, bZu, bZv, bZw, bZx]; rw [bZd x p q _ (fun e => hn (by rw [e]))]; simp [cAv]
 | .i p, .o q, .e, _ => by simp [bZr, cAc, cAd, cAe, bZs, bZt, bZu, bZv, bZw, bZx, cAv]
 | .i p, .h, .n _ _ _, _ => rfl
 | .i p, .i q, .n _ _ r, hn => by simp only [bZr, cAc, cAd, cAe, bZs, bZt, bZu, bZv, bZw, bZx]; exact bZd x p q r (fun e => hn (by rw [e]))
 | .i p, .o q, .n _ _ _, _ => rfl
theorem bZq {α : Type} (x : α) (p q : Pos) (t : Tr α) : (Tr.set x p t).get q = if q = p then some x else t.get q := by
 split
 ·rename_i h; subst h; exact bZf x _ t
 ·rename_i h; exact bZd x p q t h
structure Loc where
 bl : Nat
 of : Nat
 sp : Nat
 spot : Option Nat
abbrev Ren := Pos → Option Loc
def Ext (ρ ρ' : Ren) : Prop := ∀ b L, ρ b = some L → ρ' b = some L
theorem Ext.refl (ρ : Ren) : Ext ρ ρ := fun _ _ h => h
theorem Ext.trans {a b c : Ren} (h : Ext a b) (k : Ext b c) : Ext a c := fun x L hx => k x L (h x L hx)
def fL (L : Loc) (i : Nat) : Addr := ⟨L.bl, L.of + i, if i = 0 then L.spot else none⟩
theorem jD {L : Loc} {i j : Nat} (h : fL L i = fL L j) : i = j := by
 simp [fL] at h; exact h.1
mutual
inductive VR (ρ : Ren) : DV → Value → Prop
 | u (v : Value) : VR ρ .u v
 | b (x : Bool) : VR ρ (.b x) (.bool x)
 | i (k : IntKind) (n : Int) : VR ρ (.i k n) (.int k n)
 | s (l : List Nat) (bs : ByteArray) (h : bs.data.toList.map (·.toNat) = l) : VR ρ (.s l) (.string bs)
 | p0 : VR ρ .p0 (.pointer none)
 | p (b : Pos) (o : Nat) (L : Loc) (h : ρ b = some L) : VR ρ (.p b o) (.pointer (some (fL L o)))
 | l0 : VR ρ .l0 (.slice none 0 0)
 | le (a : Addr) (c : Nat) : VR ρ .le (.slice (some a) 0 c)
 | l (b : Pos) (o len cap : Nat) (L : Loc) (h : ρ b = some L) : VR ρ (.l b o len cap) (.slice (some (fL L o)) len (cap + L.sp))
 | m0 : VR ρ .m0 (.map none)
 | m (b : Pos) (L : Loc) (h : ρ b = some L) : VR ρ (.m b) (.map (some L.bl))
 | f0 : VR ρ .f0 .nilFunc
 | f (g : FuncId) (x y : List DV) (x' y' : Array Value) (hx : VRs ρ x x'.toList) (hy : VRs ρ y y'.toList) : VR ρ (.f g x y) (.func (.func g) x' y')
 | n0 : VR ρ .n0 .nilIface
 | c (t : TypeId) (v : DV) (v' : Value) (h : VR ρ v v') : VR ρ (.c t v) (.iface t v')
 | a (x : List DV) (x' : Array Value) (h : VRs ρ x x'.toList) : VR ρ (.a x) (.agg x')
 | t (x : List DV) (x' : Array Value) (h : VRs ρ x x'.toList) : VR ρ (.t x) (.tuple x')
inductive VRs (ρ : Ren) : List DV → List Value → Prop
 | nil : VRs ρ [] []
 | cons (x : DV) (x' : Value) (l : List DV) (l' : List Value) (h : VR ρ x x') (hs : VRs ρ l l') : VRs ρ (x :: l) (x' :: l')
end
mutual
theorem VR.mono {ρ ρ' : Ren} (e : Ext ρ ρ') : ∀ {x : DV} {x' : Value}, VR ρ x x' → VR ρ' x x'
 | _, _, .u v => .u v
 | _, _, .b x => .b x
 | _, _, .i k n => .i k n
 | _, _, .s l bs h => .s l bs h
 | _, _, .p0 => .p0
 | _, _, .p b o L h => .p b o L (e _ _ h)
 | _, _, .l0 => .l0
 | _, _, .le a c => .le a c
 | _, _, .l b o n c L h => .l b o n c L (e _ _ h)
 | _, _, .m0 => .m0
 | _, _, .m b L h => .m b L (e _ _ h)
 | _, _, .f0 => .f0
 | _, _, .f g x y x' y' hx hy => .f g x y x' y' (VRs.mono e hx) (VRs.mono e hy)
 | _, _, .n0 => .n0
 | _, _, .c t v v' h => .c t v v' (VR.mono e h)
 | _, _, .a x x' h => .a x x' (VRs.mono e h)
 | _, _, .t x x' h => .t x x' (VRs.mono e h)
theorem VRs.mono {ρ ρ' : Ren} (e : Ext ρ ρ') : ∀ {x : List DV} {x' : List Value}, VRs ρ x x' → VRs ρ' x x'
 | _, _, .nil => .nil
 | _, _, .cons x x' l l' h hs => .cons x x' l l' (VR.mono e h) (VRs.mono e hs)
end
theorem VRs.length {ρ : Ren} : ∀ {x : List DV} {x' : List Value}, VRs ρ x x' → x.length = x'.length
 | _, _, .nil => rfl
 | _, _, .cons _ _ _ _ _ hs => by simp [VRs.length hs]
theorem VRs.get {ρ : Ren} : ∀ {x : List DV} {x' : List Value}, VRs ρ x x' → ∀ (i : Nat) (v : DV), x[i]? = some v → ∃ v', x'[i]? = some v' ∧ VR ρ v v'
 | _, _, .nil, i, v, h => by simp at h
 | _, _, .cons x x' l l' h hs, 0, v, hi => by simp at hi; subst hi; exact ⟨x', by simp, h⟩
 | _, _, .cons x x' l l' h hs, i + 1, v, hi => by simp at hi; simpa using VRs.get hs i v hi
theorem cCb {ρ : Ren} : ∀ {x : List DV} {x' : List Value}, x.length = x'.length → (∀ (i : Nat) v v', x[i]? = some v → x'[i]? = some v' → VR ρ v v') → VRs ρ x x'
 | [], [], _, _ => .nil
 | [], _ :: _, h, _ => by simp at h
 | _ :: _, [], h, _ => by simp at h
 | v :: x, v' :: x', h, hg => .cons _ _ _ _ (hg 0 v v' rfl rfl) (cCb (by simpa using h) fun i u u' hu hu' => hg (i + 1) u u' (by simpa using hu) (by simpa using hu'))
theorem VRs.append {ρ : Ren} : ∀ {x : List DV} {x' : List Value} {y : List DV} {y' : List Value}, VRs ρ x x' → VRs ρ y y' → VRs ρ (x ++ y) (x' ++ y')
 | _, _, _, _, .nil, h => h
 | _, _, _, _, .cons x x' l l' h hs, hy => .cons x x' _ _ h (VRs.append hs hy)
theorem VRs.take {ρ : Ren} : ∀ {x : List DV} {x' : List Value} (n : Nat), VRs ρ x x' → VRs ρ (x.take n) (x'.take n)
 | _, _, 0, _ => by simp; exact .nil
 | _, _, n + 1, .nil => by simp; exact .nil
 | _, _, n + 1, .cons x x' l l' h hs => by simp only [List.take_succ_cons]; exact .cons x x' _ _ h (VRs.take n hs)
theorem VRs.drop {ρ : Ren} : ∀ {x : List DV} {x' : List Value} (n : Nat), VRs ρ x x' → VRs ρ (x.drop n) (x'.drop n)
 | _, _, 0, h => by simpa using h
 | _, _, n + 1, .nil => by simp; exact .nil
 | _, _, n + 1, .cons x x' l l' h hs => by simp only [List.drop_succ_cons]; exact VRs.drop n hs
theorem VRs.map {ρ : Ren} {α : Type} (f : α → DV) (g : α → Value) (h : ∀ x, VR ρ (f x) (g x)) : ∀ l : List α, VRs ρ (l.map f) (l.map g)
 | [] => .nil
 | x :: l => .cons _ _ _ _ (h x) (VRs.map f g h l)
theorem cAj {ρ : Ren} {x : List DV} {x' : List Value} (h : VRs ρ x x') : ∀ n, VRs ρ (List.replicate n x).flatten (List.replicate n x').flatten
 | 0 => by simp; exact .nil
 | n + 1 => by simp only [List.replicate_succ, List.flatten_cons]; exact h.append (cAj h n)
def aNn : Value → Bool
 | .agg _ | .tuple _ => false
 | _ => true
theorem VR.one {ρ : Ren} {x : DV} {x' : Value} (h : VR ρ x x') (ho : x.one = true) : aNn x' = true := by
 cases h <;> first | rfl | (simp [DV.one] at ho)
theorem VR.cells {ρ : Ren} {x : DV} {x' : Value} {cs : List DV} (h : VR ρ x x') (hc : cF x = some cs) : VRs ρ cs x'.cells.toList := by
 cases h <;> simp [cF] at hc <;> subst hc <;> simp only [Value.cells] <;>
  first
  | assumption
  | exact .cons _ _ _ _ (by constructor <;> assumption) .nil
theorem VR.cv (ρ : Ren) (v : Value) : VR ρ (cv v) v := by
 unfold Dd.cv
 split <;> first | constructor <;> rfl | constructor
theorem cCm (ρ : Ren) (z : Value) : VRs ρ (zsD z) z.cells.toList := by
 unfold zsD
 generalize z.cells.toList = l
 induction l with
 | nil => exact .nil
 | cons x l ih => exact .cons _ _ _ _ (VR.cv ρ x) ih
theorem lS : ∀ a b : List Nat, uN a b = true ↔ a = b
 | [], [] => by simp [uN]
 | [], _ :: _ => by simp [uN]
 | _ :: _, [] => by simp [uN]
 | x :: a, y :: b => by simp [uN, lS a b]
mutual
theorem cBe : ∀ x y : DV, DV.beq x y = true → x = y
 | .b x, .b y, h => by simp [DV.beq] at h; rw [h]
 | .i q x, .i q' y, h => by simp [DV.beq] at h; rw [h.1, h.2]
 | .s x, .s y, h => by simp [DV.beq] at h; rw [(lS x y).1 h]
 | .p0, .p0, _ => rfl
 | .p x y, .p x' y', h => by simp [DV.beq] at h; rw [h.1, h.2]
 | .l0, .l0, _ => rfl
 | .le, .le, _ => rfl
 | .l x y z w, .l x' y' z' w', h => by simp [DV.beq] at h; rw [h.1.1.1, h.1.1.2, h.1.2, h.2]
 | .m0, .m0, _ => rfl
 | .m x, .m x', h => by simp [DV.beq] at h; rw [h]
 | .f0, .f0, _ => rfl
 | .f z x y, .f z' x' y', h => by simp [DV.beq] at h; rw [h.1.1, cAn _ _ h.1.2, cAn _ _ h.2]
 | .n0, .n0, _ => rfl
 | .c x y, .c x' y', h => by simp [DV.beq] at h; rw [h.1, cBe _ _ h.2]
 | .a x, .a y, h => by simp [DV.beq] at h; rw [cAn _ _ h]
 | .t x, .t y, h => by simp [DV.beq] at h; rw [cAn _ _ h]
theorem cAn : ∀ x y : List DV, cAm x y = true → x = y
 | [], [], _ => rfl
 | x :: xs, y :: ys, h => by simp [cAm] at h; rw [cBe _ _ h.1, cAn _ _ h.2]
 | [], _ :: _, h => by simp [cAm] at h
 | _ :: _, [], h => by simp [cAm] at h
end
end Go.Dd

namespace Go.Dd
open Go
def Facts (w : World) : Prop := (∃ m, w.cell? ⟨0, 0, none⟩ = some (.int .i64 m)) ∧ ∃ t z, w.heap[1]? = some (.cells (Lib.pow10Tab.map fun z => Value.int .u64 z).toArray t z)
theorem Facts.keep {w w' : World} (F : Facts w) (h : ∀ k, k < 2 → w'.heap[k]? = w.heap[k]?) : Facts w' := by
 obtain ⟨⟨m, hm⟩, t, z, ht⟩ := F
 refine ⟨⟨m, ?_⟩, t, z, by rw [h 1 (by omega)]; exact ht⟩
 rw [← hm]
 simp only [World.cell?]
 rw [h 0 (by omega)]
theorem Facts.two {w : World} (F : Facts w) : 2 ≤ w.heap.size := by
 obtain ⟨_, t, z, ht⟩ := F
 have := (Array.getElem?_eq_some_iff.1 ht).1
 omega
end Go.Dd

namespace Go.Dd
open Go.RowKit (Below)
theorem fH {w : World} {a : Addr} {v : Value} (h : w.cell? a = some v) : a.block < w.heap.size := World.block_lt_of_cell? w a h
theorem eT {w : World} {o : Obj} {a : Addr} (h : a.block < w.heap.size) : (w.alloc o).cell? a = w.cell? a := World.cell?_alloc_lt w o a h
theorem iI {w : World} {o : Obj} {a : Addr} (h : a.block ≠ w.heap.size) : (w.alloc o).frozen? a = w.frozen? a := World.frozen?_alloc_old w o a h
theorem vW {w : World} {a : Addr} {v u : Value} (h : w.cell? a = some u) : (w.setCell a v).cell? a = some v := World.cell?_setCell_same w a v h
theorem mH {w : World} {a b : Addr} {v : Value} (h : a ≠ b) : (w.setCell a v).cell? b = w.cell? b := World.cell?_setCell_other w a b v h
def Claims (ρ : Ren) (h : Hp) (b : Pos) (a : Addr) : Prop :=
 ∃ k l L, h.bl.get b = some (.row k l) ∧ ρ b = some L ∧
  ((∃ i v, l[i]? = some v ∧ v.one = true ∧ a = fL L i) ∨ (∃ es j, k = .gr es ∧ j < L.sp * es ∧ a = fL L (l.length + j)))
def isRo (h : Hp) (b : Pos) : Prop := ∃ l, h.bl.get b = some (.row .ro l)
structure Gd where
 B : Nat
 X : Nat → Prop
 N : Nat
 W : Array Obj
 ok : ∀ w : World, (∀ k, k < B → w.heap[k]? = W[k]?) → Facts w
def Own (G : Gd) (k : Nat) : Prop := G.B ≤ k ∧ ¬ G.X k
structure Kp (G : Gd) (w w' : World) : Prop where
 low : Below G.B w w'
 ex : ∀ k, G.X k → w'.heap[k]? = w.heap[k]?
theorem Kp.refl (G : Gd) (w : World) : Kp G w w := ⟨Below.refl _ w, fun _ _ => rfl⟩
theorem Kp.trans {G : Gd} {a b c : World} (h : Kp G a b) (k : Kp G b c) : Kp G a c := ⟨h.low.trans k.low, fun i hi => (k.ex i hi).trans (h.ex i hi)⟩
theorem Kp.drew {G : Gd} {a w : World} (h : Kp G a w) : Kp G a w.drew := ⟨h.low.drew, h.ex⟩
structure Ex (G : Gd) (ρ ρ' : Ren) : Prop where
 ext : Ext ρ ρ'
 new : ∀ b L, ρ' b = some L → ρ b = some L ∨ G.N ≤ b.toNat
theorem Ex.refl (G : Gd) (ρ : Ren) : Ex G ρ ρ := ⟨Ext.refl ρ, fun _ _ h => .inl h⟩
theorem Ex.trans {G : Gd} {a b c : Ren} (h : Ex G a b) (k : Ex G b c) : Ex G a c := ⟨h.ext.trans k.ext, fun x L hx => (k.new x L hx).elim (fun h1 => h.new x L h1) .inr⟩
structure HR (G : Gd) (ρ : Ren) (h : Hp) (w : World) : Prop where
 gl : ∀ k, k < G.B → w.heap[k]? = G.W[k]?
 sz : G.B ≤ w.heap.size ∧ ∀ k, G.X k → k < w.heap.size
 nx : G.N ≤ h.next.toNat
 ro : ∀ b a, Claims ρ h b a → isRo h b → a.block < G.B
 dom : ∀ b o, h.bl.get b = some o → ∃ L, ρ b = some L
 lt : ∀ b L, ρ b = some L → b.toNat < h.next.toNat
 cell : ∀ b k l L i v, h.bl.get b = some (.row k l) → ρ b = some L → l[i]? = some v → v.one = true → ∃ v', w.cell? (fL L i) = some v' ∧ VR ρ v v'
 spare : ∀ b l L es j, h.bl.get b = some (.row (.gr es) l) → ρ b = some L → j < L.sp * es → ∃ v', w.cell? (fL L (l.length + j)) = some v'
 free : ∀ b a, Claims ρ h b a → ¬ isRo h b → w.frozen? a = false ∧ Own G a.block
 inj : ∀ b b' a, Claims ρ h b a → Claims ρ h b' a → ¬ isRo h b → b = b'
 ex : ∀ b l L, h.bl.get b = some (.row .ro l) ∨ h.bl.get b = some (.row .ex l) → ρ b = some L → L.sp = 0
 grone : ∀ b es l (i : Nat) v, h.bl.get b = some (.row (.gr es) l) → l[i]? = some v → v.one = true
 itr : ∀ b s pos L, h.bl.get b = some (.it s pos) → ρ b = some L → Own G L.bl ∧ (L.of = 0 ∧ L.spot = none) ∧ ∃ bs, w.heap[L.bl]? = some (.stringIter bs pos) ∧ bs.data.toList.map (·.toNat) = s
 itj : ∀ b s pos b' s' pos' L L', h.bl.get b = some (.it s pos) → h.bl.get b' = some (.it s' pos') → ρ b = some L → ρ b' = some L' → L.bl = L'.bl → b = b'
def nH (ρ : Ren) (b : Pos) (L : Loc) : Ren := fun x => if x = b then some L else ρ x
theorem HR.fresh {G : Gd} {ρ : Ren} {h : Hp} {w : World} (H : HR G ρ h w) : ρ h.next = none := by
 cases hr : ρ h.next with
 | none => rfl
 | some L => exact absurd (H.lt _ _ hr) (Nat.lt_irrefl _)
theorem HR.fresh_get {G : Gd} {ρ : Ren} {h : Hp} {w : World} (H : HR G ρ h w) : h.bl.get h.next = none := by
 cases hr : h.bl.get h.next with
 | none => rfl
 | some o => obtain ⟨L, hL⟩ := H.dom _ _ hr; rw [H.fresh] at hL; cases hL
theorem HR.ext {G : Gd} {ρ : Ren} {h : Hp} {w : World} (H : HR G ρ h w) (L : Loc) : Ext ρ (nH ρ h.next L) := by
 intro b L' hb
 unfold nH
 split
 ·rename_i e; subst e; rw [H.fresh] at hb; cases hb
 ·exact hb
theorem bR (ρ : Ren) (b : Pos) (L : Loc) : nH ρ b L b = some L := by simp [nH]
theorem aP (ρ : Ren) {b x : Pos} (L : Loc) (h : x ≠ b) : nH ρ b L x = ρ x := by simp [nH, h]
theorem HR.lt_cell {G : Gd} {ρ : Ren} {h : Hp} {w : World} (H : HR G ρ h w) {b : Pos} {a : Addr} (hc : Claims ρ h b a) : ∃ v, w.cell? a = some v := by
 obtain ⟨k, l, L, hb, hL, ⟨i, v, hi, hv, rfl⟩ | ⟨es, j, rfl, hj, rfl⟩⟩ := hc
 ·obtain ⟨v', h1, _⟩ := H.cell b k l L i v hb hL hi hv; exact ⟨v', h1⟩
 ·exact H.spare b l L es j hb hL hj
theorem HR.congr {G : Gd} {ρ : Ren} {h : Hp} {w w' : World} (H : HR G ρ h w) (e : w'.heap = w.heap) : HR G ρ h w' where
 gl := by rw [e]; exact H.gl
 sz := by rw [e]; exact H.sz
 nx := H.nx
 ro := H.ro
 dom := H.dom
 lt := H.lt
 cell := fun b k l L i v h1 h2 h3 h4 => by
  obtain ⟨v', h5, h6⟩ := H.cell b k l L i v h1 h2 h3 h4
  exact ⟨v', by simpa [World.cell?, e] using h5, h6⟩
 spare := fun b l L es j h1 h2 h3 => by
  obtain ⟨v', h5⟩ := H.spare b l L es j h1 h2 h3
  exact ⟨v', by simpa [World.cell?, e] using h5⟩
 free := fun b a h1 h2 => by simpa [World.frozen?, e] using H.free b a h1 h2
 inj := H.inj
 ex := H.ex
 grone := H.grone
 itr := fun b s pos L h1 h2 => by simpa [e] using H.itr b s pos L h1 h2
 itj := H.itj
theorem HR.drew {G : Gd} {ρ : Ren} {h : Hp} {w : World} (H : HR G ρ h w) : HR G ρ h w.drew := H.congr rfl
theorem bZk {ρ : Ren} {h : Hp} {o : Ob} {L : Loc} {b : Pos} {a : Addr} (hb : b ≠ h.next)
 (hc : Claims (nH ρ h.next L) ⟨h.next.succ, Tr.set o h.next h.bl⟩ b a) : Claims ρ h b a := by
 obtain ⟨k, l, L', h1, h2, h3⟩ := hc
 simp only [bZd _ _ _ _ hb] at h1
 rw [aP _ _ hb] at h2
 exact ⟨k, l, L', h1, h2, h3⟩
theorem hD {h : Hp} {o : Ob} {b : Pos} (hb : b ≠ h.next) : isRo ⟨h.next.succ, Tr.set o h.next h.bl⟩ b ↔ isRo h b := by
 simp [isRo, bZd _ _ _ _ hb]
theorem rX {G : Gd} {ρ : Ren} {h : Hp} {w : World} (H : HR G ρ h w) (L : Loc) : ∀ b L', nH ρ h.next L b = some L' → b.toNat < h.next.succ.toNat := by
 intro b L' hb
 rw [bZm]
 unfold nH at hb
 split at hb
 ·rename_i e; subst e; omega
 ·have := H.lt _ _ hb; omega
theorem HR.exx {G : Gd} {ρ : Ren} {h : Hp} {w : World} (H : HR G ρ h w) (L : Loc) : Ex G ρ (nH ρ h.next L) := ⟨H.ext L, fun b L' hb => by
 unfold nH at hb
 split at hb
 ·rename_i e; subst e; exact .inr H.nx
 ·exact .inl hb⟩
theorem HR.own_new {G : Gd} {ρ : Ren} {h : Hp} {w : World} (H : HR G ρ h w) : Own G w.heap.size := ⟨H.sz.1, fun hx => Nat.lt_irrefl _ (H.sz.2 _ hx)⟩
theorem gP {G : Gd} {w : World} (hB : G.B ≤ w.heap.size ∧ ∀ k, G.X k → k < w.heap.size) (o : Obj) : Kp G w (w.alloc o) :=
 ⟨(Below.refl _ w).alloc hB.1 o, fun k hk => Below.heap_alloc _ _ _ (hB.2 k hk)⟩
theorem HR.newRow {G : Gd} {ρ : Ren} {h : Hp} {w : World} (H : HR G ρ h w) (k : Kind) (cs : List DV) (vs : List Value) (arr : Array Value) (t : TypeId) (sp : Nat)
 (hcs : VRs ρ cs vs) (harr : ∀ (i : Nat) v, vs[i]? = some v → arr[i]? = some v)
 (hk : (k = .ex ∧ sp = 0) ∨ (∃ es, k = .gr es ∧ vs.length + sp * es ≤ arr.size ∧ ∀ v ∈ cs, v.one = true)) :
 HR G (nH ρ h.next ⟨w.heap.size, 0, sp, none⟩) ⟨h.next.succ, Tr.set (.row k cs) h.next h.bl⟩ (w.alloc (.cells arr t)) := by
 have hext := H.ext ⟨w.heap.size, 0, sp, none⟩
 have hro : k ≠ .ro := by rintro rfl; rcases hk with ⟨h1, _⟩ | ⟨es, h1, _, _⟩ <;> cases h1
 have hnew : ∀ a, Claims (nH ρ h.next ⟨w.heap.size, 0, sp, none⟩) ⟨h.next.succ, Tr.set (.row k cs) h.next h.bl⟩ h.next a → ∃ j, j < arr.size ∧ a = ⟨w.heap.size, j, none⟩ := by
  rintro a ⟨k', l', L', h1, h2, h3⟩
  simp only [bZf, bB, Ob.row.injEq] at h1
  obtain ⟨rfl, rfl⟩ := h1
  rw [bR] at h2
  cases h2
  rcases h3 with ⟨i, v, hi, hv, rfl⟩ | ⟨es, j, rfl, hj, rfl⟩
  ·obtain ⟨v', hv', _⟩ := hcs.get i v hi
   have := harr i v' hv'
   refine ⟨i, ?_, by simp [fL]⟩
   rcases Nat.lt_or_ge i arr.size with h | h
   ·exact h
   ·simp [Array.getElem?_eq_none h] at this
  ·refine ⟨cs.length + j, ?_, by simp [fL]⟩
   rcases hk with ⟨h1, _⟩ | ⟨es', h1, h2, _⟩
   ·cases h1
   ·cases h1
    rw [hcs.length]
    simp only at hj
    omega
 have hold : ∀ b a, b ≠ h.next → Claims (nH ρ h.next ⟨w.heap.size, 0, sp, none⟩) ⟨h.next.succ, Tr.set (.row k cs) h.next h.bl⟩ b a → a.block < w.heap.size := by
  intro b a hb hc
  obtain ⟨v, hv⟩ := H.lt_cell (bZk hb hc)
  exact fH hv
 refine { gl := fun k hk => by rw [Below.heap_alloc _ _ _ (Nat.lt_of_lt_of_le hk H.sz.1)]; exact H.gl k hk, sz := ?_, nx := ?_, ro := ?_, dom := ?_, lt := rX H _, cell := ?_, spare := ?_, free := ?_, inj := ?_, ex := ?_, grone := ?_, itr := ?_, itj := ?_ }
 ·obtain ⟨h1, h2⟩ := H.sz
  refine ⟨by simp; omega, fun k hk => ?_⟩
  have := h2 k hk
  simp; omega
 ·have := H.nx; simp only [bZm]; omega
 ·intro b a hc hr
  by_cases e : b = h.next
  ·subst e
   obtain ⟨l0, h0⟩ := hr
   simp only [bZf, bB, Ob.row.injEq] at h0
   exact absurd h0.1 hro
  ·exact H.ro b a (bZk e hc) ((hD e).1 hr)
 ·intro b o hb
  by_cases e : b = h.next
  ·subst e; exact ⟨_, bR _ _ _⟩
  ·rw [aP _ _ e]; simp only [bZd _ _ _ _ e] at hb; exact H.dom b o hb
 ·intro b k' l' L' i v hb hL hi hv
  by_cases e : b = h.next
  ·subst e
   simp only [bZf, bB, Ob.row.injEq] at hb
   obtain ⟨rfl, rfl⟩ := hb
   rw [bR] at hL
   cases hL
   obtain ⟨v', hv', hr⟩ := hcs.get i v hi
   refine ⟨v', ?_, hr.mono hext⟩
   have := harr i v' hv'
   simpa [fL] using this
  ·simp only [bZd _ _ _ _ e] at hb
   rw [aP _ _ e] at hL
   obtain ⟨v', h5, h6⟩ := H.cell b k' l' L' i v hb hL hi hv
   exact ⟨v', by rw [eT (fH h5)]; exact h5, h6.mono hext⟩
 ·intro b l' L' es j hb hL hj
  by_cases e : b = h.next
  ·subst e
   simp only [bZf, bB, Ob.row.injEq] at hb
   obtain ⟨rfl, rfl⟩ := hb
   rw [bR] at hL
   cases hL
   rcases hk with ⟨h1, _⟩ | ⟨es', h1, h2, _⟩
   ·cases h1
   ·cases h1
    simp only at hj
    have hlt : cs.length + j < arr.size := by rw [hcs.length]; omega
    exact ⟨arr[cs.length + j], by simp [fL, hlt]⟩
  ·simp only [bZd _ _ _ _ e] at hb
   rw [aP _ _ e] at hL
   obtain ⟨v', h5⟩ := H.spare b l' L' es j hb hL hj
   exact ⟨v', by rw [eT (fH h5)]; exact h5⟩
 ·intro b a hc hr
  by_cases e : b = h.next
  ·subst e
   obtain ⟨j, hj, rfl⟩ := hnew a hc
   exact ⟨by simp, H.own_new⟩
  ·have hlt := hold b a e hc
   have := H.free b a (bZk e hc) (fun h => hr ((hD e).2 h))
   rw [iI (by omega)]
   exact this
 ·intro b b' a hc hc' hr
  by_cases e : b = h.next
  ·subst e
   by_cases e' : b' = h.next
   ·exact e'.symm
   ·obtain ⟨j, hj, rfl⟩ := hnew a hc
    have := hold b' _ e' hc'
    exact absurd this (by simp)
  ·by_cases e' : b' = h.next
   ·subst e'
    obtain ⟨j, hj, rfl⟩ := hnew a hc'
    have := hold b _ e hc
    exact absurd this (by simp)
   ·exact H.inj b b' a (bZk e hc) (bZk e' hc') (fun h => hr ((hD e).2 h))
 ·intro b l' L' hb hL
  by_cases e : b = h.next
  ·subst e
   simp only [bZf, bB, Ob.row.injEq] at hb
   rw [bR] at hL
   cases hL
   rcases hk with ⟨_, h1⟩ | ⟨es, h1, _, _⟩
   ·exact h1
   ·rcases hb with ⟨h2, _⟩ | ⟨h2, _⟩ <;> rw [h1] at h2 <;> cases h2
  ·simp only [bZd _ _ _ _ e] at hb
   rw [aP _ _ e] at hL
   exact H.ex b l' L' hb hL
 ·intro b es l' i v hb hi
  by_cases e : b = h.next
  ·subst e
   simp only [bZf, bB, Ob.row.injEq] at hb
   obtain ⟨h1, rfl⟩ := hb
   rcases hk with ⟨h2, _⟩ | ⟨es', h2, _, h3⟩
   ·rw [h1] at h2; cases h2
   ·exact h3 v (List.mem_of_getElem? hi)
  ·simp only [bZd _ _ _ _ e] at hb
   exact H.grone b es l' i v hb hi
 ·intro b s pos L' hb hL
  by_cases e : b = h.next
  ·subst e; simp [bZf] at hb
  ·simp only [bZd _ _ _ _ e] at hb
   rw [aP _ _ e] at hL
   obtain ⟨h1, h2, bs, h3, h4⟩ := H.itr b s pos L' hb hL
   refine ⟨h1, h2, bs, ?_, h4⟩
   have hlt : L'.bl < w.heap.size := by
    rcases Nat.lt_or_ge L'.bl w.heap.size with h | h
    ·exact h
    ·simp [Array.getElem?_eq_none h] at h3
   rw [Below.heap_alloc _ _ _ hlt]
   exact h3
 ·intro b s pos b' s' pos' L1 L2 hb hb' hL hL' he
  by_cases e : b = h.next
  ·subst e; simp [bZf] at hb
  ·by_cases e' : b' = h.next
   ·subst e'; simp [bZf] at hb'
   ·simp only [bZd _ _ _ _ e] at hb
    simp only [bZd _ _ _ _ e'] at hb'
    rw [aP _ _ e] at hL
    rw [aP _ _ e'] at hL'
    exact H.itj b s pos b' s' pos' L1 L2 hb hb' hL hL' he
theorem HR.newEmpty {G : Gd} {ρ : Ren} {h : Hp} {w : World} (H : HR G ρ h w) (k : Kind) (L : Loc)
 (hk : (k = .ex ∧ L.sp = 0) ∨ k = .sp) :
 HR G (nH ρ h.next L) ⟨h.next.succ, Tr.set (.row k []) h.next h.bl⟩ w := by
 have hext := H.ext L
 have hnew : ∀ a, ¬ Claims (nH ρ h.next L) ⟨h.next.succ, Tr.set (.row k []) h.next h.bl⟩ h.next a := by
  rintro a ⟨k', l', L', h1, h2, h3⟩
  simp only [bZf, bB, Ob.row.injEq] at h1
  obtain ⟨rfl, rfl⟩ := h1
  rcases h3 with ⟨i, v, hi, hv, rfl⟩ | ⟨es, j, rfl, hj, rfl⟩
  ·simp at hi
  ·rcases hk with ⟨h1, _⟩ | h1 <;> cases h1
 refine { gl := H.gl, sz := H.sz, nx := ?_, ro := ?_, dom := ?_, lt := rX H _, cell := ?_, spare := ?_, free := ?_, inj := ?_, ex := ?_, grone := ?_, itr := ?_, itj := ?_ }
 ·have := H.nx; simp only [bZm]; omega
 ·intro b a hc hr
  by_cases e : b = h.next
  ·subst e; exact absurd hc (hnew a)
  ·exact H.ro b a (bZk e hc) ((hD e).1 hr)
 ·intro b o hb
  by_cases e : b = h.next
  ·subst e; exact ⟨_, bR _ _ _⟩
  ·rw [aP _ _ e]; simp only [bZd _ _ _ _ e] at hb; exact H.dom b o hb
 ·intro b k' l' L' i v hb hL hi hv
  by_cases e : b = h.next
  ·subst e
   simp only [bZf, bB, Ob.row.injEq] at hb
   obtain ⟨rfl, rfl⟩ := hb
   simp at hi
  ·simp only [bZd _ _ _ _ e] at hb
   rw [aP _ _ e] at hL
   obtain ⟨v', h5, h6⟩ := H.cell b k' l' L' i v hb hL hi hv
   exact ⟨v', h5, h6.mono hext⟩
 ·intro b l' L' es j hb hL hj
  by_cases e : b = h.next
  ·subst e
   simp only [bZf, bB, Ob.row.injEq] at hb
   rcases hk with ⟨h1, _⟩ | h1 <;> rw [h1] at hb <;> cases hb.1
  ·simp only [bZd _ _ _ _ e] at hb
   rw [aP _ _ e] at hL
   exact H.spare b l' L' es j hb hL hj
 ·intro b a hc hr
  by_cases e : b = h.next
  ·subst e; exact absurd hc (hnew a)
  ·exact H.free b a (bZk e hc) (fun h => hr ((hD e).2 h))
 ·intro b b' a hc hc' hr
  by_cases e : b = h.next
  ·subst e; exact absurd hc (hnew a)
  ·by_cases e' : b' = h.next
   ·subst e'; exact absurd hc' (hnew a)
   ·exact H.inj b b' a (bZk e hc) (bZk e' hc') (fun h => hr ((hD e).2 h))
 ·intro b l' L' hb hL
  by_cases e : b = h.next
  ·subst e
   simp only [bZf, bB, Ob.row.injEq] at hb
   rw [bR] at hL
   cases hL
   rcases hk with ⟨_, h1⟩ | h1
   ·exact h1
   ·rcases hb with ⟨h2, _⟩ | ⟨h2, _⟩ <;> rw [h1] at h2 <;> cases h2
  ·simp only [bZd _ _ _ _ e] at hb
   rw [aP _ _ e] at hL
   exact H.ex b l' L' hb hL
 ·intro b es l' i v hb hi
  by_cases e : b = h.next
  ·subst e
   simp only [bZf, bB, Ob.row.injEq] at hb
   obtain ⟨h1, rfl⟩ := hb
   simp at hi
  ·simp only [bZd _ _ _ _ e] at hb
   exact H.grone b es l' i v hb hi
 ·intro b s pos L' hb hL
  by_cases e : b = h.next
  ·subst e; simp [bZf] at hb
  ·simp only [bZd _ _ _ _ e] at hb
   rw [aP _ _ e] at hL
   exact H.itr b s pos L' hb hL
 ·intro b s pos b' s' pos' L1 L2 hb hb' hL hL' he
  by_cases e : b = h.next
  ·subst e; simp [bZf] at hb
  ·by_cases e' : b' = h.next
   ·subst e'; simp [bZf] at hb'
   ·simp only [bZd _ _ _ _ e] at hb
    simp only [bZd _ _ _ _ e'] at hb'
    rw [aP _ _ e] at hL
    rw [aP _ _ e'] at hL'
    exact H.itj b s pos b' s' pos' L1 L2 hb hb' hL hL' he
end Go.Dd

namespace Go.Dd
open Go.RowKit (Below)
theorem jA (L : Loc) (o i : Nat) : (fL L o).add i = fL L (o + i) := by
 unfold Addr.add fL
 split
 ·rename_i h; subst h; rfl
 ·rename_i h; simp [Nat.add_assoc]; intro _ h2; exact absurd h2 h
theorem vS {P : Program} {w : World} {a : Addr} {v x : Value} (h : w.cell? a = some x) (hf : w.frozen? a = false) (ho : aNn v = true) :
 (store a v).run P w = .ok () (w.setCell a v) := by
 cases v <;> simp [aNn] at ho <;> simp [store, Sem.run, h, hf]
structure Wrote (w w' : World) (L : Loc) (n : Nat) (vs : List Value) : Prop where
 os : w'.os = w.os
 tape : w'.tape = w.tape
 output : w'.output = w.output
 size : w'.heap.size = w.heap.size
 block : ∀ k : Nat, k ≠ L.bl → w'.heap[k]? = w.heap[k]?
 new : ∀ (j : Nat) v, vs[j]? = some v → w'.cell? (fL L (n + j)) = some v
 old : ∀ a, (∀ j, j < vs.length → a ≠ fL L (n + j)) → w'.cell? a = w.cell? a
 frozen : ∀ a, w'.frozen? a = w.frozen? a
 kept : ∀ bs pos (k : Nat), w.heap[k]? = some (Obj.stringIter bs pos) → w'.heap[k]? = some (Obj.stringIter bs pos)
 no : vs = [] → w' = w
theorem Wrote.nil (w : World) (L : Loc) (n : Nat) : Wrote w w L n [] :=
 ⟨rfl, rfl, rfl, rfl, fun _ _ => rfl, by simp, fun _ _ => rfl, fun _ => rfl, fun _ _ _ h => h, fun _ => rfl⟩
theorem yA {w : World} {a : Addr} {v : Value} {bs : ByteArray} {pos k : Nat} (h : w.heap[k]? = some (.stringIter bs pos)) :
 (w.setCell a v).heap[k]? = some (.stringIter bs pos) := by
 simp only [World.setCell, Array.getElem?_modify]
 split
 ·rename_i e; subst e; rw [h]; rfl
 ·exact h
theorem Wrote.cons {w w' : World} {L : Loc} {n : Nat} {v x : Value} {vs : List Value} (hx : w.cell? (fL L n) = some x)
 (h : Wrote (w.setCell (fL L n) v) w' L (n + 1) vs) : Wrote w w' L n (v :: vs) where
 os := h.os
 tape := h.tape
 output := h.output
 size := by rw [h.size]; simp
 block := fun k hk => by rw [h.block k hk, Below.heap_setCell _ _ _ _ (by simpa [fL] using hk)]
 new := fun j u hj => by
  cases j with
  | zero =>
   simp at hj; subst hj
   rw [Nat.add_zero, h.old _ (fun j hj e => by have := jD e; omega)]
   exact vW hx
  | succ j => simp at hj; have := h.new j u hj; rwa [show n + (j + 1) = n + 1 + j from by omega]
 old := fun a ha => by
  rw [h.old a (fun j hj e => ha (j + 1) (by simp; omega) (by rw [e]; congr 1; omega))]
  exact mH (fun e => ha 0 (by simp) (by rw [← e]; rfl))
 frozen := fun a => by rw [h.frozen]; simp
 kept := fun bs pos k hk => h.kept bs pos k (yA hk)
 no := fun e => (by cases e)
theorem jP {P : Program} {L : Loc} : ∀ (vs : List Value) (o i : Nat) (w : World),
 (∀ j, j < vs.length → (∃ x, w.cell? (fL L (o + i + j)) = some x) ∧ w.frozen? (fL L (o + i + j)) = false) → (∀ v ∈ vs, aNn v = true) →
 ∃ w', (storeCells (fL L o) vs i).run P w = .ok () w' ∧ Wrote w w' L (o + i) vs
 | [], o, i, w, _, _ => ⟨w, by simp [storeCells], Wrote.nil _ _ _⟩
 | v :: vs, o, i, w, hc, ho => by
  obtain ⟨⟨x, hx⟩, hf⟩ := hc 0 (by simp)
  rw [Nat.add_zero] at hx hf
  have hov : aNn v = true := ho v (by simp)
  have hr := vS (P := P) hx hf hov
  obtain ⟨w', h1, h2⟩ := jP (P := P) (L := L) vs o (i + 1) (w.setCell (fL L (o + i)) v) (fun j hj => by
   have h0 := hc (j + 1) (by simp; omega)
   have e : o + i + (j + 1) = o + (i + 1) + j := by omega
   rw [e] at h0
   refine ⟨?_, by simp [h0.2]⟩
   obtain ⟨x', hx'⟩ := h0.1
   exact ⟨x', by rw [mH (fun e => by have := jD e; omega)]; exact hx'⟩) (fun u hu => ho u (by simp [hu]))
  refine ⟨w', ?_, Wrote.cons hx h2⟩
  simp only [storeCells, Sem.run_bind, jA, hr, Result.andThen_ok]
  exact h1
theorem Wrote.below {G : Gd} {w w' : World} {L : Loc} {n : Nat} {vs : List Value} (h : Wrote w w' L n vs) (hB : Own G L.bl) : Kp G w w' :=
 ⟨⟨h.os, h.tape, h.output, by rw [h.size]; exact Nat.le_refl _, fun k hk => h.block k (fun e => by have := hB.1; omega)⟩, fun k hk => h.block k (fun e => hB.2 (e ▸ hk))⟩
theorem wX : ∀ (l vs l' : List DV), qD l vs = some l' → l'.length = l.length ∧ vs.length ≤ l.length ∧
 (∀ v ∈ vs, v.one = true) ∧ (∀ (j : Nat) v, vs[j]? = some v → l'[j]? = some v ∧ ∃ x, l[j]? = some x ∧ x.one = true) ∧ (∀ j, vs.length ≤ j → l'[j]? = l[j]?)
 | l, [], l', h => by
  have : l' = l := by cases l <;> simp [qD] at h <;> simp [h]
  subst this; simp
 | [], v :: vs, l', h => by simp [qD] at h
 | x :: l, v :: vs, l', h => by
  simp only [qD] at h
  split at h
  ·rename_i hx
   simp only [Bool.and_eq_true] at hx
   cases hp : qD l vs with
   | none => rw [hp] at h; simp at h
   | some l1 =>
    rw [hp] at h; simp at h; subst h
    obtain ⟨h1, h2, h3, h4, h5⟩ := wX l vs l1 hp
    refine ⟨by simp [h1], by simp; exact h2, ?_, ?_, ?_⟩
    ·intro u hu
     simp at hu
     rcases hu with rfl | hu
     ·exact hx.2
     ·exact h3 u hu
    ·intro j u hj
     cases j with
     | zero => simp at hj; subst hj; exact ⟨by simp, x, by simp, hx.1⟩
     | succ j => simp at hj; simpa using h4 j u hj
    ·intro j hj
     cases j with
     | zero => simp at hj
     | succ j => simp at hj; simpa using h5 j hj
  ·cases h
theorem nV : ∀ (n : Nat) (l vs l' : List DV), jS n l vs = some l' → l'.length = l.length ∧ (vs ≠ [] → n + vs.length ≤ l.length) ∧
 (∀ v ∈ vs, v.one = true) ∧ (∀ (j : Nat) v, vs[j]? = some v → l'[n + j]? = some v ∧ ∃ x, l[n + j]? = some x ∧ x.one = true) ∧ (∀ j, (j < n ∨ n + vs.length ≤ j) → l'[j]? = l[j]?)
 | 0, l, vs, l', h => by
  obtain ⟨h1, h2, h3, h4, h5⟩ := wX l vs l' (by simpa [jS] using h)
  exact ⟨h1, fun _ => by omega, h3, by simpa using h4, fun j hj => h5 j (by omega)⟩
 | n + 1, [], vs, l', h => by
  simp only [jS] at h
  split at h
  ·rename_i hv
   simp at hv h
   subst hv; subst h
   simp
  ·cases h
 | n + 1, x :: l, vs, l', h => by
  simp only [jS] at h
  cases hp : jS n l vs with
  | none => rw [hp] at h; simp at h
  | some l1 =>
   rw [hp] at h; simp at h; subst h
   obtain ⟨h1, h2, h3, h4, h5⟩ := nV n l vs l1 hp
   refine ⟨by simp [h1], fun hv => by have := h2 hv; simp; omega, h3, ?_, ?_⟩
   ·intro j u hj
    have := h4 j u hj
    rw [show n + 1 + j = (n + j) + 1 from by omega]
    simpa using this
   ·intro j hj
    cases j with
    | zero => simp
    | succ j => simpa using h5 j (by omega)
theorem aFs {ρ : Ren} {h : Hp} {b : Pos} {k : Kind} {l l' : List DV} (hb : h.bl.get b = some (.row k l)) (hlen : l'.length = l.length)
 (hone : ∀ (i : Nat) v', l'[i]? = some v' → v'.one = true → ∃ v, l[i]? = some v ∧ v.one = true) {x : Pos} {a : Addr}
 (hc : Claims ρ ⟨h.next, Tr.set (.row k l') b h.bl⟩ x a) : Claims ρ h x a := by
 obtain ⟨k1, l1, L, h1, h2, h3⟩ := hc
 by_cases e : x = b
 ·subst e
  simp only [bZf, bB, Ob.row.injEq] at h1
  obtain ⟨rfl, rfl⟩ := h1
  refine ⟨k, l, L, hb, h2, ?_⟩
  rcases h3 with ⟨i, v, hi, hv, rfl⟩ | ⟨es, j, rfl, hj, rfl⟩
  ·obtain ⟨v0, h5, h6⟩ := hone i v hi hv
   exact .inl ⟨i, v0, h5, h6, rfl⟩
  ·exact .inr ⟨es, j, rfl, hj, by rw [hlen]⟩
 ·simp only [bZd _ _ _ _ e] at h1
  exact ⟨k1, l1, L, h1, h2, h3⟩
theorem HR.put {G : Gd} {ρ : Ren} {h : Hp} {w w' : World} (H : HR G ρ h w) {b : Pos} {k : Kind} {l l' : List DV} {L : Loc} {n : Nat} {vs : List DV} {vs' : List Value}
 (hb : h.bl.get b = some (.row k l)) (hL : ρ b = some L) (hk : k.writable = true) (hp : jS n l vs = some l') (hvs : VRs ρ vs vs') (hw : Wrote w w' L n vs') :
 HR G ρ ⟨h.next, Tr.set (.row k l') b h.bl⟩ w' := by
 obtain ⟨p1, p2, p3, p4, p5⟩ := nV n l vs l' hp
 have hlen := hvs.length
 have hone : ∀ (i : Nat) v', l'[i]? = some v' → v'.one = true → ∃ v, l[i]? = some v ∧ v.one = true := by
  intro i v' hi hv
  by_cases hin : n ≤ i ∧ i < n + vs.length
  ·have hlt : i - n < vs.length := by omega
   obtain ⟨_, x, hx, ho⟩ := p4 (i - n) vs[i - n] (by simp [hlt])
   rw [show n + (i - n) = i from by omega] at hx
   exact ⟨x, hx, ho⟩
  ·rw [p5 i (by omega)] at hi
   exact ⟨v', hi, hv⟩
 have hroB : ¬ isRo h b := by
  rintro ⟨l0, h0⟩
  rw [hb] at h0; simp at h0
  rw [h0.1] at hk; cases hk
 have hro : ∀ x, isRo ⟨h.next, Tr.set (.row k l') b h.bl⟩ x ↔ isRo h x := by
  intro x
  by_cases e : x = b
  ·subst e
   simp only [isRo, bZf, hb]
   constructor
   ·rintro ⟨l0, h0⟩; simp at h0; rw [h0.1] at hk; cases hk
   ·rintro ⟨l0, h0⟩; simp at h0; rw [h0.1] at hk; cases hk
  ·simp [isRo, bZd _ _ _ _ e]
 have hcl : ∀ {x a}, Claims ρ ⟨h.next, Tr.set (.row k l') b h.bl⟩ x a → Claims ρ h x a := fun hc => aFs hb p1 hone hc
 have hother : ∀ x a, x ≠ b → Claims ρ h x a → ∀ j, j < vs'.length → a ≠ fL L (n + j) := by
  intro x a hx hc j hj e
  have hj' : j < vs.length := by omega
  obtain ⟨_, x0, hx0, ho⟩ := p4 j vs[j] (by simp [hj'])
  have hcb : Claims ρ h b a := ⟨k, l, L, hb, hL, .inl ⟨n + j, x0, hx0, ho, e⟩⟩
  exact hx (H.inj b x a hcb hc hroB).symm
 have hgl : ∀ k, k < G.B → w'.heap[k]? = G.W[k]? := by
  intro k hk
  cases vs' with
  | nil => rw [hw.no rfl]; exact H.gl k hk
  | cons v0 vr =>
   have h0 : 0 < vs.length := by rw [hlen]; simp
   obtain ⟨_, x, hx, ho⟩ := p4 0 vs[0] (by simp [h0])
   have hcb : Claims ρ h b (fL L (n + 0)) := ⟨_, l, L, hb, hL, .inl ⟨n + 0, x, hx, ho, rfl⟩⟩
   have hown := (H.free b _ hcb hroB).2
   have hlb : G.B ≤ L.bl := hown.1
   rw [hw.block k (by omega)]
   exact H.gl k hk
 refine { gl := hgl, sz := by rw [hw.size]; exact H.sz, nx := H.nx, ro := fun x a hc hr => H.ro x a (hcl hc) ((hro x).1 hr), dom := ?_, lt := H.lt, cell := ?_, spare := ?_, free := ?_, inj := ?_, ex := ?_, grone := ?_, itr := ?_, itj := ?_ }
 ·intro x o hx
  by_cases e : x = b
  ·subst e; exact ⟨L, hL⟩
  ·simp only [bZd _ _ _ _ e] at hx; exact H.dom x o hx
 ·intro x k1 l1 L1 i v hx hL1 hi hv
  by_cases e : x = b
  ·subst e
   simp only [bZf, bB, Ob.row.injEq] at hx
   obtain ⟨rfl, rfl⟩ := hx
   rw [hL] at hL1; cases hL1
   by_cases hin : n ≤ i ∧ i < n + vs.length
   ·have hlt : i - n < vs.length := by omega
    obtain ⟨h6, _⟩ := p4 (i - n) vs[i - n] (by simp [hlt])
    rw [show n + (i - n) = i from by omega, hi] at h6
    simp at h6
    obtain ⟨v', h7, h8⟩ := hvs.get (i - n) v (by simp [hlt, h6])
    have := hw.new (i - n) v' h7
    rw [show n + (i - n) = i from by omega] at this
    exact ⟨v', this, h8⟩
   ·rw [p5 i (by omega)] at hi
    obtain ⟨v', h7, h8⟩ := H.cell x k l L i v hb hL hi hv
    refine ⟨v', ?_, h8⟩
    rw [hw.old _ (fun j hj e => by have := jD e; omega)]
    exact h7
  ·simp only [bZd _ _ _ _ e] at hx
   obtain ⟨v', h7, h8⟩ := H.cell x k1 l1 L1 i v hx hL1 hi hv
   refine ⟨v', ?_, h8⟩
   rw [hw.old _ (hother x _ e ⟨k1, l1, L1, hx, hL1, .inl ⟨i, v, hi, hv, rfl⟩⟩)]
   exact h7
 ·intro x l1 L1 es j hx hL1 hj
  by_cases e : x = b
  ·subst e
   simp only [bZf, bB, Ob.row.injEq] at hx
   obtain ⟨rfl, rfl⟩ := hx
   rw [hL] at hL1; cases hL1
   obtain ⟨v', h7⟩ := H.spare x l L es j hb hL hj
   rw [p1]
   refine ⟨v', ?_⟩
   rw [hw.old _ (fun j' hj' e => by
    have h9 := jD e
    have : vs ≠ [] := by intro hv; subst hv; simp at hlen; omega
    have := p2 this
    omega)]
   exact h7
  ·simp only [bZd _ _ _ _ e] at hx
   obtain ⟨v', h7⟩ := H.spare x l1 L1 es j hx hL1 hj
   refine ⟨v', ?_⟩
   rw [hw.old _ (hother x _ e ⟨_, l1, L1, hx, hL1, .inr ⟨es, j, rfl, hj, rfl⟩⟩)]
   exact h7
 ·intro x a hc hr
  rw [hw.frozen]
  exact H.free x a (hcl hc) (fun h => hr ((hro x).2 h))
 ·intro x x' a hc hc' hr
  exact H.inj x x' a (hcl hc) (hcl hc') (fun h => hr ((hro x).2 h))
 ·intro x l1 L1 hx hL1
  by_cases e : x = b
  ·subst e
   simp only [bZf, bB, Ob.row.injEq] at hx
   rw [hL] at hL1; cases hL1
   rcases hx with ⟨rfl, _⟩ | ⟨rfl, _⟩
   ·cases hk
   ·exact H.ex x l L (.inr hb) hL
  ·simp only [bZd _ _ _ _ e] at hx
   exact H.ex x l1 L1 hx hL1
 ·intro x es l1 i v hx hi
  by_cases e : x = b
  ·subst e
   simp only [bZf, bB, Ob.row.injEq] at hx
   obtain ⟨rfl, rfl⟩ := hx
   by_cases hin : n ≤ i ∧ i < n + vs.length
   ·have hlt : i - n < vs.length := by omega
    obtain ⟨h6, _⟩ := p4 (i - n) vs[i - n] (by simp [hlt])
    rw [show n + (i - n) = i from by omega, hi] at h6
    simp at h6
    rw [h6]
    exact p3 _ (List.getElem_mem _)
   ·rw [p5 i (by omega)] at hi
    exact H.grone x es l i v hb hi
  ·simp only [bZd _ _ _ _ e] at hx
   exact H.grone x es l1 i v hx hi
 ·intro x s pos L1 hx hL1
  by_cases e : x = b
  ·subst e; simp [bZf] at hx
  ·simp only [bZd _ _ _ _ e] at hx
   obtain ⟨h1, h2, bs, h3, h4⟩ := H.itr x s pos L1 hx hL1
   exact ⟨h1, h2, bs, hw.kept _ _ _ h3, h4⟩
 ·intro x s pos x' s' pos' L1 L2 hx hx' h1 h2 he
  by_cases e : x = b
  ·subst e; simp [bZf] at hx
  ·by_cases e' : x' = b
   ·subst e'; simp [bZf] at hx'
   ·simp only [bZd _ _ _ _ e] at hx
    simp only [bZd _ _ _ _ e'] at hx'
    exact H.itj x s pos x' s' pos' L1 L2 hx hx' h1 h2 he
theorem VRs.mem_one {ρ : Ren} : ∀ {x : List DV} {x' : List Value}, VRs ρ x x' → (∀ v ∈ x, v.one = true) → ∀ v' ∈ x', aNn v' = true
 | _, _, .nil, _, v', h => by simp at h
 | _, _, .cons x x' l l' hx hs, ho, v', h => by
  simp at h
  rcases h with rfl | h
  ·exact hx.one (ho x (by simp))
  ·exact VRs.mem_one hs (fun v hv => ho v (by simp [hv])) v' h
theorem mA {P : Program} {G : Gd} {ρ : Ren} {h h' : Hp} {w : World} (H : HR G ρ h w) {b : Pos} {o : Nat} {vs : List DV} {vs' : List Value} {L : Loc}
 (hs : hZ b o vs h = some h') (hL : ρ b = some L) (hvs : VRs ρ vs vs') :
 ∃ w', (storeCells (fL L o) vs' 0).run P w = .ok () w' ∧ HR G ρ h' w' ∧ Kp G w w' := by
 unfold hZ at hs
 split at hs
 ·rename_i k l hb
  split at hs
  ·rename_i hk
   split at hs
   ·rename_i l' hp
    simp at hs; subst hs
    obtain ⟨p1, p2, p3, p4, p5⟩ := nV o l vs l' hp
    have hlen := hvs.length
    have hro : ¬ isRo h b := by
     rintro ⟨l0, h0⟩
     rw [hb] at h0; simp at h0
     rw [h0.1] at hk; cases hk
    have hcl : ∀ j, j < vs'.length → Claims ρ h b (fL L (o + j)) := by
     intro j hj
     have hj' : j < vs.length := by omega
     obtain ⟨_, x0, hx0, ho⟩ := p4 j vs[j] (by simp [hj'])
     exact ⟨k, l, L, hb, hL, .inl ⟨o + j, x0, hx0, ho, rfl⟩⟩
    obtain ⟨w', h1, h2⟩ := jP (P := P) (L := L) vs' o 0 w (fun j hj => by
     rw [Nat.add_zero]
     exact ⟨H.lt_cell (hcl j hj), (H.free b _ (hcl j hj) hro).1⟩) (hvs.mem_one p3)
    rw [Nat.add_zero] at h2
    refine ⟨w', h1, H.put hb hL hk hp hvs h2, ?_⟩
    by_cases hv : vs' = []
    ·subst hv
     have : w' = w := by simp [storeCells] at h1; exact h1.symm
     rw [this]
     exact Kp.refl G w
    ·have h0 : 0 < vs'.length := List.length_pos_iff.2 hv
     have := (H.free b _ (hcl 0 h0) hro).2
     exact h2.below (by simpa [fL] using this)
   ·cases hs
  ·cases hs
 ·cases hs
end Go.Dd

namespace Go.Dd
open Go.RowKit (Below)
theorem jY : ∀ (o : Nat) (l : List DV), (cD o l).length = l.length ∧ ∀ (i : Nat) v, (cD o l)[i]? = some v → v.one = true → i < o ∧ l[i]? = some v
 | 0, l => by
  refine ⟨by simp [cD], fun i v hi ho => ?_⟩
  simp [cD] at hi
  obtain ⟨_, _, rfl⟩ := hi
  cases ho
 | o + 1, [] => by simp [cD]
 | o + 1, x :: l => by
  obtain ⟨h1, h2⟩ := jY o l
  refine ⟨by simp [cD, h1], fun i v hi ho => ?_⟩
  cases i with
  | zero => simp [cD] at hi; subst hi; simp
  | succ i =>
   simp [cD] at hi
   obtain ⟨h3, h4⟩ := h2 i v hi ho
   exact ⟨by omega, by simpa using h4⟩
theorem HR.regrow {G : Gd} {ρ : Ren} {h : Hp} {w w' : World} (H : HR G ρ h w) {b : Pos} {size : Nat} {l : List DV} {L : Loc} {o len cap n : Nat} {new : List DV} {new' : List Value} {old : List DV}
 (hb : h.bl.get b = some (.row (.gr size) l)) (hL : ρ b = some L) (hsz : 0 < size) (hend : o + cap * size = l.length) (hlen : len ≤ cap) (hmore : cap < len + n) (hroom : len + n ≤ cap + L.sp)
 (hold : old = (l.drop o).take (len * size)) (hnl : new.length = n * size) (hone : ∀ v ∈ new, v.one = true) (hvs : VRs ρ new new') (hw : Wrote w w' L (o + len * size) new') :
 HR G (nH ρ h.next ⟨L.bl, L.of + o, cap + L.sp - (len + n), if o = 0 then L.spot else none⟩) ⟨h.next.succ, Tr.set (.row (.gr size) (old ++ new)) h.next (Tr.set (.row .sp (cD o l)) b h.bl)⟩ w' := by
 have hbn : b ≠ h.next := fun e => by subst e; rw [H.fresh_get] at hb; cases hb
 have hext := H.ext ⟨L.bl, L.of + o, cap + L.sp - (len + n), if o = 0 then L.spot else none⟩
 have hroB : ¬ isRo h b := by rintro ⟨l0, h0⟩; rw [hb] at h0; simp at h0
 obtain ⟨k1, k2⟩ := jY o l
 have hnl' := hvs.length
 have e1 : len * size ≤ cap * size := Nat.mul_le_mul_right _ hlen
 have e2 : (len + n) * size = len * size + n * size := Nat.add_mul _ _ _
 have e3 : (cap + L.sp) * size = cap * size + L.sp * size := Nat.add_mul _ _ _
 have e4 : (len + n) * size ≤ (cap + L.sp) * size := Nat.mul_le_mul_right _ hroom
 have e5 : (cap + L.sp - (len + n)) * size = (cap + L.sp) * size - (len + n) * size := Nat.sub_mul _ _ _
 have hol : old.length = len * size := by rw [hold]; simp; omega
 have hadr : ∀ i, fL ⟨L.bl, L.of + o, cap + L.sp - (len + n), if o = 0 then L.spot else none⟩ i = fL L (o + i) := fun i => by simp [fL, Nat.add_assoc]; by_cases hi : i = 0 <;> by_cases ho : o = 0 <;> simp [hi, ho]
 have hOC : ∀ i, i < l.length + L.sp * size → Claims ρ h b (fL L i) := by
  intro i hi
  by_cases hlt : i < l.length
  ·exact ⟨_, l, L, hb, hL, .inl ⟨i, l[i], by simp [hlt], H.grone b size l i _ hb (by simp [hlt]), rfl⟩⟩
  ·exact ⟨_, l, L, hb, hL, .inr ⟨size, i - l.length, rfl, by omega, by rw [show l.length + (i - l.length) = i from by omega]⟩⟩
 have g1 : ∀ x, x ≠ h.next → x ≠ b → (Tr.set (Ob.row (.gr size) (old ++ new)) h.next (Tr.set (.row .sp (cD o l)) b h.bl)).get x = h.bl.get x := fun x hx hx' => by
  rw [bZd _ _ _ _ hx, bZd _ _ _ _ hx']
 have g2 : (Tr.set (Ob.row (.gr size) (old ++ new)) h.next (Tr.set (.row .sp (cD o l)) b h.bl)).get b = some (.row .sp (cD o l)) := by
  rw [bZd _ _ _ _ hbn, bZf]
 have g3 : (Tr.set (Ob.row (.gr size) (old ++ new)) h.next (Tr.set (.row .sp (cD o l)) b h.bl)).get h.next = some (.row (.gr size) (old ++ new)) := bZf _ _ _
 have c1 : ∀ x a, x ≠ h.next → x ≠ b → Claims (nH ρ h.next ⟨L.bl, L.of + o, cap + L.sp - (len + n), if o = 0 then L.spot else none⟩) ⟨h.next.succ, Tr.set (.row (.gr size) (old ++ new)) h.next (Tr.set (.row .sp (cD o l)) b h.bl)⟩ x a → Claims ρ h x a := by
  rintro x a hx hx' ⟨k', l', L', h1, h2, h3⟩
  simp only [g1 x hx hx'] at h1
  rw [aP _ _ hx] at h2
  exact ⟨k', l', L', h1, h2, h3⟩
 have c2 : ∀ a, Claims (nH ρ h.next ⟨L.bl, L.of + o, cap + L.sp - (len + n), if o = 0 then L.spot else none⟩) ⟨h.next.succ, Tr.set (.row (.gr size) (old ++ new)) h.next (Tr.set (.row .sp (cD o l)) b h.bl)⟩ b a → ∃ i, i < o ∧ a = fL L i ∧ Claims ρ h b a := by
  rintro a ⟨k', l', L', h1, h2, h3⟩
  simp only [g2, bB, Ob.row.injEq] at h1
  obtain ⟨rfl, rfl⟩ := h1
  rw [aP _ _ hbn, hL] at h2
  cases h2
  rcases h3 with ⟨i, v, hi, hv, rfl⟩ | ⟨es, j, h4, hj, rfl⟩
  ·obtain ⟨h5, h6⟩ := k2 i v hi hv
   exact ⟨i, h5, rfl, hOC i (by omega)⟩
  ·cases h4
 have c3 : ∀ a, Claims (nH ρ h.next ⟨L.bl, L.of + o, cap + L.sp - (len + n), if o = 0 then L.spot else none⟩) ⟨h.next.succ, Tr.set (.row (.gr size) (old ++ new)) h.next (Tr.set (.row .sp (cD o l)) b h.bl)⟩ h.next a → ∃ i, o ≤ i ∧ a = fL L i ∧ Claims ρ h b a := by
  rintro a ⟨k', l', L', h1, h2, h3⟩
  simp only [g3, bB, Ob.row.injEq] at h1
  obtain ⟨rfl, rfl⟩ := h1
  rw [bR] at h2
  cases h2
  rcases h3 with ⟨i, v, hi, hv, rfl⟩ | ⟨es, j, h4, hj, rfl⟩
  ·have hlt : i < (old ++ new).length := by
    rcases Nat.lt_or_ge i (old ++ new).length with h | h
    ·exact h
    ·simp [List.getElem?_eq_none h] at hi
   simp only [List.length_append] at hlt
   rw [hadr]
   exact ⟨o + i, by omega, rfl, hOC _ (by omega)⟩
  ·cases h4
   simp only at hj
   rw [hadr]
   exact ⟨_, by omega, rfl, hOC _ (by simp only [List.length_append]; omega)⟩
 have hother : ∀ x a, x ≠ b → Claims ρ h x a → ∀ j, j < new'.length → a ≠ fL L (o + len * size + j) := by
  intro x a hx hc j hj e
  exact hx (H.inj b x a (e ▸ hOC _ (by omega)) hc hroB).symm
 have hron : ∀ x, isRo ⟨h.next.succ, Tr.set (.row (.gr size) (old ++ new)) h.next (Tr.set (.row .sp (cD o l)) b h.bl)⟩ x ↔ (isRo h x ∧ x ≠ h.next ∧ x ≠ b) := by
  intro x
  by_cases e : x = h.next
  ·subst e; simp [isRo, g3]
  ·by_cases e' : x = b
   ·subst e'; simp [isRo, g2]
   ·simp [isRo, g1 x e e', e, e']
 have hgl : ∀ k, k < G.B → w'.heap[k]? = G.W[k]? := by
  intro k hk
  have hlt : len * size < (len + n) * size := Nat.mul_lt_mul_of_pos_right (by omega) hsz
  have hown := (H.free b _ (hOC (o + len * size) (by omega)) hroB).2
  have hlb : G.B ≤ L.bl := hown.1
  rw [hw.block k (by omega)]
  exact H.gl k hk
 refine { gl := hgl, sz := by rw [hw.size]; exact H.sz, nx := by have := H.nx; simp only [bZm]; omega, ro := ?_, dom := ?_, lt := rX H _, cell := ?_, spare := ?_, free := ?_, inj := ?_, ex := ?_, grone := ?_, itr := ?_, itj := ?_ }
 ·intro x a hc hr
  obtain ⟨h1, h2, h3⟩ := (hron x).1 hr
  exact H.ro x a (c1 x a h2 h3 hc) h1
 ·intro x ob hx
  by_cases e : x = h.next
  ·subst e; exact ⟨_, bR _ _ _⟩
  ·rw [aP _ _ e]
   by_cases e' : x = b
   ·subst e'; exact ⟨L, hL⟩
   ·simp only [g1 x e e'] at hx; exact H.dom x ob hx
 ·intro x k' l' L' i v hx hL' hi hv
  by_cases e : x = h.next
  ·subst e
   simp only [g3, bB, Ob.row.injEq] at hx
   obtain ⟨rfl, rfl⟩ := hx
   rw [bR] at hL'
   cases hL'
   rw [hadr]
   by_cases hlt : i < old.length
   ·rw [List.getElem?_append_left hlt, hold, List.getElem?_take_of_lt (by omega), List.getElem?_drop] at hi
    obtain ⟨v', h5, h6⟩ := H.cell b _ l L (o + i) v hb hL hi hv
    refine ⟨v', ?_, h6.mono hext⟩
    rw [hw.old _ (fun j hj e => by have := jD e; omega)]
    exact h5
   ·rw [List.getElem?_append_right (by omega)] at hi
    obtain ⟨v', h5, h6⟩ := hvs.get _ v hi
    refine ⟨v', ?_, h6.mono hext⟩
    have := hw.new _ v' h5
    rwa [show o + len * size + (i - old.length) = o + i from by omega] at this
  ·by_cases e' : x = b
   ·subst e'
    simp only [g2, bB, Ob.row.injEq] at hx
    obtain ⟨rfl, rfl⟩ := hx
    rw [aP _ _ e, hL] at hL'
    cases hL'
    obtain ⟨h5, h6⟩ := k2 i v hi hv
    obtain ⟨v', h7, h8⟩ := H.cell x _ l L i v hb hL h6 hv
    refine ⟨v', ?_, h8.mono hext⟩
    rw [hw.old _ (fun j hj e => by have := jD e; omega)]
    exact h7
   ·simp only [g1 x e e'] at hx
    rw [aP _ _ e] at hL'
    obtain ⟨v', h5, h6⟩ := H.cell x k' l' L' i v hx hL' hi hv
    refine ⟨v', ?_, h6.mono hext⟩
    rw [hw.old _ (hother x _ e' ⟨k', l', L', hx, hL', .inl ⟨i, v, hi, hv, rfl⟩⟩)]
    exact h5
 ·intro x l' L' es j hx hL' hj
  by_cases e : x = h.next
  ·subst e
   simp only [g3, bB, Ob.row.injEq, Kind.gr.injEq] at hx
   obtain ⟨rfl, rfl⟩ := hx
   rw [bR] at hL'
   cases hL'
   rw [hadr]
   simp only at hj
   have hidx : o + ((old ++ new).length + j) < l.length + L.sp * size := by simp only [List.length_append]; omega
   obtain ⟨v', hv'⟩ := H.lt_cell (hOC _ hidx)
   refine ⟨v', ?_⟩
   rw [hw.old _ (fun j' hj' e => by have := jD e; simp only [List.length_append] at this; omega)]
   exact hv'
  ·by_cases e' : x = b
   ·subst e'
    simp only [g2, bB, Ob.row.injEq] at hx
    cases hx.1
   ·simp only [g1 x e e'] at hx
    rw [aP _ _ e] at hL'
    obtain ⟨v', h5⟩ := H.spare x l' L' es j hx hL' hj
    refine ⟨v', ?_⟩
    rw [hw.old _ (hother x _ e' ⟨_, l', L', hx, hL', .inr ⟨es, j, rfl, hj, rfl⟩⟩)]
    exact h5
 ·intro x a hc hr
  rw [hw.frozen]
  by_cases e : x = h.next
  ·subst e
   obtain ⟨i, _, _, h1⟩ := c3 a hc
   exact H.free b a h1 hroB
  ·by_cases e' : x = b
   ·subst e'
    obtain ⟨i, _, _, h1⟩ := c2 a hc
    exact H.free x a h1 hroB
   ·exact H.free x a (c1 x a e e' hc) (fun h => hr ((hron x).2 ⟨h, e, e'⟩))
 ·intro x x' a hc hc' hr
  by_cases e : x = h.next
  ·subst e
   obtain ⟨i, hi, hai, h1⟩ := c3 a hc
   by_cases f : x' = h.next
   ·exact f.symm
   ·by_cases f' : x' = b
    ·subst f'
     obtain ⟨i', hi', hai', _⟩ := c2 a hc'
     rw [hai] at hai'
     have := jD hai'
     omega
    ·exact absurd (H.inj b x' a h1 (c1 x' a f f' hc') hroB).symm f'
  ·by_cases e' : x = b
   ·subst e'
    obtain ⟨i, hi, hai, h1⟩ := c2 a hc
    by_cases f : x' = h.next
    ·subst f
     obtain ⟨i', hi', hai', _⟩ := c3 a hc'
     rw [hai] at hai'
     have := jD hai'
     omega
    ·by_cases f' : x' = x
     ·exact f'.symm
     ·exact H.inj x x' a h1 (c1 x' a f f' hc') hroB
   ·have hx := c1 x a e e' hc
    have hrx : ¬ isRo h x := fun h => hr ((hron x).2 ⟨h, e, e'⟩)
    by_cases f : x' = h.next
    ·subst f
     obtain ⟨i', _, _, h2⟩ := c3 a hc'
     exact absurd (H.inj x b a hx h2 hrx) e'
    ·by_cases f' : x' = b
     ·subst f'
      obtain ⟨i', _, _, h2⟩ := c2 a hc'
      exact H.inj x x' a hx h2 hrx
     ·exact H.inj x x' a hx (c1 x' a f f' hc') hrx
 ·intro x l' L' hx hL'
  by_cases e : x = h.next
  ·subst e; simp [g3] at hx
  ·by_cases e' : x = b
   ·subst e'; simp [g2] at hx
   ·simp only [g1 x e e'] at hx
    rw [aP _ _ e] at hL'
    exact H.ex x l' L' hx hL'
 ·intro x es l' i v hx hi
  by_cases e : x = h.next
  ·subst e
   simp only [g3, bB, Ob.row.injEq, Kind.gr.injEq] at hx
   obtain ⟨rfl, rfl⟩ := hx
   by_cases hlt : i < old.length
   ·rw [List.getElem?_append_left hlt, hold, List.getElem?_take_of_lt (by omega), List.getElem?_drop] at hi
    exact H.grone b size l _ v hb hi
   ·rw [List.getElem?_append_right (by omega)] at hi
    exact hone v (List.mem_of_getElem? hi)
  ·by_cases e' : x = b
   ·subst e'; simp [g2] at hx
   ·simp only [g1 x e e'] at hx
    exact H.grone x es l' i v hx hi
 ·intro x s pos L' hx hL'
  by_cases e : x = h.next
  ·subst e; simp [g3] at hx
  ·by_cases e' : x = b
   ·subst e'; simp [g2] at hx
   ·simp only [g1 x e e'] at hx
    rw [aP _ _ e] at hL'
    obtain ⟨h1, h2, bs, h3, h4⟩ := H.itr x s pos L' hx hL'
    exact ⟨h1, h2, bs, hw.kept _ _ _ h3, h4⟩
 ·intro x s pos x' s' pos' L1 L2 hx hx' h1 h2 he
  by_cases e : x = h.next
  ·subst e; simp [g3] at hx
  ·by_cases e' : x = b
   ·subst e'; simp [g2] at hx
   ·by_cases f : x' = h.next
    ·subst f; simp [g3] at hx'
    ·by_cases f' : x' = b
     ·subst f'; simp [g2] at hx'
     ·simp only [g1 x e e'] at hx
      simp only [g1 x' f f'] at hx'
      rw [aP _ _ e] at h1
      rw [aP _ _ f] at h2
      exact H.itj x s pos x' s' pos' L1 L2 hx hx' h1 h2 he
theorem HR.newIter {G : Gd} {ρ : Ren} {h : Hp} {w : World} (H : HR G ρ h w) (s : List Nat) (bs : ByteArray) (hs : bs.data.toList.map (·.toNat) = s) :
 HR G (nH ρ h.next ⟨w.heap.size, 0, 0, none⟩) ⟨h.next.succ, Tr.set (.it s 0) h.next h.bl⟩ (w.alloc (.stringIter bs 0)) := by
 have hext := H.ext ⟨w.heap.size, 0, 0, none⟩
 have hno : ∀ a, ¬ Claims (nH ρ h.next ⟨w.heap.size, 0, 0, none⟩) ⟨h.next.succ, Tr.set (.it s 0) h.next h.bl⟩ h.next a := by
  rintro a ⟨k', l', L', h1, h2, h3⟩
  simp [bZf] at h1
 have hold : ∀ b a, b ≠ h.next → Claims (nH ρ h.next ⟨w.heap.size, 0, 0, none⟩) ⟨h.next.succ, Tr.set (.it s 0) h.next h.bl⟩ b a → a.block < w.heap.size := by
  intro b a hb hc
  obtain ⟨v, hv⟩ := H.lt_cell (bZk hb hc)
  exact fH hv
 have hblk : ∀ b s pos L, h.bl.get b = some (.it s pos) → ρ b = some L → L.bl < w.heap.size := by
  intro b s pos L hb hL
  obtain ⟨h1, h2, bs, h3, h4⟩ := H.itr b s pos L hb hL
  rcases Nat.lt_or_ge L.bl w.heap.size with h | h
  ·exact h
  ·simp [Array.getElem?_eq_none h] at h3
 refine { gl := fun k hk => by rw [Below.heap_alloc _ _ _ (Nat.lt_of_lt_of_le hk H.sz.1)]; exact H.gl k hk, sz := ?_, nx := ?_, ro := ?_, dom := ?_, lt := rX H _, cell := ?_, spare := ?_, free := ?_, inj := ?_, ex := ?_, grone := ?_, itr := ?_, itj := ?_ }
 ·obtain ⟨h1, h2⟩ := H.sz
  refine ⟨by simp; omega, fun k hk => ?_⟩
  have := h2 k hk
  simp; omega
 ·have := H.nx; simp only [bZm]; omega
 ·intro b a hc hr
  by_cases e : b = h.next
  ·subst e; exact absurd hc (hno a)
  ·exact H.ro b a (bZk e hc) ((hD e).1 hr)
 ·intro b o hb
  by_cases e : b = h.next
  ·subst e; exact ⟨_, bR _ _ _⟩
  ·rw [aP _ _ e]; simp only [bZd _ _ _ _ e] at hb; exact H.dom b o hb
 ·intro b k' l' L' i v hb hL hi hv
  by_cases e : b = h.next
  ·subst e; simp [bZf] at hb
  ·simp only [bZd _ _ _ _ e] at hb
   rw [aP _ _ e] at hL
   obtain ⟨v', h5, h6⟩ := H.cell b k' l' L' i v hb hL hi hv
   exact ⟨v', by rw [eT (fH h5)]; exact h5, h6.mono hext⟩
 ·intro b l' L' es j hb hL hj
  by_cases e : b = h.next
  ·subst e; simp [bZf] at hb
  ·simp only [bZd _ _ _ _ e] at hb
   rw [aP _ _ e] at hL
   obtain ⟨v', h5⟩ := H.spare b l' L' es j hb hL hj
   exact ⟨v', by rw [eT (fH h5)]; exact h5⟩
 ·intro b a hc hr
  by_cases e : b = h.next
  ·subst e; exact absurd hc (hno a)
  ·have hlt := hold b a e hc
   have := H.free b a (bZk e hc) (fun h => hr ((hD e).2 h))
   rw [iI (by omega)]
   exact this
 ·intro b b' a hc hc' hr
  by_cases e : b = h.next
  ·subst e; exact absurd hc (hno a)
  ·by_cases e' : b' = h.next
   ·subst e'; exact absurd hc' (hno a)
   ·exact H.inj b b' a (bZk e hc) (bZk e' hc') (fun h => hr ((hD e).2 h))
 ·intro b l' L' hb hL
  by_cases e : b = h.next
  ·subst e; simp [bZf] at hb
  ·simp only [bZd _ _ _ _ e] at hb
   rw [aP _ _ e] at hL
   exact H.ex b l' L' hb hL
 ·intro b es l' i v hb hi
  by_cases e : b = h.next
  ·subst e; simp [bZf] at hb
  ·simp only [bZd _ _ _ _ e] at hb
   exact H.grone b es l' i v hb hi
 ·intro b s1 pos L' hb hL
  by_cases e : b = h.next
  ·subst e
   simp only [bZf, bB, Ob.it.injEq] at hb
   obtain ⟨rfl, rfl⟩ := hb
   rw [bR] at hL
   cases hL
   refine ⟨H.own_new, ⟨rfl, rfl⟩, bs, ?_, hs⟩
   show (w.heap.push _)[w.heap.size]? = _
   simp
  ·simp only [bZd _ _ _ _ e] at hb
   rw [aP _ _ e] at hL
   obtain ⟨h1, h2, bs, h3, h4⟩ := H.itr b s1 pos L' hb hL
   refine ⟨h1, h2, bs, ?_, h4⟩
   rw [Below.heap_alloc _ _ _ (hblk b s1 pos L' hb hL)]
   exact h3
 ·intro b s1 pos b' s' pos' L1 L2 hb hb' hL hL' he
  by_cases e : b = h.next
  ·by_cases e' : b' = h.next
   ·rw [e, e']
   ·subst e
    simp only [bZd _ _ _ _ e'] at hb'
    rw [bR] at hL
    cases hL
    rw [aP _ _ e'] at hL'
    have := hblk b' s' pos' L2 hb' hL'
    simp at he
    omega
  ·by_cases e' : b' = h.next
   ·subst e'
    simp only [bZd _ _ _ _ e] at hb
    rw [bR] at hL'
    cases hL'
    rw [aP _ _ e] at hL
    have := hblk b s1 pos L1 hb hL
    simp at he
    omega
   ·simp only [bZd _ _ _ _ e] at hb
    simp only [bZd _ _ _ _ e'] at hb'
    rw [aP _ _ e] at hL
    rw [aP _ _ e'] at hL'
    exact H.itj b s1 pos b' s' pos' L1 L2 hb hb' hL hL' he
theorem HR.stepIter {G : Gd} {ρ : Ren} {h : Hp} {w : World} (H : HR G ρ h w) {b : Pos} {s : List Nat} {pos pos1 : Nat} {bs : ByteArray} {L : Loc}
 (hb : h.bl.get b = some (.it s pos)) (hL : ρ b = some L) (hbs : w.heap[L.bl]? = some (.stringIter bs pos)) (hs : bs.data.toList.map (·.toNat) = s) :
 HR G ρ ⟨h.next, Tr.set (.it s pos1) b h.bl⟩ { w with heap := w.heap.setIfInBounds L.bl (.stringIter bs pos1) } ∧ Kp G w { w with heap := w.heap.setIfInBounds L.bl (.stringIter bs pos1) } := by
 obtain ⟨hB, _, _⟩ := H.itr b s pos L hb hL
 have hlt : L.bl < w.heap.size := by
  rcases Nat.lt_or_ge L.bl w.heap.size with h | h
  ·exact h
  ·simp [Array.getElem?_eq_none h] at hbs
 have hcell : ∀ a v, w.cell? a = some v → ({ w with heap := w.heap.setIfInBounds L.bl (.stringIter bs pos1) } : World).cell? a = some v := by
  intro a v ha
  have hne : L.bl ≠ a.block := by
   intro e
   unfold World.cell? at ha
   rw [← e, hbs] at ha
   cases ha
  unfold World.cell? at ha ⊢
  rw [Array.getElem?_setIfInBounds_ne hne]
  exact ha
 have hfro : ∀ a v, w.cell? a = some v → ({ w with heap := w.heap.setIfInBounds L.bl (.stringIter bs pos1) } : World).frozen? a = w.frozen? a := by
  intro a v ha
  have hne : L.bl ≠ a.block := by
   intro e
   unfold World.cell? at ha
   rw [← e, hbs] at ha
   cases ha
  unfold World.frozen?
  rw [Array.getElem?_setIfInBounds_ne hne]
 have hcl : ∀ {x a}, Claims ρ ⟨h.next, Tr.set (.it s pos1) b h.bl⟩ x a → Claims ρ h x a := by
  rintro x a ⟨k', l', L', h1, h2, h3⟩
  by_cases e : x = b
  ·subst e; simp [bZf] at h1
  ·simp only [bZd _ _ _ _ e] at h1
   exact ⟨k', l', L', h1, h2, h3⟩
 have hro : ∀ x, isRo ⟨h.next, Tr.set (.it s pos1) b h.bl⟩ x ↔ isRo h x := by
  intro x
  by_cases e : x = b
  ·subst e; simp [isRo, bZf, hb]
  ·simp [isRo, bZd _ _ _ _ e]
 have hgl : ∀ k, k < G.B → ({ w with heap := w.heap.setIfInBounds L.bl (.stringIter bs pos1) } : World).heap[k]? = G.W[k]? := by
  intro k hk
  have hlb : G.B ≤ L.bl := hB.1
  have : (w.heap.setIfInBounds L.bl (.stringIter bs pos1))[k]? = w.heap[k]? := by
   rw [Array.getElem?_setIfInBounds]
   rw [if_neg (by omega)]
  exact this.trans (H.gl k hk)
 refine ⟨{ gl := hgl, sz := by simpa using H.sz, nx := H.nx, ro := fun x a hc hr => H.ro x a (hcl hc) ((hro x).1 hr), dom := ?_, lt := H.lt, cell := ?_, spare := ?_, free := ?_, inj := ?_, ex := ?_, grone := ?_, itr := ?_, itj := ?_ }, ?_⟩
 ·intro x o hx
  by_cases e : x = b
  ·subst e; exact ⟨L, hL⟩
  ·simp only [bZd _ _ _ _ e] at hx; exact H.dom x o hx
 ·intro x k1 l1 L1 i v hx hL1 hi hv
  by_cases e : x = b
  ·subst e; simp [bZf] at hx
  ·simp only [bZd _ _ _ _ e] at hx
   obtain ⟨v', h7, h8⟩ := H.cell x k1 l1 L1 i v hx hL1 hi hv
   exact ⟨v', hcell _ _ h7, h8⟩
 ·intro x l1 L1 es j hx hL1 hj
  by_cases e : x = b
  ·subst e; simp [bZf] at hx
  ·simp only [bZd _ _ _ _ e] at hx
   obtain ⟨v', h7⟩ := H.spare x l1 L1 es j hx hL1 hj
   exact ⟨v', hcell _ _ h7⟩
 ·intro x a hc hr
  obtain ⟨v, hv⟩ := H.lt_cell (hcl hc)
  rw [hfro a v hv]
  exact H.free x a (hcl hc) (fun h => hr ((hro x).2 h))
 ·intro x x' a hc hc' hr
  exact H.inj x x' a (hcl hc) (hcl hc') (fun h => hr ((hro x).2 h))
 ·intro x l1 L1 hx hL1
  by_cases e : x = b
  ·subst e; simp [bZf] at hx
  ·simp only [bZd _ _ _ _ e] at hx
   exact H.ex x l1 L1 hx hL1
 ·intro x es l1 i v hx hi
  by_cases e : x = b
  ·subst e; simp [bZf] at hx
  ·simp only [bZd _ _ _ _ e] at hx
   exact H.grone x es l1 i v hx hi
 ·intro x s1 pos2 L1 hx hL1
  by_cases e : x = b
  ·subst e
   simp only [bZf, bB, Ob.it.injEq] at hx
   obtain ⟨rfl, rfl⟩ := hx
   rw [hL] at hL1; cases hL1
   obtain ⟨h1, h2, _⟩ := H.itr x s pos L hb hL
   exact ⟨h1, h2, bs, by simp [hlt], hs⟩
  ·simp only [bZd _ _ _ _ e] at hx
   obtain ⟨h1, h2, bs1, h3, h4⟩ := H.itr x s1 pos2 L1 hx hL1
   have hne : L.bl ≠ L1.bl := fun he => e (H.itj b s pos x s1 pos2 L L1 hb hx hL hL1 he).symm
   exact ⟨h1, h2, bs1, by rw [Array.getElem?_setIfInBounds_ne hne]; exact h3, h4⟩
 ·intro x s1 p1 x' s2 p2 L1 L2 hx hx' h1 h2 he
  have hx0 : ∃ s p, h.bl.get x = some (.it s p) := by
   by_cases e : x = b
   ·subst e; exact ⟨_, _, hb⟩
   ·simp only [bZd _ _ _ _ e] at hx; exact ⟨_, _, hx⟩
  have hx1 : ∃ s p, h.bl.get x' = some (.it s p) := by
   by_cases e : x' = b
   ·subst e; exact ⟨_, _, hb⟩
   ·simp only [bZd _ _ _ _ e] at hx'; exact ⟨_, _, hx'⟩
  obtain ⟨_, _, hx0⟩ := hx0
  obtain ⟨_, _, hx1⟩ := hx1
  exact H.itj x _ _ x' _ _ L1 L2 hx0 hx1 h1 h2 he
 ·refine ⟨⟨rfl, rfl, rfl, by simp, fun k hk => ?_⟩, fun k hk => ?_⟩
  ·rw [Array.getElem?_setIfInBounds_ne (by have := hB.1; omega)]
  ·show (w.heap.setIfInBounds L.bl _)[k]? = _
   rw [Array.getElem?_setIfInBounds_ne (fun (e : L.bl = k) => hB.2 (by rw [e]; exact hk))]
end Go.Dd

namespace Go.Dd
open Go.RowKit (Below)
section
variable {P : Program} {w : World}
theorem rU {t : TypeId} {d : TypeDesc} (h : P.underlying t = some d) : (underlying t).run P w = .ok d w := by simp [underlying, h]
theorem rI {t : TypeId} {i : TypeInfo} (h : P.info? t = some i) : (typeInfo t).run P w = .ok i w := by simp [typeInfo, h]
theorem rZ {t : TypeId} {i : TypeInfo} {z : Value} (h : P.info? t = some i) (hz : i.zero = some z) : (zeroValue t).run P w = .ok z w := by simp [zeroValue, rI h, hz]
theorem rS {t : TypeId} {i : TypeInfo} (h : P.info? t = some i) : (sizeOf t).run P w = .ok i.size w := by simp [sizeOf, rI h]
theorem rA {t : TypeId} {d : TypeDesc} (h : P.underlying t = some d) : (isAgg t).run P w = .ok (kP d) w := by
 simp only [isAgg, Sem.run_bind, rU h, Result.andThen_ok]
 cases d <;> rfl
end
def SemOk (P : Program) (G : Gd) (ρ : Ren) (w : World) (v : DV) (h1 : Hp) (s : Sem Value) : Prop :=
 ∃ ρ' w' v', s.run P w = .ok v' w' ∧ Ex G ρ ρ' ∧ VR ρ' v v' ∧ HR G ρ' h1 w' ∧ Kp G w w'
theorem SemOk.pure {P : Program} {G : Gd} {ρ : Ren} {w : World} {v : DV} {h : Hp} (H : HR G ρ h w) {v' : Value} (hv : VR ρ v v') {s : Sem Value} (hs : s.run P w = .ok v' w) : SemOk P G ρ w v h s :=
 ⟨ρ, w, v', hs, Ex.refl G ρ, hv, H, Kp.refl G w⟩
section
variable {P : Program} {G : Gd} {ρ : Ren} {w : World} {h h1 : Hp} {v : DV}
theorem aSn (H : HR G ρ h w) (cs : List DV) (arr : Array Value) (t : TypeId) (hcs : VRs ρ cs arr.toList) (hp : cJ cs h = some (v, h1)) :
 SemOk P G ρ w v h1 (do pure (.pointer (some (← newRow t arr)))) := by
 simp only [cJ, bB, bW] at hp
 obtain ⟨rfl, rfl⟩ := hp
 refine ⟨_, w.alloc (.cells arr t), .pointer (some ⟨w.heap.size, 0, none⟩), ?_, H.exx _, .p _ 0 ⟨w.heap.size, 0, 0, none⟩ (bR _ _ _), H.newRow .ex cs arr.toList arr t 0 hcs (fun i v hi => by simpa using hi) (.inl ⟨rfl, rfl⟩), gP H.sz _⟩
 simp [newRow]
theorem aTy (H : HR G ρ h w) {t : TypeId} {i : TypeInfo} {z : Value} (hi : P.info? t = some i) (hz : i.zero = some z) (hp : cJ (zsD z) h = some (v, h1)) :
 SemOk P G ρ w v h1 (Instr.alloc t true (.tuple #[])) := by
 obtain ⟨ρ', w', v', h1', h2, h3, h4, h5⟩ := aSn (P := P) H (zsD z) z.cells t (cCm ρ z) hp
 refine ⟨ρ', w', v', ?_, h2, h3, h4, h5⟩
 simp only [Instr.alloc, Sem.run_bind, rZ hi hz, Result.andThen_ok]
 simpa [newVar] using h1'
theorem bLd (H : HR G ρ h w) {t : TypeId} {x : DV} {x' : Value} (hx : VR ρ x x') (hp : iB x h = some (v, h1)) : SemOk P G ρ w v h1 (Instr.box t x') := by
 unfold iB at hp
 split at hp
 ·rename_i cs hc
  obtain ⟨ρ', w', v', h1', h2, h3, h4, h5⟩ := aSn (P := P) H cs x'.cells t (hx.cells hc) hp
  exact ⟨ρ', w', v', by simpa [Instr.box, newVar] using h1', h2, h3, h4, h5⟩
 ·cases hp
theorem nY : ∀ (n : Nat) (l cs : List DV), iZ n l = some cs → cs.length = n ∧ n ≤ l.length ∧ cs = l.take n ∧ ∀ v ∈ cs, v.one = true
 | 0, l, cs, h => by simp [iZ] at h; subst h; simp
 | n + 1, [], cs, h => by simp [iZ] at h
 | n + 1, x :: l, cs, h => by
  simp only [iZ] at h
  split at h
  ·rename_i hx
   cases ht : iZ n l with
   | none => rw [ht] at h; simp at h
   | some c =>
    rw [ht] at h; simp at h; subst h
    obtain ⟨h1, h2, h3, h4⟩ := nY n l c ht
    refine ⟨by simp [h1], by simp; exact h2, by simp [h3], ?_⟩
    intro v hv
    simp at hv
    rcases hv with rfl | hv
    ·exact hx
    ·exact h4 v hv
  ·cases h
theorem fR (H : HR G ρ h w) {b : Pos} {o n : Nat} {cs : List DV} {L : Loc} (hc : eI b o n h = some cs) (hL : ρ b = some L) :
 cs.length = n ∧ (∀ v ∈ cs, v.one = true) ∧ (∃ k l, h.bl.get b = some (.row k l) ∧ cs = (l.drop o).take n ∧ n ≤ (l.drop o).length) ∧
 ∃ vs : List Value, VRs ρ cs vs ∧ vs.length = n ∧ ∀ (j : Nat) v, vs[j]? = some v → w.cell? (fL L (o + j)) = some v := by
 unfold eI lT at hc
 split at hc
 ·rename_i l hl
  split at hl
  ·rename_i k l0 hb
   simp at hl; subst hl
   obtain ⟨h1, h2, h3, h4⟩ := nY n _ cs hc
   refine ⟨h1, h4, ⟨k, l0, hb, h3, h2⟩, ?_⟩
   have hcell : ∀ (j : Nat) x, cs[j]? = some x → ∃ v', w.cell? (fL L (o + j)) = some v' ∧ VR ρ x v' := by
    intro j x hj
    have ho := h4 x (List.mem_of_getElem? hj)
    have hlt : j < n := by
     rcases Nat.lt_or_ge j n with h | h
     ·exact h
     ·rw [List.getElem?_eq_none (by omega)] at hj; cases hj
    rw [h3, List.getElem?_take_of_lt hlt, List.getElem?_drop] at hj
    exact H.cell b k l0 L (o + j) x hb hL hj ho
   clear hc h3 h2
   subst h1
   clear h4
   induction cs generalizing o with
   | nil => exact ⟨[], .nil, rfl, by simp⟩
   | cons x cs ih =>
    obtain ⟨v', h5, h6⟩ := hcell 0 x (by simp)
    obtain ⟨vs, h7, h8, h9⟩ := ih (o := o + 1) (fun j y hj => by have := hcell (j + 1) y (by simpa using hj); rwa [show o + (j + 1) = o + 1 + j from by omega] at this)
    refine ⟨v' :: vs, .cons _ _ _ _ h6 h7, by simp [h8], fun j y hj => ?_⟩
    cases j with
    | zero => simp at hj; subst hj; simpa using h5
    | succ j => simp at hj; have := h9 j y hj; rwa [show o + 1 + j = o + (j + 1) from by omega] at this
  ·cases hl
 ·cases hc
theorem eK {a : Addr} {L : Loc} {o : Nat} (vs : List Value) (ha : a = fL L o) (hc : ∀ (j : Nat) v, vs[j]? = some v → w.cell? (fL L (o + j)) = some v) :
 (loadCells a vs.length).run P w = .ok vs.toArray w := by
 subst ha
 exact run_loadCells_list (P := P) (w := w) (fL L o) vs fun j v hj => by rw [jA]; exact hc j v hj
theorem aXe (H : HR G ρ h w) {t : TypeId} {d : TypeDesc} {x : DV} {x' : Value} (ht : P.underlying t = some d) (hd : kP d = false) (hx : VR ρ x x') (hp : aB x h = some (v, h1)) :
 SemOk P G ρ w v h1 (Instr.loadAt t x') := by
 unfold aB at hp
 split at hp
 ·rename_i b o
  split at hp
  ·rename_i u hc
   simp at hp
   obtain ⟨rfl, rfl⟩ := hp
   cases hx with
   | p _ _ L hL =>
    unfold aEe lT at hc
    split at hc
    ·rename_i l hl
     split at hl
     ·rename_i k l0 hb
      simp at hl; subst hl
      split at hc
      ·rename_i u0 hu
       split at hc
       ·rename_i ho
        simp at hc; subst hc
        obtain ⟨v', h5, h6⟩ := H.cell b k l0 L o u0 hb hL hu ho
        refine SemOk.pure H h6 ?_
        simp only [Instr.loadAt, Instr.sureAddr, Sem.run_bind, Sem.run_pure, Result.andThen_ok, loadVar, rA ht, hd]
        simp [h5]
       ·cases hc
      ·cases hc
     ·cases hl
    ·cases hc
  ·cases hp
 ·cases hp
theorem aTt (H : HR G ρ h w) {t : TypeId} {d : TypeDesc} {i : TypeInfo} {x : DV} {x' : Value} (ht : P.underlying t = some d) (hi : P.info? t = some i) (hd : kP d = true) (hx : VR ρ x x') (hp : aD i.size x h = some (v, h1)) :
 SemOk P G ρ w v h1 (Instr.loadAt t x') := by
 unfold aD at hp
 split at hp
 ·rename_i b o
  split at hp
  ·rename_i cs hc
   simp at hp
   obtain ⟨rfl, rfl⟩ := hp
   cases hx with
   | p _ _ L hL =>
    obtain ⟨h1, h2, _, vs, h4, h5, h6⟩ := fR H hc hL
    refine SemOk.pure H (.a cs vs.toArray (by simpa using h4)) ?_
    have := eK (P := P) vs rfl h6
    rw [h5] at this
    simp only [Instr.loadAt, Instr.sureAddr, Sem.run_bind, Sem.run_pure, Result.andThen_ok, loadVar, rA ht, hd, if_true, rS hi, this]
  ·cases hp
 ·cases hp
theorem aRn (H : HR G ρ h w) {t : TypeId} {i : TypeInfo} {x y : DV} {x' y' : Value} (hi : P.info? t = some i) (hx : VR ρ x x') (hy : VR ρ y y') (hp : aC i.size x y h = some (v, h1)) :
 v = dK ∧ ∃ w', (Instr.storeAt t x' y').run P w = .ok () w' ∧ HR G ρ h1 w' ∧ Kp G w w' := by
 unfold aC at hp
 split at hp
 ·rename_i b o cs hc
  split at hp
  ·rename_i hl
   split at hp
   ·rename_i h' hs
    simp at hp
    obtain ⟨rfl, rfl⟩ := hp
    cases hx with
    | p _ _ L hL =>
     have hcs := hy.cells hc
     obtain ⟨w', h3, h4, h5⟩ := mA (P := P) H hs hL hcs
     refine ⟨rfl, w', ?_, h4, h5⟩
     have hlen := hcs.length
     have hne : ¬ y'.cells.size ≠ i.size := by simp at hlen; omega
     simp only [Instr.storeAt, Instr.sureAddr, Sem.run_bind, Sem.run_pure, Result.andThen_ok, storeVar, rS hi]
     rw [if_neg hne]
     simpa using h3
   ·cases hp
  ·cases hp
 ·cases hp
theorem wK (off : Nat) : ∀ (l : List Value) (k : Nat) (cs : Array Value), off + k + l.length ≤ cs.size →
 ((l.zipIdx k).foldl (fun cs (c : Value × Nat) => cs.setIfInBounds (off + c.2) c.1) cs).toList = cs.toList.take (off + k) ++ l ++ cs.toList.drop (off + k + l.length)
 | [], k, cs, h => by simp
 | x :: l, k, cs, h => by
  simp only [List.zipIdx_cons, List.foldl_cons]
  simp only [List.length_cons] at h
  rw [wK off l (k + 1) _ (by simp; omega)]
  simp only [Array.toList_setIfInBounds, List.length_cons]
  rw [show off + (k + 1) = (off + k) + 1 from by omega]
  have hlt : off + k < cs.toList.length := by simp; omega
  rw [List.take_succ_eq_append_getElem (by simpa using hlt)]
  simp only [List.take_set, List.getElem_set_self, List.append_assoc, List.singleton_append]
  congr 1
  ·rw [List.set_eq_of_length_le (by simp; omega)]
  ·rw [show off + k + 1 + l.length = off + k + (l.length + 1) from by omega]
   rw [List.drop_set_of_lt (by omega)]
theorem aAi {place : Nat → Option (Nat × Nat)} : ∀ (l : List (Nat × DV)) (l' : List (Nat × Value)) (cells : List DV) (cells' : Array Value) (q : List (Nat × Nat × DV)) (out : List DV),
 l.map (·.1) = l'.map (·.1) → VRs ρ (l.map (·.2)) (l'.map (·.2)) → VRs ρ cells cells'.toList →
 l.mapM (fun (x : Nat × DV) => (place x.1).map fun s => (s.1, s.2, x.2)) = some q → cM cells q = some out →
 ∃ out', Instr.fill place cells' l' = some out' ∧ VRs ρ out out'.toList
 | [], l', cells, cells', q, out, hi, hv, hc, hq, hf => by
  cases l' with
  | cons => simp at hi
  | nil => simp at hq; subst hq; simp [cM] at hf; subst hf; exact ⟨cells', by simp [Instr.fill], hc⟩
 | (i, x) :: l, l', cells, cells', q, out, hi, hv, hc, hq, hf => by
  cases l' with
  | nil => simp at hi
  | cons y l' =>
   obtain ⟨i', x'⟩ := y
   simp at hi
   obtain ⟨rfl, hi⟩ := hi
   simp only [List.map_cons] at hv
   cases hv with
   | cons _ _ _ _ hx hs =>
    simp only [List.mapM_cons] at hq
    cases hp : place i with
    | none => simp [hp] at hq
    | some s =>
     obtain ⟨off, size⟩ := s
     simp only [hp, Option.map_some, Option.bind_eq_bind, Option.bind_some] at hq
     cases hm : l.mapM (fun (x : Nat × DV) => (place x.1).map fun s => (s.1, s.2, x.2)) with
     | none => simp [hm] at hq
     | some q1 =>
      simp [hm] at hq
      subst hq
      simp only [cM] at hf
      cases hcs : cF x with
      | none => simp [hcs] at hf
      | some cs =>
       simp only [hcs] at hf
       split at hf
       ·rename_i hle
        obtain ⟨hl1, hl2⟩ := hle
        have hxc := hx.cells hcs
        have hxl := hxc.length
        have hcl := hc.length
        simp only [Array.length_toList] at hxl hcl
        have hnew : VRs ρ (cells.take off ++ cs ++ cells.drop (off + size)) (x'.cells.zipIdx.foldl (fun cs (c : Value × Nat) => cs.setIfInBounds (off + c.2) c.1) cells').toList := by
         rw [← Array.foldl_toList, Array.toList_zipIdx, wK off x'.cells.toList 0 cells' (by simp; omega)]
         simp only [Nat.add_zero, Array.length_toList]
         rw [show off + x'.cells.size = off + size from by omega]
         exact ((hc.take off).append hxc).append (hc.drop (off + size))
        obtain ⟨out', h3, h4⟩ := aAi l l' _ _ q1 out hi hs hnew hm hf
        refine ⟨out', ?_, h4⟩
        simp only [Instr.fill, hp]
        have hne : (decide (x'.cells.size ≠ size) || decide (off + x'.cells.size > cells'.size)) = false := by
         simp; omega
        rw [if_neg (by rw [hne]; simp)]
        exact h3
       ·cases hf
end
end Go.Dd

namespace Go.Dd
open Go.RowKit (Below)
section
variable {P : Program} {G : Gd} {ρ : Ren} {w : World} {h h1 : Hp} {v : DV}
theorem cBn {env : fQ} {ev : Operand → Value} (he : ∀ x, VR ρ (opr env x) (ev x)) : ∀ l : List (Nat × Operand), VRs ρ (l.map fun q => opr env q.2) (l.map fun q => ev q.2)
 | [] => .nil
 | x :: l => .cons _ _ _ _ (he x.2) (cBn he l)
theorem pN {α β γ : Type} (f : α → β) (g : β → Option γ) : ∀ l : List α, l.mapM (fun x => g (f x)) = (l.map f).mapM g
 | [] => rfl
 | x :: l => by simp only [List.map_cons, List.mapM_cons]; rw [pN f g l]
theorem aSk (H : HR G ρ h w) {t : TypeId} {fs : Array Field} {i : TypeInfo} {z : Value} {pl : List (Nat × Nat)} {ps : Array (Nat × Operand)} {env : fQ} {ev : Operand → Value} {l : List (Nat × Nat × DV)}
 (he : ∀ x, VR ρ (opr env x) (ev x)) (ht : P.underlying t = some (.struct fs)) (hi : P.info? t = some i) (hz : i.zero = some z)
 (hpl : fs.toList.mapM (fun f => (P.info? f.type).map fun fi => (f.offset, fi.size)) = some pl)
 (hl : ps.toList.mapM (fun (q : Nat × Operand) => (pl[q.1]?).map fun s => (s.1, s.2, opr env q.2)) = some l) (hp : cS (zsD z) l h = some (v, h1)) :
 SemOk P G ρ w v h1 (Instr.build t (ps.map fun (q : Nat × Operand) => (q.1, ev q.2))) := by
 unfold cS at hp
 split at hp
 ·rename_i cs hf
  simp at hp
  obtain ⟨rfl, rfl⟩ := hp
  have hl' : (ps.toList.map fun q => (q.1, opr env q.2)).mapM (fun (x : Nat × DV) => ((fun j => pl.toArray[j]?) x.1).map fun s => (s.1, s.2, x.2)) = some l := by
   rw [← pN (fun (q : Nat × Operand) => (q.1, opr env q.2)) (fun (x : Nat × DV) => ((fun j => pl.toArray[j]?) x.1).map fun s => (s.1, s.2, x.2))]
   simpa using hl
  obtain ⟨out', h3, h4⟩ := aAi (ρ := ρ) (place := fun j => pl.toArray[j]?) (ps.toList.map fun q => (q.1, opr env q.2)) (ps.toList.map fun q => (q.1, ev q.2)) (zsD z) z.cells l cs
   (by simp) (by simpa [List.map_map, Function.comp_def] using cBn he ps.toList) (cCm ρ z) hl' hf
  refine SemOk.pure H (.a cs out' h4) (run_build w t _ out' ?_)
  unfold Program.built
  simp only [hi, ht, hz, hpl]
  simpa using h3
 ·cases hp
theorem aCl (z : Array Value) (n : Nat) (hz : 0 < z.size) : ((Array.range (n * z.size)).map (z[· % z.size]!)).toList = (List.replicate n z.toList).flatten := by
 induction n with
 | zero => simp
 | succ n ih =>
  have e : (n + 1) * z.size = n * z.size + z.size := Nat.succ_mul _ _
  rw [e]
  simp only [Array.toList_map, Array.toList_range] at ih ⊢
  rw [List.range_add, List.map_append, ih]
  rw [List.replicate_succ', List.flatten_append]
  congr 1
  simp only [List.map_map, List.flatten_cons, List.flatten_nil, List.append_nil]
  apply List.ext_getElem
  ·simp
  ·intro j h1 h2
   simp at h1
   simp [Nat.mul_add_mod_of_lt h1, h1]
theorem bRm (z : Array Value) (n : Nat) (hz : n * z.size = 0 ∨ 0 < z.size) : ((Array.range (n * z.size)).map (z[· % z.size]!)).toList = (List.replicate n z.toList).flatten := by
 rcases hz with hz | hz
 ·rw [hz]
  rcases Nat.mul_eq_zero.1 hz with e | e
  ·subst e; simp
  ·have : z = #[] := by simpa using e
   subst this
   simp
 ·exact aCl z n hz
theorem lU {t e : TypeId} {i : TypeInfo} {z : Value} {n : Nat} {ps : Array (Nat × Operand)} {env : fQ} {ev : Operand → Value} {cs : List DV}
 (he : ∀ x, VR ρ (opr env x) (ev x)) (ht : P.underlying t = some (.slice e)) (hi : P.info? e = some i) (hz : i.zero = some z)
 (hn : n * i.size ≤ 2 ^ 24) (h0 : 0 < i.size) (hzs : z.cells.size = i.size)
 (hf : cM ((List.replicate n (zsD z)).flatten) (ps.toList.map fun (q : Nat × Operand) => (q.1 * i.size, i.size, opr env q.2)) = some cs) :
 ∃ out', (Instr.buildSlice t n (ps.map fun (q : Nat × Operand) => (q.1, ev q.2))).run P w = .ok (.slice (some ⟨w.heap.size, 0, none⟩) n n) (w.alloc (.cells out' e)) ∧ VRs ρ cs out'.toList := by
 have hl' : (ps.toList.map fun q => (q.1, opr env q.2)).mapM (fun (x : Nat × DV) => ((fun j => some (j * i.size, i.size)) x.1 : Option (Nat × Nat)).map fun s => (s.1, s.2, x.2)) = some (ps.toList.map fun (q : Nat × Operand) => (q.1 * i.size, i.size, opr env q.2)) := by
  rw [← pN (fun (q : Nat × Operand) => (q.1, opr env q.2)) (fun (x : Nat × DV) => ((fun j => some (j * i.size, i.size)) x.1 : Option (Nat × Nat)).map fun s => (s.1, s.2, x.2))]
  generalize ps.toList = l
  induction l with
  | nil => rfl
  | cons x l ih => simp only [List.mapM_cons, ih]; simp
 have hzero : VRs ρ (List.replicate n (zsD z)).flatten ((Array.range (n * i.size)).map (z.cells[· % z.cells.size]!)).toList := by
  rw [← hzs, aCl z.cells n (by omega)]
  exact cAj (cCm ρ z) n
 obtain ⟨out', h3, h4⟩ := aAi (ρ := ρ) (place := fun j => some (j * i.size, i.size)) (ps.toList.map fun q => (q.1, opr env q.2)) (ps.toList.map fun q => (q.1, ev q.2)) _ _ _ cs
  (by simp) (by simpa [List.map_map, Function.comp_def] using cBn he ps.toList) hzero hl' hf
 refine ⟨out', ?_, h4⟩
 simp only [Instr.buildSlice, Sem.run_bind, rU ht, Result.andThen_ok, rS hi]
 rw [if_neg (by omega)]
 have h3' : Instr.fill (fun j => some (j * i.size, i.size)) ((Array.range (n * i.size)).map (z.cells[· % z.cells.size]!)) (ps.map fun (q : Nat × Operand) => (q.1, ev q.2)).toList = some out' := by simpa using h3
 by_cases hzz : n * i.size = 0
 ·rw [if_pos hzz]
  simp only [Sem.run_bind, Sem.run_pure, Result.andThen_ok]
  have : n = 0 := by rcases Nat.mul_eq_zero.1 hzz with e | e <;> omega
  subst this
  simp only [Nat.zero_mul] at h3' ⊢
  have h3'' : Instr.fill (fun j => some (j * i.size, i.size)) ((Array.range 0).map ((#[] : Array Value)[· % (#[] : Array Value).size]!)) (ps.map fun (q : Nat × Operand) => (q.1, ev q.2)).toList = some out' := by
   rw [← h3']
   have er : ∀ f g : Nat → Value, (Array.range 0).map f = (Array.range 0).map g := fun f g => by apply Array.ext <;> simp
   rw [er _ (fun x => z.cells[x % z.cells.size]!)]
  simp only [h3'']
  simp [newRow]
 ·rw [if_neg hzz]
  simp only [Sem.run_bind, rZ hi hz, Result.andThen_ok, Sem.run_pure, h3']
  simp [newRow]
theorem vU (H : HR G ρ h w) {t e : TypeId} {i : TypeInfo} {z : Value} {n : Nat} {ps : Array (Nat × Operand)} {env : fQ} {ev : Operand → Value}
 (he : ∀ x, VR ρ (opr env x) (ev x)) (ht : P.underlying t = some (.slice e)) (hi : P.info? e = some i) (hz : i.zero = some z)
 (hn : n * i.size ≤ 2 ^ 24) (h0 : 0 < i.size) (hzs : z.cells.size = i.size)
 (hp : aO ((List.replicate n (zsD z)).flatten) n (ps.toList.map fun (q : Nat × Operand) => (q.1 * i.size, i.size, opr env q.2)) h = some (v, h1)) :
 SemOk P G ρ w v h1 (Instr.buildSlice t n (ps.map fun (q : Nat × Operand) => (q.1, ev q.2))) := by
 unfold aO at hp
 split at hp
 ·rename_i cs hf
  simp only [bB, bW] at hp
  obtain ⟨rfl, rfl⟩ := hp
  obtain ⟨out', h3, h4⟩ := lU (P := P) (w := w) (ρ := ρ) he ht hi hz hn h0 hzs hf
  have hrow := H.newRow .ex cs out'.toList out' e 0 h4 (fun j u hj => by simpa using hj) (.inl ⟨rfl, rfl⟩)
  exact ⟨_, w.alloc (.cells out' e), .slice (some ⟨w.heap.size, 0, none⟩) n n, h3, H.exx _, .l _ 0 n n ⟨w.heap.size, 0, 0, none⟩ (bR _ _ _), hrow, gP H.sz _⟩
 ·cases hp
theorem bLq (H : HR G ρ h w) {a : Act} {o : Oper} {x : Operand} {env : fQ} (ho : o.op = .nilCheck x) (he : VR ρ (opr env x) (a.eval x)) (hp : bM (opr env x) h = some (v, h1)) :
 (execOp a.eval o).run P w = .ok (.value (a.eval x)) w ∧ VR ρ v (a.eval x) ∧ h1 = h := by
 generalize hg : opr env x = d at *
 generalize hv : a.eval x = d' at *
 unfold bM at hp
 unfold execOp
 simp only [ho, hv]
 split at hp <;> (try (cases hp; done)) <;> (simp only [bB, bW] at hp; obtain ⟨rfl, rfl⟩ := hp; cases he) <;> refine ⟨by simp, ?_, rfl⟩ <;> constructor <;> assumption
theorem lN {op : BinOp} {t : TypeId} {x y : Operand} {a b : Value} (h1 : a ≠ .nilIface) (h2 : ∀ cs, a ≠ .agg cs) : (eqGuard op t x y a b).run P w = .ok () w := by
 unfold eqGuard
 cases a <;> first | (exact absurd rfl h1) | (exact absurd rfl (h2 _)) | (cases op <;> simp)
theorem bQy (H : HR G ρ h w) {op : BinOp} {t : TypeId} {x y : DV} {x' y' : Value} {ox oy : Operand} (hop : op ≠ .shl ∧ op ≠ .shr) (hx : VR ρ x x') (hy : VR ρ y y') (hp : aQ op x y h = some (v, h1)) :
 SemOk P G ρ w v h1 (do eqGuard op t ox oy x' y'; binOp op t x' y') := by
 unfold aQ at hp
 split at hp
 ·rename_i k a k' b
  cases hx
  cases hy
  split at hp
  ·rename_i hk
   subst hk
   split at hp
   ·rename_i r hr
    simp at hp
    obtain ⟨rfl, rfl⟩ := hp
    have hg := lN (P := P) (w := w) (op := op) (t := t) (x := ox) (y := oy) (a := .int k a) (b := .int k b) (by simp) (by simp)
    cases op <;> simp [aGc] at hr <;> first
     | (exact absurd rfl hop.1)
     | (exact absurd rfl hop.2)
     | (subst hr; refine SemOk.pure H (by constructor) ?_; simp only [Sem.run_bind, hg, Result.andThen_ok]; simp [binOp, Op.intArith, Op.intCmp, Op.intBits]; done)
     | (obtain ⟨hb, rfl⟩ := hr; refine SemOk.pure H (by constructor) ?_; simp only [Sem.run_bind, hg, Result.andThen_ok]; simp [binOp, Op.intDiv, hb]; done)
   ·cases hp
  ·cases hp
 ·cases hp
theorem aDe (H : HR G ρ h w) {op : BinOp} {t : TypeId} {x y : DV} {x' y' : Value} {ox oy : Operand} (hop : op = .shl ∨ op = .shr) (hx : VR ρ x x') (hy : VR ρ y y') (hp : qP op x y h = some (v, h1)) :
 SemOk P G ρ w v h1 (do eqGuard op t ox oy x' y'; binOp op t x' y') := by
 unfold qP at hp
 split at hp
 ·rename_i k a k' b
  cases hx
  cases hy
  split at hp
  ·cases hp
  ·rename_i hb
   have hg := lN (P := P) (w := w) (op := op) (t := t) (x := ox) (y := oy) (a := .int k a) (b := .int k' b) (by simp) (by simp)
   rcases hop with rfl | rfl
   ·simp only [bB, bW] at hp
    obtain ⟨rfl, rfl⟩ := hp
    refine SemOk.pure H (by constructor) ?_
    simp only [Sem.run_bind, hg, Result.andThen_ok]
    simp [binOp, Op.shift, hb]
   ·simp only [bB, bW] at hp
    obtain ⟨rfl, rfl⟩ := hp
    refine SemOk.pure H (by constructor) ?_
    simp only [Sem.run_bind, hg, Result.andThen_ok]
    simp [binOp, Op.shift, hb]
 ·cases hp
theorem aKl : ∀ a b : List UInt8, uN (a.map (·.toNat)) (b.map (·.toNat)) = (a == b)
 | [], [] => rfl
 | [], _ :: _ => rfl
 | _ :: _, [] => rfl
 | x :: a, y :: b => by
  simp only [List.map_cons, uN, aKl a b, List.cons_beq_cons]
  congr 1
  rw [Bool.eq_iff_iff]
  simp [UInt8.toNat_inj]
theorem wZ : ∀ a b : List UInt8, nI (a.map (·.toNat)) (b.map (·.toNat)) = Op.bytesLess a b
 | _, [] => by simp [nI, Op.bytesLess]
 | [], _ :: _ => by simp [nI, Op.bytesLess]
 | x :: a, y :: b => by
  simp only [List.map_cons, nI, wZ a b, Op.bytesLess]
  congr 1
  ·rw [Bool.eq_iff_iff]
   simp [UInt8.lt_iff_toNat_lt]
  ·congr 1
   rw [Bool.eq_iff_iff]
   simp [UInt8.toNat_inj]
theorem bKq (H : HR G ρ h w) {op : BinOp} {t : TypeId} {x y : DV} {x' y' : Value} {ox oy : Operand} (hx : VR ρ x x') (hy : VR ρ y y') (hp : gU op x y h = some (v, h1)) :
 SemOk P G ρ w v h1 (do eqGuard op t ox oy x' y'; binOp op t x' y') := by
 unfold gU at hp
 split at hp
 ·rename_i a b
  cases hx with
  | s _ a' ha =>
  cases hy with
  | s _ b' hb =>
  split at hp
  ·rename_i r hr
   simp at hp
   obtain ⟨rfl, rfl⟩ := hp
   have hg := lN (P := P) (w := w) (op := op) (t := t) (x := ox) (y := oy) (a := .string a') (b := .string b') (by simp) (by simp)
   have ea : a'.toList = a'.data.toList := ByteArray.toList_eq a'
   have eb : b'.toList = b'.data.toList := ByteArray.toList_eq b'
   have e1 : uN a b = (a'.toList == b'.toList) := by rw [← ha, ← hb, aKl, ea, eb]
   have e2 : nI a b = Op.bytesLess a'.toList b'.toList := by rw [← ha, ← hb, wZ, ea, eb]
   have la : a.length = a'.size := by rw [← ha, List.length_map, Array.length_toList]; rfl
   have lb : b.length = b'.size := by rw [← hb, List.length_map, Array.length_toList]; rfl
   cases op <;> simp only [zZ] at hr <;> (try (cases hr; done))
   case add =>
    split at hr
    ·cases hr
    ·rename_i hle
     simp at hr; subst hr
     refine SemOk.pure H (.s _ (a' ++ b') ?_) ?_
     ·simp [ha, hb]
     ·simp only [Sem.run_bind, hg, Result.andThen_ok]
      simp only [binOp, Op.stringOp]
      rw [la, lb] at hle
      rw [if_neg hle]
      simp
   all_goals
    simp only [bB] at hr
    subst hr
    refine SemOk.pure H (by constructor) ?_
    simp only [Sem.run_bind, hg, Result.andThen_ok]
    simp [binOp, Op.stringOp, e1, e2]
  ·cases hp
 ·cases hp
theorem aGb {d : TypeDesc} {t : TypeId} {x y : DV} {x' y' : Value} {r : Bool} (ht : P.underlying t = some d) (hx : VR ρ x x') (hy : VR ρ y y') (hr : aEd d x y = some r) :
 (Op.equal t x' y').run P w = .ok r w := by
 unfold Op.equal
 rw [show Op.maxDepth = 9999 + 1 from rfl]
 unfold Op.equalIn
 simp only [Sem.run_bind, rU ht, Result.andThen_ok]
 unfold aEd at hr
 split at hr <;> (try (cases hr; done)) <;> (simp at hr; subst hr; cases hx; cases hy; simp)
theorem bIq (H : HR G ρ h w) {op : BinOp} {pos : Bool} {d : TypeDesc} {t : TypeId} {x y : DV} {x' y' : Value} {ox oy : Operand} (ht : P.underlying t = some d) (hop : (op = .eql ∧ pos = true) ∨ (op = .neq ∧ pos = false))
 (hx : VR ρ x x') (hy : VR ρ y y') (hp : pEq d pos x y h = some (v, h1)) :
 SemOk P G ρ w v h1 (do eqGuard op t ox oy x' y'; binOp op t x' y') := by
 unfold pEq at hp
 split at hp
 ·rename_i r hr
  simp only [bB, bW] at hp
  obtain ⟨rfl, rfl⟩ := hp
  have heq := aGb (P := P) (w := w) ht hx hy hr
  have hne : x' ≠ .nilIface ∧ (∀ cs, x' ≠ .agg cs) := by
   unfold aEd at hr
   split at hr <;> (try (cases hr; done)) <;> (cases hx; simp)
  have hg := lN (P := P) (w := w) (op := op) (t := t) (x := ox) (y := oy) (a := x') (b := y') hne.1 hne.2
  refine SemOk.pure H (by constructor) ?_
  simp only [Sem.run_bind, hg, Result.andThen_ok]
  unfold aEd at hr
  rcases hop with ⟨rfl, rfl⟩ | ⟨rfl, rfl⟩ <;> split at hr <;> (try (cases hr; done)) <;> (cases hx; cases hy; simp [binOp, heq])
 ·cases hp
theorem bKs (H : HR G ρ h w) {op : BinOp} {d : TypeDesc} {t : TypeId} {x y : DV} {x' y' : Value} {ox oy : Operand} (ht : P.underlying t = some d)
 (hx : VR ρ x x') (hy : VR ρ y y') (hp : aVs op d x y h = some (v, h1)) :
 SemOk P G ρ w v h1 (do eqGuard op t ox oy x' y'; binOp op t x' y') := by
 unfold aVs at hp
 split at hp
 ·split at hp
  ·exact aDe H (.inl rfl) hx hy hp
  ·exact aDe H (.inr rfl) hx hy hp
  ·rename_i h1 h2; exact bQy H ⟨h1, h2⟩ hx hy hp
 ·exact bKq H hx hy hp
 ·split at hp
  ·exact bIq H ht (.inl ⟨rfl, rfl⟩) hx hy hp
  ·exact bIq H ht (.inr ⟨rfl, rfl⟩) hx hy hp
  ·cases hp
theorem bTn (H : HR G ρ h w) {op : UnOp} {x : DV} {x' : Value} (hx : VR ρ x x') (hp : pJ op x h = some (v, h1)) : SemOk P G ρ w v h1 (Op.unary op x') := by
 unfold pJ at hp
 split at hp <;> (try (cases hp; done)) <;> (simp only [bB, bW] at hp; obtain ⟨rfl, rfl⟩ := hp; cases hx; refine SemOk.pure H (by constructor) ?_; simp [Op.unary, Op.intArith])
end
end Go.Dd

namespace Go.Dd
open Go.RowKit (Below)
section
variable {P : Program} {G : Gd} {ρ : Ren} {w : World} {h h1 : Hp} {v : DV}
theorem aRh (H : HR G ρ h w) {src dst : TypeId} {d : TypeDesc} {k : IntKind} {x : DV} {x' : Value} (hs : P.underlying src = some d) (hd : P.underlying dst = some (.int k)) (hx : VR ρ x x') (hp : qC k x h = some (v, h1)) :
 SemOk P G ρ w v h1 (convert src dst x') := by
 unfold qC at hp
 split at hp <;> (try (cases hp; done))
 simp only [bB, bW] at hp
 obtain ⟨rfl, rfl⟩ := hp
 cases hx
 refine SemOk.pure H (by constructor) ?_
 simp only [convert, Sem.run_bind, rU hs, rU hd, Result.andThen_ok]
 simp [Conv.intToInt]
theorem aXw (H : HR G ρ h w) {src dst : TypeId} {x : DV} {x' : Value} (hs : P.underlying src = some .string) (hd : P.underlying dst = some .string) (hx : VR ρ x x') (hp : xQ x h = some (v, h1)) :
 SemOk P G ρ w v h1 (convert src dst x') := by
 unfold xQ at hp
 split at hp <;> (try (cases hp; done))
 simp only [bB, bW] at hp
 obtain ⟨rfl, rfl⟩ := hp
 cases hx with
 | s _ bs hb =>
 refine SemOk.pure H (.s _ bs hb) ?_
 simp only [convert, Sem.run_bind, rU hs, rU hd, Result.andThen_ok]
 simp
theorem xJ {ρ : Ren} : ∀ {cs : List DV} {l : List Nat} {vs : List Value}, vJ cs = some l → VRs ρ cs vs → vs = (l.map fun (n : Nat) => (n : Int)).map (Value.int .u8) ∧ ∀ n ∈ l, n < 256
 | [], l, vs, h, hv => by
  simp only [vJ, bB] at h
  subst h
  cases hv
  exact ⟨rfl, by simp⟩
 | x :: cs, l, vs, h, hv => by
  unfold vJ at h
  split at h <;> (try (cases h; done))
  ·rename_i heq
   cases heq
  ·rename_i n cs' heq
   cases heq
   split at h <;> (try (cases h; done))
   rename_i hn
   obtain ⟨l', e, rfl⟩ := Option.map_eq_some_iff.1 h
   cases hv with
   | cons _ x' _ vs' hx hs =>
    cases hx
    obtain ⟨rfl, k⟩ := xJ e hs
    refine ⟨rfl, fun m hm => ?_⟩
    rcases List.mem_cons.1 hm with rfl | hm
    ·exact hn
    ·exact k m hm
theorem uY : ∀ (l : List Nat) (b : ByteArray), (∀ n ∈ l, n < 256) → (((l.map fun (n : Nat) => (n : Int)).foldl (fun r n => r.push (UInt8.ofNat n.toNat)) b).data.toList.map (·.toNat)) = b.data.toList.map (·.toNat) ++ l
 | [], b, _ => by simp
 | n :: l, b, h => by
  simp only [List.map_cons, List.foldl_cons]
  rw [uY l _ fun m hm => h m (by simp [hm])]
  have hn : n < 256 := h n (by simp)
  have e : (b.push (UInt8.ofNat ((n : Int)).toNat)).data.toList.map (·.toNat) = b.data.toList.map (·.toNat) ++ [n] := by
   show ((b.data.push (UInt8.ofNat ((n : Int)).toNat)).toList.map (·.toNat)) = _
   simp
   omega
  rw [e]
  simp
theorem aYp (H : HR G ρ h w) {src dst e : TypeId} {x : DV} {x' : Value} (hs : P.underlying src = some (.slice e)) (he : P.underlying e = some (.int .u8)) (hd : P.underlying dst = some .string) (hx : VR ρ x x') (hp : yO x h = some (v, h1)) :
 SemOk P G ρ w v h1 (convert src dst x') := by
 unfold yO at hp
 split at hp <;> (try (cases hp; done))
 ·simp only [bB, bW] at hp
  obtain ⟨rfl, rfl⟩ := hp
  cases hx
  refine SemOk.pure H (.s [] ByteArray.empty rfl) ?_
  rw [run_convert_bytes_string w src dst e _ _ _ hs he hd]
  rfl
 ·rename_i b o len cap
  split at hp <;> (try (cases hp; done))
  rename_i cs hc
  split at hp <;> (try (cases hp; done))
  rename_i l hl
  simp only [bB, bW] at hp
  obtain ⟨rfl, rfl⟩ := hp
  cases hx with
  | l _ _ _ _ L hL =>
   obtain ⟨_, _, _, vs, h4, h5, h6⟩ := fR H hc hL
   obtain ⟨rfl, hb⟩ := xJ hl h4
   have := eK (P := P) _ rfl h6
   rw [h5] at this
   refine SemOk.pure H (.s l ((l.map fun (n : Nat) => (n : Int)).foldl (fun r n => r.push (UInt8.ofNat n.toNat)) ByteArray.empty) ?_) ?_
   rotate_left
   ·rw [run_convert_bytes_string w src dst e _ _ _ hs he hd]
    exact run_bytesToString w _ len _ _ this
   ·have := uY l ByteArray.empty hb
    simpa using this
theorem hU {x : DV} {x' : Value} {y n y' : Nat} {code : BoundsCode} (hx : VR ρ x x') (hn : wQ x y = some n) (hy : y ≤ y') : (Instr.sliceBound x' y' code).run P w = .ok n w ∧ n ≤ y := by
 unfold wQ at hn
 split at hn <;> (try (cases hn; done))
 split at hn <;> (try (cases hn; done))
 rename_i i hi
 simp only [bB] at hn
 subst hn
 cases hx
 refine ⟨?_, by omega⟩
 simp only [Instr.sliceBound, asIntOf, Sem.run_bind, Sem.run_pure, Result.andThen_ok]
 rw [if_pos (by omega)]
 simp
inductive OR (ρ : Ren) : Option DV → Option Value → Prop
 | none : OR ρ none none
 | some (x : DV) (x' : Value) (h : VR ρ x x') : OR ρ (some x) (some x')
theorem mS {dU : Bool} {len cap cap' e s : Nat} {lo hi : Option DV} {lo' hi' : Option Value} (hl : OR ρ lo lo') (hh : OR ρ hi hi') (hc : cap ≤ cap') (h1 : hiD hi len cap = some e) (h2 : loD lo e = some s) :
 (Instr.sliceBounds dU len cap' lo' hi' none).run P w = .ok (s, e, cap') w ∧ s ≤ e ∧ e ≤ cap := by
 unfold Instr.sliceBounds
 cases hh with
 | none =>
  simp only [hiD] at h1
  split at h1 <;> (try (cases h1; done))
  rename_i hle
  simp only [bB] at h1
  subst h1
  cases hl with
  | none => simp only [loD, bB] at h2; subst h2; simp [hle]
  | some x x' hx =>
   obtain ⟨h3, h4⟩ := hU (P := P) (w := w) (code := if (none : Option Value).isSome then .slice3C else .sliceB) hx h2 (Nat.le_refl _)
   refine ⟨?_, h4, hle⟩
   simp only [Sem.run_bind, Sem.run_pure, Result.andThen_ok, h3]
 | some y y' hy =>
  simp only [hiD] at h1
  obtain ⟨h5, h6⟩ := hU (P := P) (w := w) (code := if dU then .sliceAcap else .sliceAlen) hy h1 hc
  cases hl with
  | none =>
   simp only [loD, bB] at h2; subst h2
   refine ⟨?_, Nat.zero_le _, h6⟩
   simp only [Sem.run_bind, Sem.run_pure, Result.andThen_ok, h5]
  | some x x' hx =>
   obtain ⟨h3, h4⟩ := hU (P := P) (w := w) (code := if (none : Option Value).isSome then .slice3C else .sliceB) hx h2 (Nat.le_refl _)
   refine ⟨?_, h4, h6⟩
   simp only [Sem.run_bind, Sem.run_pure, Result.andThen_ok, h5, h3]
theorem aOn (H : HR G ρ h w) {t : TypeId} {x : DV} {x' : Value} {lo hi : Option DV} {lo' hi' : Option Value} (ht : P.underlying t = some .string) (hx : VR ρ x x') (hl : OR ρ lo lo') (hh : OR ρ hi hi') (hp : eH x lo hi h = some (v, h1)) :
 SemOk P G ρ w v h1 (Instr.sliceAt t x' lo' hi' none) := by
 unfold eH at hp
 split at hp <;> (try (cases hp; done))
 rename_i l
 split at hp <;> (try (cases hp; done))
 rename_i e he
 split at hp <;> (try (cases hp; done))
 rename_i s hs
 simp only [bB, bW] at hp
 obtain ⟨rfl, rfl⟩ := hp
 cases hx with
 | s _ bs hb =>
  have hlen : l.length = bs.size := by rw [← hb, List.length_map, Array.length_toList]; rfl
  rw [hlen] at he
  obtain ⟨h3, h4, h5⟩ := mS (P := P) (w := w) (dU := false) hl hh (Nat.le_refl _) he hs
  refine SemOk.pure H (.s _ (bs.extract s e) ?_) ?_
  ·subst hb
   simp [List.map_drop, List.map_take, List.drop_take]
  ·simp only [Instr.sliceAt, Sem.run_bind, rU ht, Result.andThen_ok, Instr.slice]
   simp only [Option.isSome_none, Bool.false_eq_true, if_false, Sem.run_bind, Sem.run_pure, Result.andThen_ok, h3]
theorem aQs (H : HR G ρ h w) {t e : TypeId} {i : TypeInfo} {x : DV} {x' : Value} {lo hi : Option DV} {lo' hi' : Option Value} (ht : P.underlying t = some (.slice e)) (hi0 : P.info? e = some i) (hx : VR ρ x x') (hl : OR ρ lo lo') (hh : OR ρ hi hi')
 (hp : dB i.size x lo hi h = some (v, h1)) : SemOk P G ρ w v h1 (Instr.sliceAt t x' lo' hi' none) := by
 unfold dB at hp
 split at hp <;> (try (cases hp; done))
 ·rename_i b o len cap
  split at hp <;> (try (cases hp; done))
  rename_i en he
  split at hp <;> (try (cases hp; done))
  rename_i s hs
  cases hx with
  | l _ _ _ _ L hL =>
   obtain ⟨h3, h4, h5⟩ := mS (P := P) (w := w) (dU := true) (cap' := cap + L.sp) hl hh (Nat.le_add_right _ _) he hs
   have hrun : (Instr.sliceAt t (.slice (some (fL L o)) len (cap + L.sp)) lo' hi' none).run P w = .ok (.slice (if cap + L.sp = s then some (fL L o) else (some (fL L o)).map (·.add (s * i.size))) (en - s) (cap + L.sp - s)) w := by
    simp only [Instr.sliceAt, Sem.run_bind, rU ht, Result.andThen_ok, Instr.slice, h3, rS hi0, Sem.run_pure]
   have hold : ∀ k l0, h.bl.get b = some (.row k l0) → L.sp = 0 → (some ((DV.l b (if cap = s then o else o + s * i.size) (en - s) (cap - s)), h) = some (v, h1)) → SemOk P G ρ w v h1 (Instr.sliceAt t (.slice (some (fL L o)) len (cap + L.sp)) lo' hi' none) := by
    intro k l0 hb hsp hp
    simp only [bB, bW] at hp
    obtain ⟨rfl, rfl⟩ := hp
    refine SemOk.pure H (.l b _ _ _ L hL) (hrun.trans ?_)
    rw [hsp]
    simp only [Nat.add_zero]
    split <;> simp [jA]
   split at hp <;> (try (cases hp; done))
   ·rename_i l0 hb; exact hold _ _ hb (H.ex b l0 L (.inl hb) hL) hp
   ·rename_i l0 hb; exact hold _ _ hb (H.ex b l0 L (.inr hb) hL) hp
   ·rename_i k l0 _ _ hb
    split at hp
    ·rename_i hcs
     simp only [bB, bW] at hp
     obtain ⟨rfl, rfl⟩ := hp
     have hv : VR ρ .le (.slice (if cap + L.sp = s then some (fL L o) else (some (fL L o)).map (·.add (s * i.size))) (en - s) (cap + L.sp - s)) := by
      rw [show en - s = 0 from by omega]
      split
      ·exact .le _ _
      ·exact .le _ _
     exact SemOk.pure H hv hrun
    ·rename_i hcs
     simp only [bB, bW] at hp
     obtain ⟨rfl, rfl⟩ := hp
     refine SemOk.pure H (.l b _ _ _ L hL) (hrun.trans ?_)
     rw [if_neg (by omega), show cap + L.sp - s = cap - s + L.sp from by omega]
     simp [jA]
 ·split at hp <;> (try (cases hp; done))
  rename_i en he
  split at hp <;> (try (cases hp; done))
  rename_i s hs
  simp only [bB, bW] at hp
  obtain ⟨rfl, rfl⟩ := hp
  cases hx
  obtain ⟨h3, h4, h5⟩ := mS (P := P) (w := w) (dU := true) hl hh (Nat.le_refl _) he hs
  obtain rfl : en = 0 := by omega
  obtain rfl : s = 0 := by omega
  refine SemOk.pure H .l0 ?_
  simp only [Instr.sliceAt, Sem.run_bind, rU ht, Result.andThen_ok, Instr.slice, h3, rS hi0, Sem.run_pure]
  simp
 ·split at hp <;> (try (cases hp; done))
  rename_i en he
  split at hp <;> (try (cases hp; done))
  rename_i s hs
  simp only [bB, bW] at hp
  obtain ⟨rfl, rfl⟩ := hp
  cases hx with
  | le a c =>
   obtain ⟨h3, h4, h5⟩ := mS (P := P) (w := w) (dU := true) (cap' := c) hl hh (Nat.zero_le _) he hs
   have hrun : (Instr.sliceAt t (.slice (some a) 0 c) lo' hi' none).run P w = .ok (.slice (if c = s then some a else (some a).map (·.add (s * i.size))) (en - s) (c - s)) w := by
    simp only [Instr.sliceAt, Sem.run_bind, rU ht, Result.andThen_ok, Instr.slice, h3, rS hi0, Sem.run_pure]
   have hv : VR ρ .le (.slice (if c = s then some a else (some a).map (·.add (s * i.size))) (en - s) (c - s)) := by
    rw [show en - s = 0 from by omega]
    split
    ·exact .le _ _
    ·exact .le _ _
   exact SemOk.pure H hv hrun
theorem aOl (H : HR G ρ h w) {t e : TypeId} {i : TypeInfo} {x hi mx : DV} {x' hi' mx' : Value} {lo : Option DV} {lo' : Option Value} (ht : P.underlying t = some (.slice e)) (hi0 : P.info? e = some i) (hx : VR ρ x x') (hl : OR ρ lo lo') (hh : VR ρ hi hi') (hm : VR ρ mx mx')
 (hp : aBa x lo hi mx h = some (v, h1)) : SemOk P G ρ w v h1 (Instr.sliceAt t x' lo' (some hi') (some mx')) := by
 unfold aBa at hp
 split at hp <;> (try (cases hp; done))
 ·rename_i b o len cap n1 n2 e1 e2
  split at hp
  ·rename_i k l0 hb
   simp only [bB, bW] at hp
   obtain ⟨rfl, rfl⟩ := hp
   cases hx with
   | l _ _ _ _ L hL =>
    cases hl
    obtain ⟨h3, h4⟩ := hU (P := P) (w := w) (y' := cap + L.sp) (code := .slice3Acap) hm e1 (Nat.zero_le _)
    obtain ⟨h5, h6⟩ := hU (P := P) (w := w) (y' := n1) (code := .slice3B) hh e2 (Nat.zero_le _)
    obtain rfl : n1 = 0 := by omega
    obtain rfl : n2 = 0 := by omega
    refine ⟨_, w, .slice (some (fL L o)) 0 0, ?_, H.exx ⟨L.bl, L.of + o, 0, (fL L o).spot⟩, .l _ 0 0 0 ⟨L.bl, L.of + o, 0, (fL L o).spot⟩ (bR _ _ _), H.newEmpty .ex _ (.inl ⟨rfl, rfl⟩), Kp.refl G w⟩
    simp only [Instr.sliceAt, Sem.run_bind, rU ht, Result.andThen_ok, Instr.slice, Instr.sliceBounds, h3, h5, rS hi0, Sem.run_pure, if_true]
  ·split at hp <;> cases hp
 ·rename_i n1 n2 e1 e2
  simp only [bB, bW] at hp
  obtain ⟨rfl, rfl⟩ := hp
  cases hx
  cases hl
  obtain ⟨h3, h4⟩ := hU (P := P) (w := w) (y' := 0) (code := .slice3Acap) hm e1 (Nat.zero_le _)
  obtain ⟨h5, h6⟩ := hU (P := P) (w := w) (y' := n1) (code := .slice3B) hh e2 (Nat.zero_le _)
  obtain rfl : n1 = 0 := by omega
  obtain rfl : n2 = 0 := by omega
  refine SemOk.pure H .l0 ?_
  simp only [Instr.sliceAt, Sem.run_bind, rU ht, Result.andThen_ok, Instr.slice, Instr.sliceBounds, h3, h5, rS hi0, Sem.run_pure, if_true]
 ·rename_i n1 n2 e1 e2
  simp only [bB, bW] at hp
  obtain ⟨rfl, rfl⟩ := hp
  cases hx with
  | le a c =>
  cases hl
  obtain ⟨h3, h4⟩ := hU (P := P) (w := w) (y' := c) (code := .slice3Acap) hm e1 (Nat.zero_le _)
  obtain ⟨h5, h6⟩ := hU (P := P) (w := w) (y' := n1) (code := .slice3B) hh e2 (Nat.zero_le _)
  obtain rfl : n1 = 0 := by omega
  obtain rfl : n2 = 0 := by omega
  refine SemOk.pure H (.le a 0) ?_
  simp only [Instr.sliceAt, Sem.run_bind, rU ht, Result.andThen_ok, Instr.slice, Instr.sliceBounds, h3, h5, rS hi0, Sem.run_pure, if_true]
theorem aYm (H : HR G ρ h w) {t : TypeId} {fs : Array Field} {f : Nat} {fl : Field} {i : TypeInfo} {x : DV} {x' : Value} (ht : P.underlying t = some (.struct fs)) (hf : fs[f]? = some fl) (hi : P.info? fl.type = some i) (h0 : i.size ≠ 0) (hx : VR ρ x x')
 (hp : aA fl.offset x h = some (v, h1)) : SemOk P G ρ w v h1 (Instr.fieldAt t x' f) := by
 unfold aA at hp
 split at hp <;> (try (cases hp; done))
 simp only [bB, bW] at hp
 obtain ⟨rfl, rfl⟩ := hp
 cases hx with
 | p b o L hL =>
  refine SemOk.pure H (.p _ _ L hL) ?_
  simp only [Instr.fieldAt, Sem.run_bind, rU ht, Result.andThen_ok, hf, Instr.sureAddr, Sem.run_pure, fieldPlace, rS hi]
  rw [if_neg h0]
  simp [jA]
theorem aVp (H : HR G ρ h w) {t : TypeId} {fs : Array Field} {f : Nat} {fl : Field} {d : TypeDesc} {x : DV} {x' : Value} (ht : P.underlying t = some (.struct fs)) (hf : fs[f]? = some fl) (hd : P.underlying fl.type = some d) (ha : kP d = false) (hx : VR ρ x x')
 (hp : eM fl.offset x h = some (v, h1)) : SemOk P G ρ w v h1 (Instr.field t x' f) := by
 unfold eM at hp
 split at hp <;> (try (cases hp; done))
 split at hp <;> (try (cases hp; done))
 rename_i u hu
 simp only [bB, bW] at hp
 obtain ⟨rfl, rfl⟩ := hp
 cases hx with
 | a _ cs' hc =>
  obtain ⟨u', h3, h4⟩ := hc.get _ _ hu
  refine SemOk.pure H h4 ?_
  simp only [Instr.field, Sem.run_bind, rU ht, Result.andThen_ok, hf, asAgg, Sem.run_pure, part, rA hd, ha]
  simp only [Array.getElem?_toList] at h3
  simp [h3]
theorem aPb (H : HR G ρ h w) {t : TypeId} {fs : Array Field} {f : Nat} {fl : Field} {d : TypeDesc} {i : TypeInfo} {x : DV} {x' : Value} (ht : P.underlying t = some (.struct fs)) (hf : fs[f]? = some fl) (hd : P.underlying fl.type = some d) (hi : P.info? fl.type = some i) (ha : kP d = true) (hx : VR ρ x x')
 (hp : aAw fl.offset i.size x h = some (v, h1)) : SemOk P G ρ w v h1 (Instr.field t x' f) := by
 unfold aAw at hp
 split at hp <;> (try (cases hp; done))
 simp only [bB, bW] at hp
 obtain ⟨rfl, rfl⟩ := hp
 cases hx with
 | a _ cs' hc =>
  refine SemOk.pure H (.a _ (cs'.extract fl.offset (fl.offset + i.size)) ?_) ?_
  ·have := (hc.drop fl.offset).take i.size
   simpa [List.take_drop, Nat.add_comm] using this
  ·simp only [Instr.field, Sem.run_bind, rU ht, Result.andThen_ok, hf, asAgg, Sem.run_pure, part, rA hd, ha, rS hi, if_true]
theorem yJ (H : HR G ρ h w) {t e : TypeId} {i : TypeInfo} {x ix : DV} {x' ix' : Value} (ht : P.underlying t = some (.slice e)) (hi : P.info? e = some i) (hx : VR ρ x x') (hix : VR ρ ix ix') (hp : aT i.size x ix h = some (v, h1)) :
 SemOk P G ρ w v h1 (Instr.indexAt t x' ix') := by
 unfold aT at hp
 split at hp <;> (try (cases hp; done))
 split at hp <;> (try (cases hp; done))
 rename_i hr
 simp only [bB, bW] at hp
 obtain ⟨rfl, rfl⟩ := hp
 cases hix
 cases hx with
 | l b o len cap L hL =>
  refine SemOk.pure H (.p _ _ L hL) ?_
  simp only [Instr.indexAt, asIntOf, Sem.run_bind, Sem.run_pure, Result.andThen_ok, rU ht]
  simp [hr, rS hi, jA]
theorem aBx (H : HR G ρ h w) {t e : TypeId} {n : Nat} {i : TypeInfo} {x ix : DV} {x' ix' : Value} (ht : P.underlying t = some (.array n e)) (hi : P.info? e = some i) (hx : VR ρ x x') (hix : VR ρ ix ix') (hp : kS n i.size x ix h = some (v, h1)) :
 SemOk P G ρ w v h1 (Instr.indexAt t x' ix') := by
 unfold kS at hp
 split at hp <;> (try (cases hp; done))
 split at hp <;> (try (cases hp; done))
 rename_i hr
 simp only [bB, bW] at hp
 obtain ⟨rfl, rfl⟩ := hp
 cases hix
 cases hx with
 | p b o L hL =>
  refine SemOk.pure H (.p _ _ L hL) ?_
  simp only [Instr.indexAt, asIntOf, Sem.run_bind, Sem.run_pure, Result.andThen_ok, rU ht, Instr.sureAddr]
  simp [hr, rS hi, jA]
theorem aNz (H : HR G ρ h w) {t : TypeId} {x ix : DV} {x' ix' : Value} (ht : P.underlying t = some .string) (hx : VR ρ x x') (hix : VR ρ ix ix') (hp : eP x ix h = some (v, h1)) :
 SemOk P G ρ w v h1 (Instr.index t x' ix') := by
 unfold eP at hp
 split at hp <;> (try (cases hp; done))
 rename_i l k n
 split at hp <;> (try (cases hp; done))
 rename_i h0
 split at hp <;> (try (cases hp; done))
 rename_i c hc
 simp only [bB, bW] at hp
 obtain ⟨rfl, rfl⟩ := hp
 cases hix
 cases hx with
 | s _ bs hb =>
  subst hb
  rw [List.getElem?_map, Array.getElem?_toList] at hc
  cases hg : bs.data[n.toNat]? with
  | none => rw [hg] at hc; cases hc
  | some u =>
   rw [hg] at hc
   simp only [Option.map_some, bB] at hc
   subst hc
   refine SemOk.pure H (by constructor) ?_
   have hs : bs[n.toNat]? = some u := by
    have hlt : n.toNat < bs.size := (Array.getElem?_eq_some_iff.1 hg).1
    rw [ByteArray.getElem?_lt' bs _ hlt]
    congr 1
    exact (Array.getElem?_eq_some_iff.1 hg).2
   simp only [Instr.index, asIntOf, Sem.run_bind, Sem.run_pure, Result.andThen_ok, rU ht]
   simp [h0, hs]
theorem aGr (H : HR G ρ h w) {i : Nat} {x : DV} {x' : Value} (hx : VR ρ x x') (hp : aH i x h = some (v, h1)) : SemOk P G ρ w v h1 (Instr.extract x' i) := by
 unfold aH at hp
 split at hp <;> (try (cases hp; done))
 split at hp <;> (try (cases hp; done))
 rename_i u hu
 simp only [bB, bW] at hp
 obtain ⟨rfl, rfl⟩ := hp
 cases hx with
 | t _ vs' hc =>
  obtain ⟨u', h3, h4⟩ := hc.get _ _ hu
  refine SemOk.pure H h4 ?_
  simp only [Array.getElem?_toList] at h3
  simp [Instr.extract, h3]
end
end Go.Dd

namespace Go.Dd
open Go.RowKit (Below)
section
variable {P : Program} {G : Gd} {ρ : Ren} {w : World} {h h1 : Hp} {v : DV}
theorem HR.kill (H : HR G ρ h w) {b : Pos} {es o : Nat} {l : List DV} (hb : h.bl.get b = some (.row (.gr es) l)) :
 HR G ρ ⟨h.next, Tr.set (.row .sp (cD o l)) b h.bl⟩ w := by
 obtain ⟨k1, k2⟩ := jY o l
 have hroB : ¬ isRo h b := by rintro ⟨l0, h0⟩; rw [hb] at h0; simp at h0
 have hcl : ∀ {x a}, Claims ρ ⟨h.next, Tr.set (.row .sp (cD o l)) b h.bl⟩ x a → Claims ρ h x a := by
  rintro x a ⟨k', l', L', h1, h2, h3⟩
  by_cases e : x = b
  ·subst e
   simp only [bZf, bB, Ob.row.injEq] at h1
   obtain ⟨rfl, rfl⟩ := h1
   rcases h3 with ⟨i, u, hi, hu, rfl⟩ | ⟨es, j, h4, _, _⟩
   ·exact ⟨_, l, L', hb, h2, .inl ⟨i, u, (k2 i u hi hu).2, hu, rfl⟩⟩
   ·cases h4
  ·simp only [bZd _ _ _ _ e] at h1
   exact ⟨k', l', L', h1, h2, h3⟩
 have hro : ∀ x, isRo ⟨h.next, Tr.set (.row .sp (cD o l)) b h.bl⟩ x ↔ isRo h x := by
  intro x
  by_cases e : x = b
  ·subst e; simp [isRo, bZf, hb]
  ·simp [isRo, bZd _ _ _ _ e]
 refine { gl := H.gl, sz := H.sz, nx := H.nx, ro := fun x a hc hr => H.ro x a (hcl hc) ((hro x).1 hr), dom := ?_, lt := H.lt, cell := ?_, spare := ?_, free := ?_, inj := ?_, ex := ?_, grone := ?_, itr := ?_, itj := ?_ }
 ·intro x ob hx
  by_cases e : x = b
  ·subst e; exact H.dom x _ hb
  ·simp only [bZd _ _ _ _ e] at hx; exact H.dom x ob hx
 ·intro x k' l' L' i u hx hL' hi hu
  by_cases e : x = b
  ·subst e
   simp only [bZf, bB, Ob.row.injEq] at hx
   obtain ⟨rfl, rfl⟩ := hx
   exact H.cell x _ l L' i u hb hL' (k2 i u hi hu).2 hu
  ·simp only [bZd _ _ _ _ e] at hx
   exact H.cell x k' l' L' i u hx hL' hi hu
 ·intro x l' L' es j hx hL' hj
  by_cases e : x = b
  ·subst e; simp [bZf] at hx
  ·simp only [bZd _ _ _ _ e] at hx
   exact H.spare x l' L' es j hx hL' hj
 ·intro x a hc hr
  exact H.free x a (hcl hc) (fun h => hr ((hro x).2 h))
 ·intro x x' a hc hc' hr
  exact H.inj x x' a (hcl hc) (hcl hc') (fun h => hr ((hro x).2 h))
 ·intro x l' L' hx hL'
  by_cases e : x = b
  ·subst e; simp [bZf] at hx
  ·simp only [bZd _ _ _ _ e] at hx
   exact H.ex x l' L' hx hL'
 ·intro x es l' i u hx hi
  by_cases e : x = b
  ·subst e; simp [bZf] at hx
  ·simp only [bZd _ _ _ _ e] at hx
   exact H.grone x es l' i u hx hi
 ·intro x s pos L' hx hL'
  by_cases e : x = b
  ·subst e; simp [bZf] at hx
  ·simp only [bZd _ _ _ _ e] at hx
   exact H.itr x s pos L' hx hL'
 ·intro x s pos x' s' pos' L1 L2 hx hx' h1 h2 he
  by_cases e : x = b
  ·subst e; simp [bZf] at hx
  ·by_cases e' : x' = b
   ·subst e'; simp [bZf] at hx'
   ·simp only [bZd _ _ _ _ e] at hx
    simp only [bZd _ _ _ _ e'] at hx'
    exact H.itj x s pos x' s' pos' L1 L2 hx hx' h1 h2 he
theorem bOg (H : HR G ρ h w) {size n : Nat} {x : DV} {x' : Value} {new : List DV} (h0 : 0 < size) (hx : VR ρ x x') (hs : nC size x h = some (n, new)) :
 ∃ new' : List Value, VRs ρ new new' ∧ new.length = n * size ∧ (∀ u ∈ new, u.one = true) ∧ (Builtin.lenOf x').run P w = .ok n w ∧
  ∀ w1 : World, w1.heap = w.heap → (Builtin.lenOf x').run P w1 = .ok n w1 ∧ (Builtin.firstCells size n x').run P w1 = .ok new'.toArray w1 := by
 unfold nC at hs
 split at hs <;> (try (cases hs; done))
 ·simp only [bB, bW] at hs
  obtain ⟨rfl, rfl⟩ := hs
  cases hx
  exact ⟨[], .nil, by simp, by simp, by simp [Builtin.lenOf], fun w1 _ => ⟨by simp [Builtin.lenOf], by simp [Builtin.firstCells]⟩⟩
 ·simp only [bB, bW] at hs
  obtain ⟨rfl, rfl⟩ := hs
  cases hx with
  | le a c =>
   refine ⟨[], .nil, by simp, by simp, by simp [Builtin.lenOf], fun w1 _ => ⟨by simp [Builtin.lenOf], ?_⟩⟩
   simp [Builtin.firstCells, loadCells, loadCellsFrom]
 ·rename_i b o m cap
  split at hs <;> (try (cases hs; done))
  rename_i cs hc
  simp only [bB, bW] at hs
  obtain ⟨rfl, rfl⟩ := hs
  cases hx with
  | l _ _ _ _ L hL =>
   obtain ⟨h1, h2, _, vs, h4, h5, h6⟩ := fR H hc hL
   refine ⟨vs, h4, h1, h2, by simp [Builtin.lenOf], fun w1 hw1 => ⟨by simp [Builtin.lenOf], ?_⟩⟩
   have := eK (P := P) (w := w1) (a := fL L o) vs rfl (fun j u hj => by have := h6 j u hj; simpa [World.cell?, hw1] using this)
   rw [h5] at this
   simpa [Builtin.firstCells] using this
 ·rename_i l
  split at hs <;> (try (cases hs; done))
  rename_i h1
  simp only [bB, bW] at hs
  obtain ⟨rfl, rfl⟩ := hs
  subst h1
  cases hx with
  | s _ bs hb =>
   have hlen : l.length = bs.size := by rw [← hb, List.length_map, Array.length_toList]; rfl
   refine ⟨bs.data.toList.map fun b => .int .u8 b.toNat, ?_, by simp, ?_, by simp [Builtin.lenOf, hlen], fun w1 _ => ⟨by simp [Builtin.lenOf, hlen], ?_⟩⟩
   ·rw [← hb, List.map_map]
    exact VRs.map _ _ (fun c => .i _ _) _
   ·intro u hu
    simp at hu
    obtain ⟨c, _, rfl⟩ := hu
    rfl
   ·simp only [Builtin.firstCells, Sem.run_pure, hlen]
    congr 1
    have he : (bs.extract 0 bs.size).data = bs.data := by
     rw [ByteArray.data_extract]
     exact Array.extract_size
    rw [he]
    apply Array.toList_inj.1
    simp
theorem gE {t u e : TypeId} {i : TypeInfo} {ty : TypeId} {base : Option Addr} {sLen sCap n : Nat} {x' : Value} {d : TypeDesc} {new' : Array Value}
 (ht : P.underlying t = some (.slice e)) (hu : P.underlying u = some d) (hd : ∀ k, d ≠ .int k) (hi : P.info? e = some i) (hl : (Builtin.lenOf x').run P w = .ok n w)
 (hf : (Builtin.firstCells i.size n x').run P w = .ok new' w) (hle : sLen + n ≤ sCap) :
 (Builtin.append_ #[t, u] ty #[.slice base sLen sCap, x']).run P w =
  (match base with
   | some a => (storeCells (a.add (sLen * i.size)) new'.toList).run P w
   | none => .ok () w).andThen fun _ w' => .ok (.slice base (sLen + n) sCap) w' := by
 have hz : (match d with | .int _ => true | _ => false) = false := by cases d <;> first | rfl | exact absurd rfl (hd _)
 simp only [Builtin.append_, List.getElem?_toArray, List.getElem?_cons_zero, List.getElem?_cons_succ, Sem.run_bind, rU ht, rU hu, rS hi, Result.andThen_ok, Sem.run_pure]
 simp only [hz, Bool.false_eq_true, if_false, hl, Result.andThen_ok, Bool.not_false, if_true, hle, Sem.run_bind, hf]
 cases base <;> simp
theorem rL {t u e : TypeId} {i : TypeInfo} {z : Value} {ty : TypeId} {base : Option Addr} {sLen sCap n : Nat} {x' : Value} {d : TypeDesc} {old' new' : Array Value}
 (ht : P.underlying t = some (.slice e)) (hu : P.underlying u = some d) (hd : ∀ k, d ≠ .int k) (hi : P.info? e = some i) (hz : i.zero = some z) (hl : (Builtin.lenOf x').run P w = .ok n w)
 (ho : (Builtin.firstCells i.size sLen (.slice base sLen sCap)).run P w.drew = .ok old' w.drew) (hf : (Builtin.firstCells i.size n x').run P w.drew = .ok new' w.drew) (hgt : ¬ sLen + n ≤ sCap)
 (hb0 : 0 < i.bytes) (hroom : (sLen + n) * i.bytes ≤ gW) :
 ∃ newCap, sLen + n ≤ newCap ∧ (Builtin.append_ #[t, u] ty #[.slice base sLen sCap, x']).run P w =
  .ok (.slice (some ⟨w.heap.size, 0, none⟩) (sLen + n) newCap) (w.drew.alloc (.cells (old' ++ new' ++ Builtin.zeroCells z.cells (newCap - (sLen + n))) e)) := by
 have hzd : (match d with | .int _ => true | _ => false) = false := by cases d <;> first | rfl | exact absurd rfl (hd _)
 refine ⟨(Question.appendCap (sLen + n) sCap e).cut (w.tape w.drawn (.appendCap (sLen + n) sCap e)), by simp [Question.cut], ?_⟩
 have hsmall : sLen + n ≤ gW := Nat.le_trans (Nat.le_mul_of_pos_right _ hb0) hroom
 have hmax : ¬ ((((sLen + n : Nat) : Int) > IntKind.i64.max) ∧ (False ∨ i.bytes = 0)) := by rintro ⟨_, h | h⟩ <;> omega
 have hfit := growslice_fits (need := sLen + n) (old := sCap) (bytes := i.bytes) (by omega) (by unfold gW at hroom; omega)
 simp only [Builtin.append_, List.getElem?_toArray, List.getElem?_cons_zero, List.getElem?_cons_succ, Sem.run_bind, rU ht, rU hu, rS hi, Result.andThen_ok, Sem.run_pure]
 simp only [hzd, Bool.false_eq_true, if_false, hl, Result.andThen_ok, Bool.not_false, if_true, hgt, Sem.run_bind, rI hi]
 rw [if_neg hmax]
 simp only [Sem.run_bind, rI hi, Result.andThen_ok, Sem.run_pure]
 rw [if_neg (by omega)]
 simp only [Sem.run_bind, run_choose, Question.forced, Bool.false_eq_true, if_false, Result.andThen_ok, rI hi, run_askRoom, World.drew_eq, ho, hf, rZ hi hz, Sem.run_pure]
 simp [newRow]
 rfl
theorem aOk (H : HR G ρ h w) {t u e : TypeId} {i : TypeInfo} {z : Value} {ty : TypeId} {d : TypeDesc} {s x : DV} {s' x' : Value}
 (ht : P.underlying t = some (.slice e)) (hu : P.underlying u = some d) (hd : ∀ k, d ≠ .int k) (hi : P.info? e = some i) (hz : i.zero = some z) (h0 : 0 < i.size) (hb0 : 0 < i.bytes) (hzs : z.cells.size = i.size)
 (hs : VR ρ s s') (hx : VR ρ x x') (hp : bH i.size i.bytes s x h = some (v, h1)) :
 SemOk P G ρ w v h1 (Builtin.append_ #[t, u] ty #[s', x']) := by
 unfold bH at hp
 split at hp <;> (try (cases hp; done))
 rename_i n new hsrc
 obtain ⟨new', n1, n2, n3, n4, n5⟩ := bOg (P := P) H h0 hx hsrc
 have hnew : ∀ (base : Option Addr) (sLen sCap : Nat) (old : List DV) (old' : List Value) (hx : Hp) (Hx : HR G ρ hx w), hx.next = h.next → VRs ρ old old' → old.length = sLen * i.size → (∀ u ∈ old, u.one = true) →
  (Builtin.firstCells i.size sLen (.slice base sLen sCap)).run P w.drew = .ok old'.toArray w.drew → ¬ sLen + n ≤ sCap → (sLen + n) * i.bytes ≤ gW →
  v = .l h.next 0 (sLen + n) (sLen + n) → h1 = ⟨h.next.succ, Tr.set (.row (.gr i.size) (old ++ new)) h.next hx.bl⟩ → SemOk P G ρ w v h1 (Builtin.append_ #[t, u] ty #[.slice base sLen sCap, x']) := by
  intro base sLen sCap old old' hx Hx hnx o1 o2 o3 o4 hgt hroom hv hh
  subst hv hh
  obtain ⟨newCap, c1, c2⟩ := rL (P := P) (w := w) (ty := ty) ht hu hd hi hz n4 o4 (n5 w.drew rfl).2 hgt hb0 hroom
  have hrow := Hx.drew.newRow (.gr i.size) (old ++ new) (old' ++ new') (old'.toArray ++ new'.toArray ++ Builtin.zeroCells z.cells (newCap - (sLen + n))) e (newCap - (sLen + n)) (o1.append n1)
   (fun j y hj => by
    have hlt : j < (old' ++ new').length := by
     rcases Nat.lt_or_ge j (old' ++ new').length with h | h
     ·exact h
     ·rw [List.getElem?_eq_none h] at hj; cases hj
    rw [Array.getElem?_append_left (by simpa using hlt)]
    simpa using hj)
   (.inr ⟨i.size, rfl, by simp [Builtin.zeroCells, hzs], fun y hy => by
    simp at hy
    rcases hy with hy | hy
    ·exact o3 y hy
    ·exact n3 y hy⟩)
  rw [hnx] at hrow
  refine ⟨_, _, _, c2, ?_, ?_, hrow, ?_⟩
  ·have := Hx.exx ⟨w.heap.size, 0, newCap - (sLen + n), none⟩
   rwa [hnx] at this
  ·have hvr : VR (nH ρ h.next ⟨w.heap.size, 0, newCap - (sLen + n), none⟩) (.l h.next 0 (sLen + n) (sLen + n)) (.slice (some (fL ⟨w.heap.size, 0, newCap - (sLen + n), none⟩ 0)) (sLen + n) (sLen + n + (newCap - (sLen + n)))) := .l _ _ _ _ _ (bR _ _ _)
   rw [show sLen + n + (newCap - (sLen + n)) = newCap from by omega] at hvr
   exact hvr
  ·exact (Kp.refl G w).drew.trans (gP (by simpa using H.sz) _)
 split at hp <;> (try (cases hp; done))
 ·cases hs
  split at hp
  ·rename_i hn0
   subst hn0
   simp only [bB, bW] at hp
   obtain ⟨rfl, rfl⟩ := hp
   refine SemOk.pure H .l0 ?_
   rw [gE ht hu hd hi n4 (n5 w rfl).2 (by omega)]
   simp
  ·rename_i hn0
   split at hp <;> (try (cases hp; done))
   rename_i hroom
   simp only [bB, bW] at hp
   obtain ⟨rfl, rfl⟩ := hp
   exact hnew none 0 0 [] [] h H rfl .nil (by simp) (by simp) (by simp [Builtin.firstCells]) (by omega) (by simpa using hroom) (by simp) (by simp)
 ·split at hp <;> (try (cases hp; done))
  rename_i hn0
  subst hn0
  simp only [bB, bW] at hp
  obtain ⟨rfl, rfl⟩ := hp
  cases hs with
  | le a c =>
   have hnew0 : new = [] := List.eq_nil_of_length_eq_zero (by rw [n2]; simp)
   subst hnew0
   cases n1
   refine SemOk.pure H (.le a c) ?_
   rw [gE ht hu hd hi n4 (n5 w rfl).2 (by omega)]
   simp [storeCells]
 ·rename_i b o len cap
  cases hs with
  | l _ _ _ _ L hL =>
   split at hp
   ·rename_i hle
    split at hp <;> (try (cases hp; done))
    rename_i h' hst
    simp only [bB, bW] at hp
    obtain ⟨rfl, rfl⟩ := hp
    obtain ⟨w', s1, s2, s3⟩ := mA (P := P) H hst hL n1
    refine ⟨ρ, w', _, ?_, Ex.refl G ρ, .l b o _ _ L hL, s2, s3⟩
    rw [gE ht hu hd hi n4 (n5 w rfl).2 (by omega)]
    simp only [jA]
    rw [s1]
    simp
   ·rename_i hgt
    split at hp <;> (try (cases hp; done))
    rename_i k l old hb hold
    split at hp <;> (try (cases hp; done))
    rename_i hroom
    obtain ⟨o1, o2, ⟨k0, l0, hb0', o3, o4⟩, old', o5, o6, o7⟩ := fR H hold hL
    rw [hb] at hb0'
    simp only [bB, Ob.row.injEq] at hb0'
    obtain ⟨rfl, rfl⟩ := hb0'
    have hfo : (Builtin.firstCells i.size len (.slice (some (fL L o)) len (cap + L.sp))).run P w.drew = .ok old'.toArray w.drew := by
     have := eK (P := P) (w := w.drew) (a := fL L o) old' rfl (fun j y hj => by simpa using o7 j y hj)
     rw [o6] at this
     simpa [Builtin.firstCells] using this
    split at hp <;> (try (cases hp; done))
    ·simp only [bB, bW] at hp
     have hsp := H.ex b l L (.inl hb) hL
     exact hnew _ _ _ old old' h H rfl o5 o1 o2 hfo (by omega) hroom hp.1.symm hp.2.symm
    ·simp only [bB, bW] at hp
     have hsp := H.ex b l L (.inr hb) hL
     exact hnew _ _ _ old old' h H rfl o5 o1 o2 hfo (by omega) hroom hp.1.symm hp.2.symm
    ·rename_i es
     split at hp <;> (try (cases hp; done))
     rename_i hes
     obtain ⟨rfl, hend⟩ := hes
     simp only [bB, bW] at hp
     by_cases hin : len + n ≤ cap + L.sp
     ·obtain ⟨rfl, rfl⟩ := hp
      have hroB : ¬ isRo h b := by rintro ⟨l0, h0⟩; rw [hb] at h0; simp at h0
      have hlenle : len ≤ cap := by
       simp only [List.length_drop] at o4
       have : len * i.size ≤ cap * i.size := by omega
       exact Nat.le_of_mul_le_mul_right this h0
      have e1 : len * i.size ≤ cap * i.size := Nat.mul_le_mul_right _ hlenle
      have e2 : (len + n) * i.size = len * i.size + n * i.size := Nat.add_mul _ _ _
      have e3 : (cap + L.sp) * i.size = cap * i.size + L.sp * i.size := Nat.add_mul _ _ _
      have e4 : (len + n) * i.size ≤ (cap + L.sp) * i.size := Nat.mul_le_mul_right _ hin
      have e6 : 1 * i.size ≤ (cap + L.sp) * i.size := Nat.mul_le_mul_right _ (by omega)
      have hn' := n1.length
      have hOC : ∀ j, j < l.length + L.sp * i.size → Claims ρ h b (fL L j) := by
       intro j hj
       by_cases hlt : j < l.length
       ·exact ⟨_, l, L, hb, hL, .inl ⟨j, l[j], by simp [hlt], H.grone b i.size l j _ hb (by simp [hlt]), rfl⟩⟩
       ·exact ⟨_, l, L, hb, hL, .inr ⟨i.size, j - l.length, rfl, by omega, by rw [show l.length + (j - l.length) = j from by omega]⟩⟩
      obtain ⟨w', s1, s2⟩ := jP (P := P) (L := L) new' (o + len * i.size) 0 w (fun j hj => by
       have hc := hOC (o + len * i.size + 0 + j) (by omega)
       exact ⟨H.lt_cell hc, (H.free b _ hc hroB).1⟩) (n1.mem_one n3)
      rw [Nat.add_zero] at s2
      have hBL : Own G L.bl := by
       have hc := hOC o (by omega)
       simpa [fL] using (H.free b _ hc hroB).2
      refine ⟨_, w', .slice (some (fL L o)) (len + n) (cap + L.sp), ?_, H.exx _, ?_, H.regrow hb hL h0 hend hlenle (by omega) hin o3 n2 n3 n1 s2, s2.below hBL⟩
      ·rw [gE ht hu hd hi n4 (n5 w rfl).2 hin]
       simp only [jA]
       rw [s1]
       simp
      ·have hvr : VR (nH ρ h.next ⟨L.bl, L.of + o, cap + L.sp - (len + n), if o = 0 then L.spot else none⟩) (.l h.next 0 (len + n) (len + n)) (.slice (some (fL ⟨L.bl, L.of + o, cap + L.sp - (len + n), if o = 0 then L.spot else none⟩ 0)) (len + n) (len + n + (cap + L.sp - (len + n)))) := .l _ _ _ _ _ (bR _ _ _)
       rw [show len + n + (cap + L.sp - (len + n)) = cap + L.sp from by omega] at hvr
       exact hvr
     ·exact hnew _ _ _ old old' _ (H.kill (o := o) hb) rfl o5 o1 o2 hfo hin hroom hp.1.symm hp.2.symm
theorem aYv (H : HR G ρ h w) {t : TypeId} {x : DV} {x' : Value} (ht : P.underlying t = some .string) (hx : VR ρ x x') (hp : yW x h = some (v, h1)) : SemOk P G ρ w v h1 (Instr.range t x') := by
 unfold yW at hp
 split at hp <;> (try (cases hp; done))
 simp only [bB, bW] at hp
 obtain ⟨rfl, rfl⟩ := hp
 cases hx with
 | s l bs hb =>
  refine ⟨_, w.alloc (.stringIter bs 0), .pointer (some ⟨w.heap.size, 0, none⟩), ?_, H.exx _, .p _ 0 ⟨w.heap.size, 0, 0, none⟩ (bR _ _ _), H.newIter _ bs hb, gP H.sz _⟩
  simp only [Instr.range, Sem.run_bind, rU ht, Result.andThen_ok, Sem.run_pure, run_newObj]
  rfl
theorem bEu (H : HR G ρ h w) {ty : TypeId} {x : DV} {x' : Value} (hx : VR ρ x x') (hp : qX x h = some (v, h1)) : SemOk P G ρ w v h1 (Instr.next x' true ty) := by
 unfold qX at hp
 split at hp <;> (try (cases hp; done))
 rename_i b
 split at hp <;> (try (cases hp; done))
 rename_i l pos hb
 cases hx with
 | p _ _ L hL =>
  obtain ⟨i1, i2, bs, i3, i4⟩ := H.itr b l pos L hb hL
  have ha : fL L 0 = ⟨L.bl, 0, none⟩ := by simp [fL, i2]
  have hlen : l.length = bs.size := by rw [← i4, List.length_map, Array.length_toList]; rfl
  have hget : (getObj L.bl).run P w = .ok (.stringIter bs pos) w := by simp [getObj, Sem.run, i3]
  rw [ha]
  split at hp
  ·rename_i c hc
   split at hp <;> (try (cases hp; done))
   rename_i hc128
   simp only [bB, bW] at hp
   obtain ⟨rfl, rfl⟩ := hp
   have hlt : pos < bs.size := by
    rcases Nat.lt_or_ge pos l.length with h | h
    ·omega
    ·rw [List.getElem?_eq_none h] at hc; cases hc
   have hcb : c = (bs[pos]'hlt).toNat := by
    rw [← i4, List.getElem?_map, Array.getElem?_toList] at hc
    have hg : bs.data[pos]? = some (bs[pos]'hlt) := Array.getElem?_eq_some_iff.2 ⟨hlt, rfl⟩
    rw [hg] at hc
    simpa using hc.symm
   have hdec := decode_ascii bs pos hlt (by omega)
   obtain ⟨s1, s2⟩ := H.stepIter (pos1 := pos + 1) hb hL i3 i4
   refine ⟨ρ, _, .tuple #[.bool true, goInt pos, .int .i32 c], ?_, Ex.refl G ρ, ?_, s1, s2⟩
   ·simp only [Instr.next, Sem.run_bind, hget, Result.andThen_ok]
    simp only [hlt, if_true, hdec, Sem.run_bind, Sem.run_pure]
    have hset : (setObj L.bl (.stringIter bs (pos + 1))).run P w = .ok () { w with heap := w.heap.setIfInBounds L.bl (.stringIter bs (pos + 1)) } := by simp [setObj, Sem.run, i3]
    rw [hset, hcb]
    rfl
   ·exact .t _ _ (.cons _ _ _ _ (.b _) (.cons _ _ _ _ (.i _ _) (.cons _ _ _ _ (.i _ _) .nil)))
  ·rename_i hc
   simp only [bB, bW] at hp
   obtain ⟨rfl, rfl⟩ := hp
   have hge : ¬ pos < bs.size := by
    intro hlt
    rw [List.getElem?_eq_none_iff] at hc
    omega
   refine SemOk.pure H (.t [.b false] #[.bool false] (.cons _ _ _ _ (.b _) .nil)) ?_
   simp only [Instr.next, Sem.run_bind, hget, Result.andThen_ok]
   simp [hge]
end
end Go.Dd

namespace Go.Dd
open Go.RowKit (Below)
def EnvR (ρ : Ren) (env : fQ) (a : Act) : Prop := ∀ t, VR ρ (env t) (a.tmps.getD t undef)
theorem bF {ρ : Ren} {env : fQ} {a : Act} (he : EnvR ρ env a) (x : Operand) : VR ρ (opr env x) (a.eval x) := by
 cases x with
 | tmp t => exact he t
 | const v => exact VR.cv ρ v
 | global g => exact .u _
 | func f => exact .f f [] [] #[] #[] .nil .nil
def aXb (G : Gd) (ρ : Ren) (w : World) (v : DV) (h1 : Hp) : Ending → World → Prop := fun e w' =>
 ∃ ρ' v', e = .returned v' ∧ Ex G ρ ρ' ∧ VR ρ' v v' ∧ HR G ρ' h1 w' ∧ Kp G w w'
def CallFn (P : Program) (G : Gd) (ρ : Ren) (w : World) (v : DV) (h1 : Hp) (g : FuncId) (args : Array Value) : Prop :=
 ((callFunc g args).run P w = .ok (.enter g args) w ∧ Calls P g args w (aXb G ρ w v h1)) ∨
 (∃ ρ' w' v', (callFunc g args).run P w = .ok (.value v') w' ∧ Ex G ρ ρ' ∧ VR ρ' v v' ∧ HR G ρ' h1 w' ∧ Kp G w w')
def pL (P : Program) (G : Gd) (g : FuncId) (F : List DV → Hp → aG) : Prop :=
 ∀ args h v h1, F args h = some (v, h1) → ∀ ρ w (args' : Array Value), HR G ρ h w → VRs ρ args args'.toList → CallFn P G ρ w v h1 g args'
structure OkC (C : Cfg) (rec : FuncId → List DV → Hp → aG) : Prop where
 own : ∀ G g F, C.I g = some F → pL C.P G g F
 fns : ∀ G g, pL C.P G g (rec g)
def OpOk (P : Program) (G : Gd) (ρ : Ren) (w : World) (v : DV) (h1 : Hp) (a : Act) (o : Oper) : Prop :=
 (∃ ρ' w' v', ((execOp a.eval o).run P w = .ok (.value v') w' ∨ ((execOp a.eval o).run P w = .ok .skip w' ∧ v' = undef)) ∧ Ex G ρ ρ' ∧ VR ρ' v v' ∧ HR G ρ' h1 w' ∧ Kp G w w') ∨
 (∃ g args, (execOp a.eval o).run P w = .ok (.enter g args) w ∧ Calls P g args w (aXb G ρ w v h1))
theorem bZi {P : Program} {G : Gd} {ρ : Ren} {w : World} {v : DV} {h1 : Hp} {a : Act} {o : Oper} {s : Sem Value} (he : execOp a.eval o = (do pure (.value (← s)))) (hs : SemOk P G ρ w v h1 s) : OpOk P G ρ w v h1 a o := by
 obtain ⟨ρ', w', v', r, h2, h3, h4, h5⟩ := hs
 refine .inl ⟨ρ', w', v', .inl ?_, h2, h3, h4, h5⟩
 rw [he]
 simp [r]
theorem OR.map {ρ : Ren} {env : fQ} {a : Act} (he : EnvR ρ env a) (x : Option Operand) : OR ρ (x.map (opr env)) (x.map a.eval) := by
 cases x with
 | none => exact .none
 | some y => exact .some _ _ (bF he y)
theorem cBo {ρ : Ren} {env : fQ} {a : Act} (he : EnvR ρ env a) : ∀ l : List Operand, VRs ρ (l.map (opr env)) (l.map a.eval)
 | [] => .nil
 | x :: l => .cons _ _ _ _ (bF he x) (cBo he l)
section
variable {C : Cfg} {G : Gd} {rec : FuncId → List DV → Hp → aG} {ρ : Ren} {w : World} {h h1 : Hp} {v : DV} {a : Act} {env : fQ}
theorem aFi (H : HR G ρ h w) (he : EnvR ρ env a) {o : Oper} {c : Call} {b : Builtin} (ho : o.op = .call c) (hc : c.callee = .builtin b)
 (hp : oS C b c.argTypes.toList (c.args.toList.map (opr env)) h = some (v, h1)) : OpOk C.P G ρ w v h1 a o := by
 have hrun : ∀ s : Sem Value, (∀ cons : Array Bool, builtin b c.argTypes o.type cons (c.args.map a.eval) = (do pure (.value (← s)) : Sem Next)) → execOp a.eval o = (do pure (.value (← s)) : Sem Next) := by
  intro s hs
  unfold execOp
  simp only [ho, resolve, hc, pure_bind, invoke]
  exact hs _
 unfold oS at hp
 split at hp <;> (try (cases hp; done))
 ·
  split at hp <;> (try (cases hp; done))
  rename_i t x rG hxs
  have hat : c.argTypes = #[t] := Array.toList_inj.1 (by simpa using rG)
  obtain ⟨ox, hca, hox⟩ : ∃ ox, c.args = #[ox] ∧ opr env ox = x := by
   rcases c with ⟨callee, args, ats⟩
   simp only at hxs ⊢
   have := congrArg List.length hxs
   match args, this with
   | ⟨[y]⟩, _ => simp at hxs; exact ⟨y, rfl, hxs⟩
  have hx := bF he ox
  rw [hox] at hx
  refine bZi (hrun (Builtin.len_ #[t] o.type #[a.eval ox]) (by intro cons; rw [hat, hca]; simp [builtin])) ?_
  split at hp <;> (try (cases hp; done))
  ·rename_i ht
   unfold iE at hp
   split at hp <;> (try (cases hp; done))
   rename_i l
   simp only [bB, bW] at hp
   obtain ⟨rfl, rfl⟩ := hp
   generalize a.eval ox = xv at hx ⊢
   cases hx with
   | s _ bs hb =>
    have hlen : l.length = bs.size := by rw [← hb, List.length_map, Array.length_toList]; rfl
    refine SemOk.pure H (by constructor) ?_
    simp only [Builtin.len_, Sem.run_bind, List.getElem?_toArray, List.getElem?_cons_zero, rU ht, Result.andThen_ok, goInt, Sem.run_pure, hlen]
  ·rename_i e ht
   unfold fS at hp
   split at hp <;> (try (cases hp; done))
   ·simp only [bB, bW] at hp
    obtain ⟨rfl, rfl⟩ := hp
    generalize a.eval ox = xv at hx ⊢
    cases hx with
    | l _ _ _ _ L hL =>
     refine SemOk.pure H (by constructor) ?_
     simp only [Builtin.len_, Sem.run_bind, List.getElem?_toArray, List.getElem?_cons_zero, rU ht, Result.andThen_ok, goInt, Sem.run_pure]
   ·simp only [bB, bW] at hp
    obtain ⟨rfl, rfl⟩ := hp
    generalize a.eval ox = xv at hx ⊢
    cases hx
    refine SemOk.pure H (by constructor) ?_
    simp only [Builtin.len_, Sem.run_bind, List.getElem?_toArray, List.getElem?_cons_zero, rU ht, Result.andThen_ok, goInt, Sem.run_pure]
    simp
   ·simp only [bB, bW] at hp
    obtain ⟨rfl, rfl⟩ := hp
    generalize a.eval ox = xv at hx ⊢
    cases hx
    refine SemOk.pure H (by constructor) ?_
    simp only [Builtin.len_, Sem.run_bind, List.getElem?_toArray, List.getElem?_cons_zero, rU ht, Result.andThen_ok, goInt, Sem.run_pure]
    simp
 ·
  unfold aGf at hp
  split at hp <;> (try (cases hp; done))
  rename_i x y hxs
  obtain ⟨ox, oy, hca, hox, hoy⟩ : ∃ ox oy, c.args = #[ox, oy] ∧ opr env ox = x ∧ opr env oy = y := by
   rcases c with ⟨callee, args, ats⟩
   simp only at hxs ⊢
   have := congrArg List.length hxs
   match args, this with
   | ⟨[y1, y2]⟩, _ => simp at hxs; exact ⟨y1, y2, rfl, hxs.1, hxs.2⟩
  have hx := bF he ox
  have hy := bF he oy
  rw [hox] at hx
  rw [hoy] at hy
  refine bZi (hrun (Builtin.min_ c.argTypes o.type #[a.eval ox, a.eval oy]) (by intro cons; rw [hca]; simp [builtin])) ?_
  unfold aNp at hp
  split at hp <;> (try (cases hp; done))
  simp only [bB, bW] at hp
  obtain ⟨rfl, rfl⟩ := hp
  generalize a.eval ox = xv at hx ⊢
  generalize a.eval oy = yv at hy ⊢
  cases hx
  cases hy
  refine SemOk.pure H (by constructor) ?_
  simp [Builtin.min_, Builtin.min2]
 ·
  unfold aFa at hp
  split at hp <;> (try (cases hp; done))
  rename_i x y hxs
  obtain ⟨ox, oy, hca, hox, hoy⟩ : ∃ ox oy, c.args = #[ox, oy] ∧ opr env ox = x ∧ opr env oy = y := by
   rcases c with ⟨callee, args, ats⟩
   simp only at hxs ⊢
   have := congrArg List.length hxs
   match args, this with
   | ⟨[y1, y2]⟩, _ => simp at hxs; exact ⟨y1, y2, rfl, hxs.1, hxs.2⟩
  have hx := bF he ox
  have hy := bF he oy
  rw [hox] at hx
  rw [hoy] at hy
  refine bZi (hrun (Builtin.max_ c.argTypes o.type #[a.eval ox, a.eval oy]) (by intro cons; rw [hca]; simp [builtin])) ?_
  unfold bLc at hp
  split at hp <;> (try (cases hp; done))
  simp only [bB, bW] at hp
  obtain ⟨rfl, rfl⟩ := hp
  generalize a.eval ox = xv at hx ⊢
  generalize a.eval oy = yv at hy ⊢
  cases hx
  cases hy
  refine SemOk.pure H (by constructor) ?_
  simp [Builtin.max_, Builtin.max2]
 ·
  split at hp <;> (try (cases hp; done))
  rename_i t u s x rG hxs
  have hat : c.argTypes = #[t, u] := Array.toList_inj.1 (by simpa using rG)
  obtain ⟨ox, oy, hca, hox, hoy⟩ : ∃ ox oy, c.args = #[ox, oy] ∧ opr env ox = s ∧ opr env oy = x := by
   rcases c with ⟨callee, args, ats⟩
   simp only at hxs ⊢
   have := congrArg List.length hxs
   match args, this with
   | ⟨[y1, y2]⟩, _ => simp at hxs; exact ⟨y1, y2, rfl, hxs.1, hxs.2⟩
  have hx := bF he ox
  have hy := bF he oy
  rw [hox] at hx
  rw [hoy] at hy
  refine bZi (hrun (Builtin.append_ #[t, u] o.type #[a.eval ox, a.eval oy]) (by intro cons; rw [hat, hca]; simp [builtin])) ?_
  have hmain : ∀ e d, C.P.underlying t = some (.slice e) → C.P.underlying u = some d → (∀ k, d ≠ .int k) → (match C.P.info? e with
   | some i => match i.zero with
    | some z => if 0 < i.size ∧ 0 < i.bytes ∧ z.cells.size = i.size then bH i.size i.bytes s x h else none
    | none => none
   | none => none) = some (v, h1) → SemOk C.P G ρ w v h1 (Builtin.append_ #[t, u] o.type #[a.eval ox, a.eval oy]) := by
   intro e d ht hu hd hp
   split at hp <;> (try (cases hp; done))
   rename_i i hi
   split at hp <;> (try (cases hp; done))
   rename_i z hz
   split at hp <;> (try (cases hp; done))
   rename_i hc3
   exact aOk H ht hu hd hi hz hc3.1 hc3.2.1 hc3.2.2 hx hy hp
  split at hp <;> (try (cases hp; done))
  ·rename_i e u0 ht hu
   exact hmain e _ ht hu (by simp) hp
  ·rename_i e ht hu
   exact hmain e _ ht hu (by simp) hp
theorem aEl (K : OkC C rec) (H : HR G ρ h w) (he : EnvR ρ env a) {o : Oper} (hp : kM C rec o env h = some (v, h1)) : OpOk C.P G ρ w v h1 a o := by
 unfold kM at hp
 split at hp <;> (try (cases hp; done))
 ·rename_i x ho
  simp only [bB, bW] at hp
  obtain ⟨rfl, rfl⟩ := hp
  exact .inl ⟨ρ, w, a.eval x, .inl (by unfold execOp; simp [ho]), Ex.refl G ρ, bF he x, H, Kp.refl G w⟩
 ·rename_i x ho
  simp only [bB, bW] at hp
  obtain ⟨rfl, rfl⟩ := hp
  exact .inl ⟨ρ, w, a.eval x, .inl (by unfold execOp; simp [ho]), Ex.refl G ρ, bF he x, H, Kp.refl G w⟩
 ·rename_i c x y ho
  have hc := bF he c
  unfold cA at hp
  split at hp <;> (try (cases hp; done))
  all_goals
   rename_i hcb
   simp only [bB, bW] at hp
   obtain ⟨rfl, rfl⟩ := hp
   rw [hcb] at hc
   generalize hcv : a.eval c = cv at hc
   cases hc
  ·exact .inl ⟨ρ, w, a.eval x, .inl (by unfold execOp; simp [ho, hcv, asBool]), Ex.refl G ρ, bF he x, H, Kp.refl G w⟩
  ·exact .inl ⟨ρ, w, a.eval y, .inl (by unfold execOp; simp [ho, hcv, asBool]), Ex.refl G ρ, bF he y, H, Kp.refl G w⟩
 ·rename_i t ho
  split at hp <;> (try (cases hp; done))
  rename_i i hi
  split at hp <;> (try (cases hp; done))
  rename_i z hz
  exact bZi (by unfold execOp; simp [ho]) (aTy H hi hz hp)
 ·rename_i t x ho
  exact bZi (s := Instr.box t (a.eval x)) (by unfold execOp; simp [ho]) (bLd H (bF he x) hp)
 ·rename_i t ps ho
  split at hp <;> (try (cases hp; done))
  rename_i fs i ht hi
  split at hp <;> (try (cases hp; done))
  rename_i z pl hz hpl
  split at hp <;> (try (cases hp; done))
  rename_i l hl
  exact bZi (by unfold execOp; simp only [ho]) (aSk H (bF he) ht hi hz hpl hl hp)
 ·rename_i t n ps ho
  split at hp <;> (try (cases hp; done))
  rename_i e ht
  split at hp <;> (try (cases hp; done))
  rename_i i hi
  split at hp <;> (try (cases hp; done))
  rename_i z hz
  split at hp <;> (try (cases hp; done))
  rename_i hc
  exact bZi (by unfold execOp; simp only [ho]) (vU H (bF he) ht hi hz hc.1 hc.2.1 hc.2.2 hp)
 ·rename_i t x ho
  split at hp <;> (try (cases hp; done))
  rename_i d i ht hi
  cases hd : kP d with
  | true => rw [hd] at hp; exact bZi (by unfold execOp; simp [ho]) (aTt H ht hi hd (bF he x) hp)
  | false => rw [hd] at hp; exact bZi (by unfold execOp; simp [ho]) (aXe H ht hd (bF he x) hp)
 ·rename_i t x y ho
  split at hp <;> (try (cases hp; done))
  rename_i i hi
  obtain ⟨rfl, w', s1, s2, s3⟩ := aRn (P := C.P) H hi (bF he x) (bF he y) hp
  refine .inl ⟨ρ, w', undef, .inr ⟨?_, rfl⟩, Ex.refl G ρ, .t [] #[] .nil, s2, s3⟩
  unfold execOp
  simp [ho, s1]
 ·rename_i x ho
  obtain ⟨h2, h3, h4⟩ := bLq (P := C.P) H ho (bF he x) hp
  subst h4
  exact .inl ⟨ρ, w, _, .inl h2, Ex.refl G ρ, h3, H, Kp.refl G w⟩
 ·rename_i op t x y yt ho
  split at hp <;> (try (cases hp; done))
  rename_i d ht
  exact bZi (by unfold execOp; simp only [ho]) (bKs (ox := x) (oy := y) H ht (bF he x) (bF he y) hp)
 ·rename_i op t x ho
  exact bZi (by unfold execOp; simp [ho]) (bTn H (bF he x) hp)
 ·rename_i src dst x ho
  split at hp <;> (try (cases hp; done))
  ·rename_i d k hs hd
   exact bZi (by unfold execOp; simp [ho]) (aRh H hs hd (bF he x) hp)
  ·rename_i hs hd
   exact bZi (by unfold execOp; simp [ho]) (aXw H hs hd (bF he x) hp)
  ·rename_i e hs hd
   split at hp <;> (try (cases hp; done))
   rename_i hu
   exact bZi (by unfold execOp; simp [ho]) (aYp H hs hu hd (bF he x) hp)
 ·rename_i fn first captured ho
  split at hp <;> (try (cases hp; done))
  rename_i g
  simp only [bB, bW] at hp
  obtain ⟨rfl, rfl⟩ := hp
  refine .inl ⟨ρ, w, .func (.func g) (first.map a.eval) (captured.map a.eval), .inl ?_, Ex.refl G ρ, ?_, H, Kp.refl G w⟩
  ·unfold execOp; simp [ho, Instr.makeFunc]
  ·exact .f g _ _ _ _ (by simpa using cBo he first.toList) (by simpa using cBo he captured.toList)
 ·rename_i t x lo hi mx ho
  split at hp <;> (try (cases hp; done))
  ·rename_i ht
   exact bZi (by unfold execOp; simp [ho]) (aOn H ht (bF he x) (OR.map he lo) (OR.map he hi) hp)
  ·rename_i e ht
   split at hp <;> (try (cases hp; done))
   rename_i i hi0
   exact bZi (by unfold execOp; simp [ho]) (aQs H ht hi0 (bF he x) (OR.map he lo) (OR.map he hi) hp)
  ·rename_i e m ht
   split at hp <;> (try (cases hp; done))
   rename_i i hv hi0
   exact bZi (by unfold execOp; simp [ho]) (aOl H ht hi0 (bF he x) (OR.map he lo) (bF he hv) (bF he m) hp)
 ·rename_i t x f ho
  split at hp <;> (try (cases hp; done))
  rename_i fs ht
  split at hp <;> (try (cases hp; done))
  rename_i fl hf
  split at hp <;> (try (cases hp; done))
  rename_i i hi
  split at hp <;> (try (cases hp; done))
  rename_i h0
  exact bZi (by unfold execOp; simp [ho]) (aYm H ht hf hi h0 (bF he x) hp)
 ·rename_i t x f ho
  split at hp <;> (try (cases hp; done))
  rename_i fs ht
  split at hp <;> (try (cases hp; done))
  rename_i fl hf
  split at hp <;> (try (cases hp; done))
  rename_i d i hd hi
  cases ha : kP d with
  | true => rw [ha] at hp; exact bZi (by unfold execOp; simp [ho]) (aPb H ht hf hd hi ha (bF he x) hp)
  | false => rw [ha] at hp; exact bZi (by unfold execOp; simp [ho]) (aVp H ht hf hd ha (bF he x) hp)
 ·rename_i t x ix ho
  split at hp <;> (try (cases hp; done))
  ·rename_i e ht
   split at hp <;> (try (cases hp; done))
   rename_i i hi
   exact bZi (by unfold execOp; simp [ho]) (yJ H ht hi (bF he x) (bF he ix) hp)
  ·rename_i n e ht
   split at hp <;> (try (cases hp; done))
   rename_i i hi
   exact bZi (by unfold execOp; simp [ho]) (aBx H ht hi (bF he x) (bF he ix) hp)
 ·rename_i t x ix ho
  split at hp <;> (try (cases hp; done))
  rename_i ht
  exact bZi (by unfold execOp; simp [ho]) (aNz H ht (bF he x) (bF he ix) hp)
 ·rename_i x i ho
  exact bZi (by unfold execOp; simp [ho]) (aGr H (bF he x) hp)
 ·rename_i t x ho
  split at hp <;> (try (cases hp; done))
  rename_i ht
  exact bZi (by unfold execOp; simp [ho]) (aYv H ht (bF he x) hp)
 ·rename_i x str ho
  split at hp <;> (try (cases hp; done))
  rename_i hs
  subst hs
  exact bZi (by unfold execOp; simp [ho]) (bEu (ty := o.type) H (bF he x) hp)
 ·rename_i c ho
  split at hp <;> (try (cases hp; done))
  ·rename_i b hb
   exact aFi H he ho hb hp
  ·rename_i f hf
   have hfv := bF he f
   unfold dM at hp
   split at hp <;> (try (cases hp; done))
   rename_i g first cap hg
   rw [hg] at hfv
   generalize hfe : a.eval f = fv at hfv
   cases hfv with
   | f _ _ _ x' y' hx hy =>
    have hargs : VRs ρ (first ++ c.args.toList.map (opr env) ++ cap) (x' ++ c.args.map a.eval ++ y').toList := by
     simpa using (hx.append (cBo he c.args.toList)).append hy
    have hex : execOp a.eval o = callFunc g (x' ++ c.args.map a.eval ++ y') := by
     unfold execOp
     simp only [ho, resolve, hf, hfe, Deferred.ofValue, pure_bind, invoke]
    have hcf : CallFn C.P G ρ w v h1 g (x' ++ c.args.map a.eval ++ y') := by
     unfold bJx at hp
     split at hp
     ·rename_i F hF
      exact K.own G g F hF _ _ _ _ hp ρ w _ H hargs
     ·exact K.fns G g _ _ _ _ hp ρ w _ H hargs
    rcases hcf with ⟨c1, c2⟩ | ⟨ρ', w', v', c1, c2, c3, c4, c5⟩
    ·exact .inr ⟨g, _, by rw [hex]; exact c1, c2⟩
    ·exact .inl ⟨ρ', w', v', .inl (by rw [hex]; exact c1), c2, c3, c4, c5⟩
end
end Go.Dd

namespace Go.Dd
open Go.RowKit (Below)
section
variable {C : Cfg} {G : Gd} {rec : FuncId → List DV → Hp → aG} {ρ : Ren} {w : World} {h h1 : Hp} {v : DV} {a : Act} {env : fQ} {ops : Array Oper}
def aQv (P : Program) (G : Gd) (ρ : Ren) (w : World) (v : DV) (h h1 : Hp) (a : Act) (ops : Array Oper) (o : Oper) : Prop :=
 (Region.wanted o (yielded ops a.tmps) = true ∧ OpOk P G ρ w v h1 a o) ∨ (Region.wanted o (yielded ops a.tmps) = false ∧ v = dK ∧ h1 = h)
theorem aJe (K : OkC C rec) (H : HR G ρ h w) (he : EnvR ρ env a) {o : Oper} (hp : cU C rec ops o env h = some (v, h1)) : aQv C.P G ρ w v h h1 a ops o := by
 unfold cU at hp
 split at hp
 ·rename_i hg
  exact .inl ⟨by simp [Region.wanted, hg], aEl K H he hp⟩
 ·rename_i j want hg
  have hw : Region.wanted o (yielded ops a.tmps) = (yielded ops a.tmps j == some want) := by simp [Region.wanted, hg]
  have hy : ∀ d, (ops[j]?).bind (·.dst) = some d → ∀ x, a.tmps.getD d undef = .bool x → yielded ops a.tmps j = some x := by
   intro d hd x hx
   unfold yielded
   rw [hd]
   simp only [Option.bind_some]
   have hx' : a.tmps[d]? = some (.bool x) := by
    cases ht : a.tmps[d]? with
    | none => simp [ht, undef] at hx
    | some y => simp [ht] at hx; rw [hx]
   rw [hx']
  unfold gD aQb at hp
  cases hd : (ops[j]?).bind (·.dst) with
  | none =>
   simp only [hd, dK] at hp
   simp only [bB, bW] at hp
   refine .inr ⟨?_, hp.1.symm, hp.2.symm⟩
   rw [hw]
   unfold yielded
   rw [hd]
   rfl
  | some d =>
   simp only [hd] at hp
   have hv := he d
   split at hp <;> (try (cases hp; done))
   ·rename_i x hx
    rw [hx] at hv
    generalize hvv : a.tmps.getD d undef = vv at hv
    cases hv
    have hyy := hy d hd x hvv
    split at hp
    ·rename_i hxw
     refine .inl ⟨?_, aEl K H he hp⟩
     rw [hw, hyy]
     simpa using hxw
    ·rename_i hxw
     simp only [bB, bW] at hp
     refine .inr ⟨?_, hp.1.symm, hp.2.symm⟩
     rw [hw, hyy]
     simpa using hxw
   ·rename_i hx
    rw [hx] at hv
    simp only [bB, bW] at hp
    refine .inr ⟨?_, hp.1.symm, hp.2.symm⟩
    rw [hw]
    generalize hvv : a.tmps.getD d undef = vv at hv
    cases hv with
    | t _ x' hx' =>
     unfold yielded
     rw [hd]
     simp only [Option.bind_some]
     cases ht : a.tmps[d]? with
     | none => rfl
     | some y => simp [ht] at hvv; subst hvv; rfl
theorem aMk {o' : Oper} (hs : aQv C.P G ρ w v h h1 a ops o') {o : Oper} (ho : o' = o) {i : Nat} (hi : ops[i]? = some o) (H : HR G ρ h w) {Kc : Act → World → Prop} {Q : Exit → Act → World → Prop}
 (hn : ∀ ρ' w' v', Ex G ρ ρ' → VR ρ' v v' → HR G ρ' h1 w' → Kp G w w' → Kc (a.put o.dst v') w') : wpOp C.P ops Q i Kc a w := by
 subst ho
 unfold wpOp
 simp only [hi]
 rcases hs with ⟨hw, hok⟩ | ⟨hw, rfl, rfl⟩
 ·rw [if_pos hw]
  refine .inl ?_
  unfold Oper.wp
  rcases hok with ⟨ρ', w', v', hr | ⟨hr, rfl⟩, h2, h3, h4, h5⟩ | ⟨g, args, hr, hc⟩
  ·rw [hr]; exact hn ρ' w' v' h2 h3 h4 h5
  ·rw [hr]; exact hn ρ' w' _ h2 h3 h4 h5
  ·rw [hr]
   refine hc.mono fun e w'' he => ?_
   obtain ⟨ρ', v', rfl, h2, h3, h4, h5⟩ := he
   exact hn ρ' w'' v' h2 h3 h4 h5
 ·rw [if_neg (by rw [hw]; simp)]
  exact hn ρ w undef (Ex.refl G ρ) (.t [] #[] .nil) H (Kp.refl G w)
theorem tY (a : Act) (d : Option Tmp) (x : Value) : (a.put d x).tmps.size = a.tmps.size := by
 cases d <;> simp [Act.put]
theorem nT (a : Act) (d : Option Tmp) (x : Value) : (a.put d x).defers = a.defers := by
 cases d <;> rfl
theorem EnvR.put {ρ' : Ren} (he : EnvR ρ env a) (hext : Ext ρ ρ') {d : Option Tmp} {v' : Value} (hv : VR ρ' v v') {nt : Nat} (hf : lZ nt d = true) (hnt : nt ≤ a.tmps.size) : EnvR ρ' (kJ env d v) (a.put d v') := by
 intro t
 cases d with
 | none => exact (he t).mono hext
 | some d =>
  simp only [lZ] at hf
  have hlt : d < a.tmps.size := Nat.lt_of_lt_of_le (Nat.le_of_ble_eq_true hf) hnt
  simp only [kJ, Act.put]
  by_cases e : t = d
  ·subst e
   simp [hlt, hv]
  ·have e' : Nat.beq t d = false := by
    cases hb : Nat.beq t d with
    | false => rfl
    | true => exact absurd (Nat.eq_of_beq_eq_true hb) e
   rw [e']
   have h0 := (he t).mono hext
   simpa [Array.getElem?_setIfInBounds_ne (Ne.symm e)] using h0
theorem EnvR.mono {ρ' : Ren} (he : EnvR ρ env a) (hext : Ext ρ ρ') : EnvR ρ' env a := fun t => (he t).mono hext
def aGk (C : Cfg) (rec : FuncId → List DV → Hp → aG) (nt : Nat) (ops : Array Oper) : List Oper → fQ → Hp → fQ → Hp → Prop
 | [], e, h, e', h' => e = e' ∧ h = h'
 | o :: os, e, h, e', h' => lZ nt o.dst = true ∧ ∃ v h1, cU C rec ops o e h = some (v, h1) ∧ aGk C rec nt ops os (kJ e o.dst v) h1 e' h'
theorem kN {r : aG} {k : DV → Hp → aG} {z : DV × Hp} (hb : bnd r k = some z) : ∃ v h, r = some (v, h) ∧ k v h = some z := by
 unfold bnd at hb
 split at hb
 ·rename_i v h; exact ⟨v, h, rfl, hb⟩
 ·cases hb
theorem aCs {nt : Nat} : ∀ (l : List Oper) (k : K) (env : fQ) (h : Hp) (r : DV × Hp), bHh C rec nt ops l k env h = some r → ∃ env' h', aGk C rec nt ops l env h env' h' ∧ k env' h' = some r
 | [], k, env, h, r, hp => ⟨env, h, ⟨rfl, rfl⟩, hp⟩
 | o :: os, k, env, h, r, hp => by
  change cnd (lZ nt o.dst) (bnd (cU C rec ops o env h) fun v h' => bHh C rec nt ops os k (kJ env o.dst v) h') = some r at hp
  cases hf : lZ nt o.dst with
  | false => rw [hf] at hp; cases hp
  | true =>
   rw [hf] at hp
   obtain ⟨v, h1, h2, h3⟩ := kN hp
   obtain ⟨env', h', h4, h5⟩ := aCs os k _ _ r h3
   exact ⟨env', h', ⟨hf, v, h1, h2, h4⟩, h5⟩
theorem aUv (K : OkC C rec) {nt : Nat} {Q : Exit → Act → World → Prop} {env' : fQ} {h' : Hp} : ∀ (l : List Oper) (i : Nat) (ρ : Ren) (env : fQ) (h : Hp) (a : Act) (w : World),
 (∀ j : Nat, l[j]? = ops[i + j]?) → aGk C rec nt ops l env h env' h' → HR G ρ h w → EnvR ρ env a → nt ≤ a.tmps.size → a.defers = [] →
 (∀ ρ' a' w', Ex G ρ ρ' → HR G ρ' h' w' → EnvR ρ' env' a' → Kp G w w' → nt ≤ a'.tmps.size → a'.defers = [] → Q .normal a' w') → wpOps C.P ops Q (List.range' i l.length) a w
 | [], i, ρ, env, h, a, w, _, hr, H, he, hnt, hd, hQ => by
  obtain ⟨rfl, rfl⟩ := hr
  exact hQ ρ a w (Ex.refl G ρ) H he (Kp.refl G w) hnt hd
 | o :: os, i, ρ, env, h, a, w, hl, hr, H, he, hnt, hd, hQ => by
  obtain ⟨hf, v, h1, hs, hr'⟩ := hr
  have hi : ops[i]? = some o := by simpa using (hl 0).symm
  simp only [List.length_cons, List.range'_succ]
  rw [wpOps_cons]
  refine aMk (aJe K H he hs) rfl hi H fun ρ' w' v' h2 h3 h4 h5 => ?_
  refine aUv K os (i + 1) ρ' _ h1 _ w' (fun j => ?_) hr' h4 (he.put h2.ext h3 hf hnt) (by rw [tY]; exact hnt) (by rw [nT]; exact hd) fun ρ2 a2 w2 e1 e2 e3 e4 e5 e6 => ?_
  ·have := hl (j + 1)
   simpa [Nat.add_assoc, Nat.add_comm 1 j] using this
  ·exact hQ ρ2 a2 w2 (h2.trans e1) e2 e3 (h5.trans e4) e5 e6
end
end Go.Dd

namespace Go.Dd
open Go.RowKit (Below)
def PureP (F : Hp → aG) : Prop := ∀ h v h1, F h = some (v, h1) → h1 = h ∧ ∀ h', F h' = some (v, h')
theorem PureP.none : PureP (fun _ => Option.none) := fun _ _ _ h => by cases h
theorem bZp (v : DV) : PureP (fun h => some (v, h)) := fun h u h1 hp => by
 simp only [bB, bW] at hp
 obtain ⟨rfl, rfl⟩ := hp
 exact ⟨rfl, fun _ => rfl⟩
theorem cCh {c : Prop} [Decidable c] {F G : Hp → aG} (hF : PureP F) (hG : PureP G) : PureP (fun h => if c then F h else G h) := by
 by_cases hc : c
 ·simpa [hc] using hF
 ·simpa [hc] using hG
theorem aUw (x : DV) : PureP (bM x) := by cases x <;> first | exact PureP.none | exact bZp _
theorem aWs (op : BinOp) (x y : DV) : PureP (aQ op x y) := by
 intro h v h1 hp
 unfold aQ at *
 split at hp <;> (try (cases hp; done))
 split at hp <;> (try (cases hp; done))
 split at hp <;> (try (cases hp; done))
 rename_i hk _ r hr
 simp only [bB, bW] at hp
 obtain ⟨rfl, rfl⟩ := hp
 exact ⟨rfl, fun h' => by simp [hk, hr]⟩
theorem aSo (op : BinOp) (x y : DV) : PureP (gU op x y) := by
 intro h v h1 hp
 unfold gU at *
 split at hp <;> (try (cases hp; done))
 split at hp <;> (try (cases hp; done))
 rename_i r hr
 simp only [bB, bW] at hp
 obtain ⟨rfl, rfl⟩ := hp
 exact ⟨rfl, fun h' => by simp [hr]⟩
theorem aGx (op : BinOp) (x y : DV) : PureP (qP op x y) := by
 intro h v h1 hp
 unfold qP at *
 split at hp <;> (try (cases hp; done))
 split at hp <;> (try (cases hp; done))
 rename_i hb
 split at hp <;> (try (cases hp; done)) <;> (simp only [bB, bW] at hp; obtain ⟨rfl, rfl⟩ := hp; exact ⟨rfl, fun h' => by simp [hb]⟩)
theorem aZs (d : TypeDesc) (pos : Bool) (x y : DV) : PureP (pEq d pos x y) := by
 intro h v h1 hp
 unfold pEq at *
 split at hp <;> (try (cases hp; done))
 rename_i r hr
 simp only [bB, bW] at hp
 obtain ⟨rfl, rfl⟩ := hp
 exact ⟨rfl, fun h' => by simp [hr]⟩
theorem aTh (op : BinOp) (d : TypeDesc) (x y : DV) : PureP (aVs op d x y) := by
 intro h v h1 hp
 cases d <;> cases op <;> simp only [aVs] at hp ⊢ <;> first | exact aGx _ _ _ h v h1 hp | exact aWs _ _ _ h v h1 hp | exact aSo _ _ _ h v h1 hp | exact aZs _ _ _ _ h v h1 hp | (cases hp; done)
theorem aZp (op : UnOp) (x : DV) : PureP (pJ op x) := by cases op <;> cases x <;> first | exact bZp _ | exact PureP.none
theorem tW (k : IntKind) (x : DV) : PureP (qC k x) := by cases x <;> first | exact bZp _ | exact PureP.none
theorem sQ (x : DV) : PureP (xQ x) := by cases x <;> first | exact bZp _ | exact PureP.none
theorem rJ (x : DV) (lo hi : Option DV) : PureP (eH x lo hi) := by
 intro h v h1 hp
 unfold eH at *
 split at hp <;> (try (cases hp; done))
 split at hp <;> (try (cases hp; done))
 rename_i e he
 split at hp <;> (try (cases hp; done))
 rename_i s hs
 simp only [bB, bW] at hp
 obtain ⟨rfl, rfl⟩ := hp
 exact ⟨rfl, fun h' => by simp [he, hs]⟩
theorem aGo (off : Nat) (x : DV) : PureP (aA off x) := by cases x <;> first | exact bZp _ | exact PureP.none
theorem aHe (off : Nat) (x : DV) : PureP (eM off x) := by
 intro h v h1 hp
 unfold eM at *
 split at hp <;> (try (cases hp; done))
 split at hp <;> (try (cases hp; done))
 rename_i r hr
 simp only [bB, bW] at hp
 obtain ⟨rfl, rfl⟩ := hp
 exact ⟨rfl, fun h' => by simp [hr]⟩
theorem aGe (off size : Nat) (x : DV) : PureP (aAw off size x) := by cases x <;> first | exact bZp _ | exact PureP.none
theorem sX (size : Nat) (x ix : DV) : PureP (aT size x ix) := by
 intro h v h1 hp
 unfold aT at *
 split at hp <;> (try (cases hp; done))
 split at hp <;> (try (cases hp; done))
 rename_i hr
 simp only [bB, bW] at hp
 obtain ⟨rfl, rfl⟩ := hp
 exact ⟨rfl, fun h' => by simp [hr]⟩
theorem vP (n size : Nat) (x ix : DV) : PureP (kS n size x ix) := by
 intro h v h1 hp
 unfold kS at *
 split at hp <;> (try (cases hp; done))
 split at hp <;> (try (cases hp; done))
 rename_i hr
 simp only [bB, bW] at hp
 obtain ⟨rfl, rfl⟩ := hp
 exact ⟨rfl, fun h' => by simp [hr]⟩
theorem aDt (x ix : DV) : PureP (eP x ix) := by
 intro h v h1 hp
 unfold eP at *
 split at hp <;> (try (cases hp; done))
 split at hp <;> (try (cases hp; done))
 rename_i h0
 split at hp <;> (try (cases hp; done))
 rename_i c hc
 simp only [bB, bW] at hp
 obtain ⟨rfl, rfl⟩ := hp
 exact ⟨rfl, fun h' => by simp [h0, hc]⟩
theorem aBn (i : Nat) (x : DV) : PureP (aH i x) := by
 intro h v h1 hp
 unfold aH at *
 split at hp <;> (try (cases hp; done))
 split at hp <;> (try (cases hp; done))
 rename_i r hr
 simp only [bB, bW] at hp
 obtain ⟨rfl, rfl⟩ := hp
 exact ⟨rfl, fun h' => by simp [hr]⟩
theorem aNk (c x y : DV) : PureP (cA c x y) := by
 cases c with
 | b z => cases z <;> exact bZp _
 | _ => exact PureP.none
theorem aNr (x : DV) : PureP (iE x) := by cases x <;> first | exact bZp _ | exact PureP.none
theorem aXo (x : DV) : PureP (fS x) := by cases x <;> first | exact bZp _ | exact PureP.none
theorem aVw (x y : DV) : PureP (aNp x y) := by cases x <;> cases y <;> first | exact bZp _ | exact PureP.none
theorem aSq (x y : DV) : PureP (bLc x y) := by cases x <;> cases y <;> first | exact bZp _ | exact PureP.none
theorem aFb (z : List DV) (ps : List (Nat × Nat × DV)) : PureP (cS z ps) := by
 intro h v h1 hp
 unfold cS at *
 split at hp <;> (try (cases hp; done))
 rename_i r hr
 simp only [bB, bW] at hp
 obtain ⟨rfl, rfl⟩ := hp
 exact ⟨rfl, fun h' => by simp [hr]⟩
section
variable {C : Cfg} {rec : FuncId → List DV → Hp → aG}
theorem tF {o : Oper} {env : fQ} (hc : bP C.P o.op = .pure) : PureP (kM C rec o env) := by
 obtain ⟨dst, op, ty, pos, after, guard⟩ := o
 simp only at hc
 unfold kM
 cases op <;> simp only [bP] at hc <;> (try (cases hc; done)) <;> simp only
 case move x => exact bZp _
 case assign x => exact bZp _
 case pick c a b => exact aNk _ _ _
 case build t ps =>
  split
  ·split
   ·split
    ·exact aFb _ _
    ·exact PureP.none
   ·exact PureP.none
  ·exact PureP.none
 case nilCheck x => exact aUw _
 case binOp op t x y yt =>
  split
  ·exact aTh _ _ _ _
  ·exact PureP.none
 case unOp op t x => exact aZp _ _
 case convert src dst x =>
  split
  ·exact tW _ _
  ·exact sQ _
  ·rename_i hs _
   rw [hs] at hc
   cases hc
  ·exact PureP.none
 case makeFunc fn first cap =>
  split
  ·exact bZp _
  ·exact PureP.none
 case slice t x lo hi mx =>
  split at hc <;> (try (cases hc; done)) <;> (try (cases mx <;> cases hc; done))
  rename_i ht
  rw [ht]
  cases mx with
  | none => exact rJ _ _ _
  | some m => exact PureP.none
 case fieldAddr t x f =>
  split
  ·split
   ·split
    ·exact cCh PureP.none (aGo _ _)
    ·exact PureP.none
   ·exact PureP.none
  ·exact PureP.none
 case field t x f =>
  split
  ·split
   ·split
    ·rename_i d i _ _; cases kP d <;> first | exact aGe _ _ _ | exact aHe _ _
    ·exact PureP.none
   ·exact PureP.none
  ·exact PureP.none
 case indexAddr t x ix =>
  split
  ·split
   ·exact sX _ _ _
   ·exact PureP.none
  ·split
   ·exact vP _ _ _ _
   ·exact PureP.none
  ·exact PureP.none
 case index t x ix =>
  split
  ·exact aDt _ _
  ·exact PureP.none
 case extract x i => exact aBn _ _
 case call c =>
  obtain ⟨callee, args, ats⟩ := c
  cases callee with
  | value f => cases hc
  | invoke r m => cases hc
  | builtin b =>
   cases b <;> (try (cases hc; done)) <;> simp only [oS]
   case len =>
    split
    ·split
     ·exact aNr _
     ·exact aXo _
     ·exact PureP.none
    ·exact PureP.none
   case max =>
    unfold aFa
    split
    ·exact aSq _ _
    ·exact PureP.none
   case min =>
    unfold aGf
    split
    ·exact aVw _ _
    ·exact PureP.none
theorem aFv {size : Nat} {x : DV} {lo hi : Option DV} {h h1 : Hp} {v : DV} (hp : dB size x lo hi h = some (v, h1)) : h1 = h := by
 unfold dB at hp
 repeat' (split at hp <;> (try (cases hp; done)))
 all_goals (simp only [bB, bW] at hp; exact hp.2.symm)
theorem rF {o : Oper} {env : fQ} (hc : bP C.P o.op = .reads) {h h1 : Hp} {v : DV} (hp : kM C rec o env h = some (v, h1)) : h1 = h := by
 obtain ⟨dst, op, ty, pos, after, guard⟩ := o
 simp only at hc
 unfold kM at hp
 cases op <;> simp only [bP] at hc <;> (try (cases hc; done))
 case slice t x lo hi mx =>
  split at hc
  ·cases hc
  ·cases mx with
   | some m => cases hc
   | none =>
    simp only at hp
    split at hp <;> (try (cases hp; done))
    ·exact (rJ _ _ _ _ _ _ hp).1
    ·split at hp <;> (try (cases hp; done))
     exact aFv hp
    ·rename_i hm
     cases hm
 case convert src dst x =>
  simp only at hp
  split at hp <;> (try (cases hp; done))
  ·exact (tW _ _ _ _ _ hp).1
  ·exact (sQ _ _ _ _ hp).1
  ·split at hp <;> (try (cases hp; done))
   unfold yO at hp
   split at hp <;> (try (cases hp; done))
   ·simp only [bB, bW] at hp
    exact hp.2.symm
   ·split at hp <;> (try (cases hp; done))
    split at hp <;> (try (cases hp; done))
    simp only [bB, bW] at hp
    exact hp.2.symm
 case load t x =>
  simp only at hp
  split at hp <;> (try (cases hp; done))
  rename_i d i _ _
  cases hd : kP d with
  | true =>
   rw [hd] at hp
   simp only [cond_true] at hp
   unfold aD at hp
   split at hp <;> (try (cases hp; done))
   split at hp <;> (try (cases hp; done))
   simp only [bB, bW] at hp
   exact hp.2.symm
  | false =>
   rw [hd] at hp
   simp only [cond_false] at hp
   unfold aB at hp
   split at hp <;> (try (cases hp; done))
   split at hp <;> (try (cases hp; done))
   simp only [bB, bW] at hp
   exact hp.2.symm
 case call c =>
  obtain ⟨callee, args, ats⟩ := c
  cases callee with
  | value f => cases hc
  | invoke r m => cases hc
  | builtin b => cases b <;> cases hc
theorem qI {ops : Array Oper} {o : Oper} {env : fQ} (hc : bP C.P o.op = .pure) : PureP (cU C rec ops o env) := by
 unfold cU
 split
 ·exact tF hc
 ·intro h v h1 hp
  unfold gD at *
  split at hp <;> (try (cases hp; done))
  ·split at hp
   ·rename_i x hx hw
    obtain ⟨h2, h3⟩ := tF (rec := rec) (env := env) hc h v h1 hp
    exact ⟨h2, fun h' => by simp only [hx]; rw [if_pos hw]; exact h3 h'⟩
   ·rename_i x hx hw
    simp only [bB, bW] at hp
    obtain ⟨rfl, rfl⟩ := hp
    exact ⟨rfl, fun h' => by simp only [hx]; rw [if_neg hw]⟩
  ·rename_i hx
   simp only [bB, bW] at hp
   obtain ⟨rfl, rfl⟩ := hp
   exact ⟨rfl, fun h' => by simp only [hx]⟩
theorem nX {ops : Array Oper} {o : Oper} {env : fQ} (hc : bP C.P o.op = .reads) {h h1 : Hp} {v : DV} (hp : cU C rec ops o env h = some (v, h1)) : h1 = h := by
 unfold cU at hp
 split at hp
 ·exact rF hc hp
 ·unfold gD at hp
  split at hp <;> (try (cases hp; done))
  ·split at hp
   ·exact rF hc hp
   ·simp only [bB, bW] at hp
    exact hp.2.symm
  ·simp only [bB, bW] at hp
   exact hp.2.symm
theorem xE {env env' : fQ} {x : Operand} (h : ∀ t, x = .tmp t → env t = env' t) : opr env x = opr env' x := by
 cases x with
 | tmp t => exact h t rfl
 | _ => rfl
theorem aDn {o : Oper} {env env' : fQ} {h : Hp} (hs : ∀ x ∈ o.op.operands, opr env x = opr env' x) : kM C rec o env h = kM C rec o env' h := by
 obtain ⟨dst, op, ty, pos, after, guard⟩ := o
 simp only at hs
 have pairs : ∀ (ps : Array (Nat × Operand)), (∀ x ∈ ps.toList.map (·.2), opr env x = opr env' x) → ∀ q ∈ ps.toList, opr env q.2 = opr env' q.2 := fun ps hp q hq => hp _ (List.mem_map_of_mem hq)
 have lst : ∀ (l : Array Operand), (∀ x ∈ l, opr env x = opr env' x) → l.toList.map (opr env) = l.toList.map (opr env') := fun l hl => List.map_congr_left fun x hx => hl x (by simpa using hx)
 unfold kM
 cases op <;> simp only [Op.operands] at hs <;> simp only
 case move x => rw [hs x (by simp)]
 case assign x => rw [hs x (by simp)]
 case pick c x y => rw [hs c (by simp), hs x (by simp), hs y (by simp)]
 case box t x => rw [hs x (by simp)]
 case build t ps =>
  have hp := pairs ps (by simpa using hs)
  have e : ∀ pl : List (Nat × Nat), ps.toList.mapM (fun (q : Nat × Operand) => (pl[q.1]?).map fun s => (s.1, s.2, opr env q.2)) = ps.toList.mapM (fun (q : Nat × Operand) => (pl[q.1]?).map fun s => (s.1, s.2, opr env' q.2)) := by
   intro pl
   generalize ps.toList = l at hp
   induction l with
   | nil => rfl
   | cons q l ih =>
    simp only [List.mapM_cons]
    rw [ih (fun x hx => hp x (by simp [hx])), hp q (by simp)]
  simp only [e]
 case buildSlice t n ps =>
  have hp := pairs ps (by simpa using hs)
  have e : ∀ sz : Nat, (ps.toList.map fun (q : Nat × Operand) => (q.1 * sz, sz, opr env q.2)) = (ps.toList.map fun (q : Nat × Operand) => (q.1 * sz, sz, opr env' q.2)) := fun sz => List.map_congr_left fun q hq => by rw [hp q hq]
  simp only [e]
 case load t x => rw [hs x (by simp)]
 case store t x y => rw [hs x (by simp), hs y (by simp)]
 case nilCheck x => rw [hs x (by simp)]
 case binOp op t x y yt => rw [hs x (by simp), hs y (by simp)]
 case unOp op t x => rw [hs x (by simp)]
 case convert src dst x => rw [hs x (by simp)]
 case makeFunc fn first cap => rw [lst first (fun x hx => hs x (by simp [hx])), lst cap (fun x hx => hs x (by simp [hx]))]
 case slice t x lo hi mx =>
  have e0 := hs x (by simp)
  have e1 : lo.map (opr env) = lo.map (opr env') := by cases lo <;> simp_all
  have e2 : hi.map (opr env) = hi.map (opr env') := by cases hi <;> simp_all
  rw [e0, e1, e2]
  cases mx with
  | none =>
   cases hu : C.P.underlying t with
   | none => rfl
   | some d => cases d <;> rfl
  | some m =>
   have e3 := hs m (by simp)
   cases hu : C.P.underlying t with
   | none => rfl
   | some d =>
    cases d <;> (try rfl)
    rename_i el
    simp only
    cases hie : C.P.info? el with
    | none => cases hi <;> rfl
    | some ie =>
     cases hi with
     | none => rfl
     | some hv => simp only; rw [e3, hs hv (by simp)]
 case fieldAddr t x f => rw [hs x (by simp)]
 case field t x f => rw [hs x (by simp)]
 case indexAddr t x ix => rw [hs x (by simp), hs ix (by simp)]
 case index t x ix => rw [hs x (by simp), hs ix (by simp)]
 case extract x i => rw [hs x (by simp)]
 case range t x => rw [hs x (by simp)]
 case next x str => rw [hs x (by simp)]
 case call c =>
  obtain ⟨callee, args, ats⟩ := c
  simp only [Call.operands] at hs
  rw [lst args (fun x hx => hs x (by simp [hx]))]
  cases callee with
  | value f => simp only; rw [hs f (by simp)]
  | invoke r m => rfl
  | builtin b => rfl
theorem vV {o : Oper} {b : Pos} {env env' : fQ} {h : Hp} (hs : ∀ x ∈ o.op.operands, opr env x = opr env' x) : iN C o b env h = iN C o b env' h := by
 obtain ⟨dst, op, ty, pos, after, guard⟩ := o
 simp only at hs
 unfold iN
 cases op <;> simp only [Op.operands] at hs <;> simp only
 case box t x => rw [hs x (by simp)]
 case buildSlice t n ps =>
  have hp : ∀ q ∈ ps.toList, opr env q.2 = opr env' q.2 := fun q hq => hs _ (by simpa using ⟨q.1, by simpa using hq⟩)
  have e : ∀ sz : Nat, (ps.toList.map fun (q : Nat × Operand) => (q.1 * sz, sz, opr env q.2)) = (ps.toList.map fun (q : Nat × Operand) => (q.1 * sz, sz, opr env' q.2)) := fun sz => List.map_congr_left fun q hq => by rw [hp q hq]
  simp only [e]
theorem aEr {ops : Array Oper} {o : Oper} {env env' : fQ} {h : Hp} (hs : ∀ t ∈ o.looksAt ops, env t = env' t) : cU C rec ops o env h = cU C rec ops o env' h := by
 have hop : kM C rec o env h = kM C rec o env' h := aDn fun x hx => xE fun t ht => hs t (by
  unfold Oper.looksAt
  refine List.mem_append_left _ (List.mem_filterMap.2 ⟨x, by simpa using hx, ?_⟩)
  rw [ht])
 unfold cU
 cases hg : o.guard with
 | none => exact hop
 | some g =>
  obtain ⟨j, want⟩ := g
  simp only
  rw [hop]
  congr 1
  unfold aQb
  cases hd : (ops[j]?).bind (·.dst) with
  | none => rfl
  | some d => exact hs d (by unfold Oper.looksAt; simp [hg, hd])
end
theorem aWw (acc : Array Nat) : ∀ (es : List Edge) (s j : Nat), (es.foldl (fun s e => if Region.binds .any e then s ||| 2 ^ e.on ||| acc.getD e.on 0 else s) s).testBit j = true →
 s.testBit j = true ∨ ∃ e ∈ es, Region.binds .any e = true ∧ (e.on = j ∨ (acc.getD e.on 0).testBit j = true)
 | [], s, j, h => .inl h
 | e :: es, s, j, h => by
  simp only [List.foldl_cons] at h
  rcases aWw acc es _ j h with h1 | ⟨e', he', h2⟩
  ·split at h1
   ·rename_i hb
    simp only [Nat.testBit_or, Bool.or_eq_true] at h1
    rcases h1 with (h1 | h1) | h1
    ·exact .inl h1
    ·exact .inr ⟨e, by simp, hb, .inl (by simpa [Nat.testBit_two_pow] using h1)⟩
    ·exact .inr ⟨e, by simp, hb, .inr h1⟩
   ·exact .inl h1
  ·exact .inr ⟨e', by simp [he'], h2⟩
def jJ (acc : Array Nat) (o : Oper) : Array Nat := acc.push (o.after.foldl (fun s e => if Region.binds .any e then s ||| 2 ^ e.on ||| acc.getD e.on 0 else s) 0)
theorem oB : ∀ (l : List Oper) (acc : Array Nat) (i : Nat), i < acc.size → (l.foldl jJ acc).getD i 0 = acc.getD i 0
 | [], acc, i, h => rfl
 | o :: l, acc, i, h => by
  simp only [List.foldl_cons]
  rw [oB l _ i (by simp [jJ]; omega)]
  simp [jJ, Array.getElem?_push, Nat.ne_of_lt h]
theorem sJ : ∀ (l : List Oper) (acc : Array Nat) (i j : Nat) (o : Oper), l[i]? = some o → ((l.foldl jJ acc).getD (acc.size + i) 0).testBit j = true →
 ∃ e ∈ o.after, Region.binds .any e = true ∧ (e.on = j ∨ ((l.foldl jJ acc).getD e.on 0).testBit j = true)
 | [], acc, i, j, o, h, _ => by simp at h
 | o' :: l, acc, 0, j, o, h, hb => by
  simp at h; subst h
  simp only [List.foldl_cons, Nat.add_zero] at hb ⊢
  rw [oB l _ acc.size (by simp [jJ])] at hb
  have hv : (jJ acc o').getD acc.size 0 = o'.after.foldl (fun s e => if Region.binds .any e then s ||| 2 ^ e.on ||| acc.getD e.on 0 else s) 0 := by simp [jJ]
  rw [hv, ← Array.foldl_toList] at hb
  rcases aWw acc _ 0 j hb with h1 | ⟨e, he, h2, h3⟩
  ·simp at h1
  ·refine ⟨e, by simpa using he, h2, h3.imp id fun h4 => ?_⟩
   have hlt : e.on < acc.size := by
    rcases Nat.lt_or_ge e.on acc.size with h | h
    ·exact h
    ·simp [Array.getElem?_eq_none h] at h4
   rw [oB l _ e.on (by simp [jJ]; omega)]
   have : (jJ acc o').getD e.on 0 = acc.getD e.on 0 := by simp [jJ, Array.getElem?_push, Nat.ne_of_lt hlt]
   rw [this]
   exact h4
 | o' :: l, acc, i + 1, j, o, h, hb => by
  simp at h
  simp only [List.foldl_cons] at hb ⊢
  have := sJ l (jJ acc o') i j o h (by
   have e : (jJ acc o').size + i = acc.size + (i + 1) := by simp [jJ]; omega
   rw [e]
   exact hb)
  exact this
theorem aDx {ops : Array Oper} {i j : Nat} {o : Oper} (ho : ops[i]? = some o) (h : jU (Region.before ops) j i = true) :
 ∃ e ∈ o.after, Region.binds .any e = true ∧ (e.on = j ∨ jU (Region.before ops) j e.on = true) := by
 have hb : Region.before ops = ops.toList.foldl jJ #[] := by
  unfold Region.before
  rw [← Array.foldl_toList]
  rfl
 unfold jU at *
 rw [hb] at h ⊢
 have := sJ ops.toList #[] i j o (by simpa using ho) (by simpa using h)
 exact this
end Go.Dd

namespace Go.Dd
open Go.RowKit (Below)
section
variable {C : Cfg} {G : Gd} {rec : FuncId → List DV → Hp → aG} {ops : Array Oper} {m : Array Nat} {nt : Nat} {k : K}
def jN (C : Cfg) (ops : Array Oper) (j : Nat) : Bool :=
 match ops[j]? with
 | some o => decide (bP C.P o.op = .acts)
 | none => false
theorem aNj {j : Nat} {o : Oper} (ho : ops[j]? = some o) : jN C ops j = true ↔ bP C.P o.op = .acts := by
 unfold jN; rw [ho]; simp
def iP (C : Cfg) (ops : Array Oper) (Hh : Nat → Hp) (lo : Nat) : Nat → List (Option Nat × Hp)
 | 0 => []
 | d + 1 => (if jN C ops (lo + d) then [(some (lo + d), Hh (lo + d + 1))] else []) ++ iP C ops Hh lo d
theorem qS {Hh Hh' : Nat → Hp} {lo : Nat} : ∀ d, (∀ p, lo < p → p ≤ lo + d → Hh p = Hh' p) → iP C ops Hh lo d = iP C ops Hh' lo d
 | 0, _ => rfl
 | d + 1, h => by
  simp only [iP]
  rw [qS d (fun p h1 h2 => h p h1 (by omega)), h (lo + d + 1) (by omega) (by omega)]
theorem rC {Hh : Nat → Hp} {lo : Nat} : ∀ d, iP C ops Hh lo (d + 1) = iP C ops Hh (lo + 1) d ++ (if jN C ops lo then [(some lo, Hh (lo + 1))] else [])
 | 0 => by simp [iP]
 | d + 1 => by
  have ih := rC (Hh := Hh) (lo := lo) d
  rw [iP, ih]
  simp only [iP, List.append_assoc]
  rw [show lo + 1 + d = lo + (d + 1) from by omega]
def pR (m : Array Nat) (p : Nat) (Pv : Hp → Prop) : List (Option Nat × Hp) → Prop
 | [] => True
 | (j, hj) :: rest => Pv hj ∧ (match j with
  | none => True
  | some j => jU m j p = true ∨ pR m p Pv rest)
theorem nL {m : Array Nat} {i : Nat} {v : DV} {look : Hp → aG} {Pv : Hp → Prop} (hP : ∀ h, bX (look h) v = true → Pv h) : ∀ (hs : List (Option Nat × Hp)), lF m i v look true hs = true → pR m i Pv hs
 | [], _ => trivial
 | (j, hj) :: rest, hc => by
  simp only [lF, cond_true, Bool.and_eq_true] at hc
  refine ⟨hP hj hc.1, ?_⟩
  cases j with
  | none => trivial
  | some j =>
   simp only at hc ⊢
   cases ho : jU m j i with
   | true => exact .inl rfl
   | false =>
    rw [ho] at hc
    exact .inr (nL hP rest hc.2)
structure StepT (C : Cfg) (rec : FuncId → List DV → Hp → aG) (ops : Array Oper) (m : Array Nat) (nt : Nat) (b : Pos) (E : Nat → fQ) (Hh : Nat → Hp) (V : Nat → DV) (lo : Nat) (hs : List (Option Nat × Hp)) (p : Nat) (o : Oper) : Prop where
 fits : lZ nt o.dst = true
 step : bP C.P o.op ≠ .makes → cU C rec ops o (E p) (Hh p) = some (V p, Hh (p + 1))
 made : bP C.P o.op = .makes → iN C o b (E p) (Hh p) = some (V p, Hh (p + 1))
 env : E (p + 1) = kJ (E p) o.dst (V p)
 reads : bP C.P o.op = .reads → pR m p (fun h => cU C rec ops o (E p) h = some (V p, h)) (iP C ops Hh lo (p - lo) ++ hs)
 acts : bP C.P o.op = .acts → ∀ j oj, lo ≤ j → j < p → ops[j]? = some oj → bP C.P oj.op = .reads → jU m j p = true ∨ bX (cU C rec ops oj (E j) (Hh (p + 1))) (V j) = true
theorem rE {o : Oper} {env : fQ} {h : Hp} {v : DV} (hc : bP C.P o.op = .reads) (hs : bX (cU C rec ops o env h) v = true) : cU C rec ops o env h = some (v, h) := by
 cases hr : cU C rec ops o env h with
 | none => rw [hr] at hs; cases hs
 | some r =>
  obtain ⟨x, h1⟩ := r
  rw [hr] at hs
  have := cBe _ _ hs
  have h2 := nX hc hr
  rw [this, h2]
theorem qT {p0 : Pos} : ∀ (l : List Oper) (i c : Nat) (dirty : Bool) (rd : List Seen) (hs : List (Option Nat × Hp)) (env : fQ) (h : Hp) (r : DV × Hp),
 tS C rec nt ops m p0 l k i c dirty rd hs env h = some r → (∀ j : Nat, l[j]? = ops[i + j]?) → (dirty = false → ∃ j rest, hs = (j, h) :: rest) →
 ∃ (E : Nat → fQ) (Hh : Nat → Hp) (V : Nat → DV), E i = env ∧ Hh i = h ∧ k (E (i + l.length)) (Hh (i + l.length)) = some r ∧
  ∀ p o, i ≤ p → p < i + l.length → ops[p]? = some o → StepT C rec ops m nt (dA (c + cE C.P (l.take (p - i))) p0) E Hh V i hs p o ∧
   (bP C.P o.op = .acts → ∀ q ∈ rd, jU m q.at_ p = true ∨ bX (q.look (Hh (p + 1))) q.v = true)
 | [], i, c, dirty, rd, hs, env, h, r, hp, hl, _ => ⟨fun _ => env, fun _ => h, fun _ => .u, rfl, rfl, hp, fun p o h1 h2 => by simp at h2; omega⟩
 | o :: os, i, c, dirty, rd, hs, env, h, r, hp, hl, hdirty => by
  have hi : ops[i]? = some o := by simpa using (hl 0).symm
  have hl' : ∀ j : Nat, os[j]? = ops[i + 1 + j]? := fun j => by
   have := hl (j + 1)
   simpa [Nat.add_assoc, Nat.add_comm 1 j] using this
  have hstep : ∃ v h1 c' dirty' rd' hs', lZ nt o.dst = true ∧ (bP C.P o.op ≠ .makes → cU C rec ops o env h = some (v, h1)) ∧ (bP C.P o.op = .makes → iN C o (dA c p0) env h = some (v, h1)) ∧
   tS C rec nt ops m p0 os k (i + 1) c' dirty' rd' hs' (kJ env o.dst v) h1 = some r ∧ (dirty' = false → ∃ j rest, hs' = (j, h1) :: rest) ∧
   (∀ q ∈ rd, q ∈ rd') ∧ hs' = (if jN C ops i then [(some i, h1)] else []) ++ hs ∧ c' = c + cE C.P [o] ∧
   (bP C.P o.op = .reads → pR m i (fun h => cU C rec ops o env h = some (v, h)) hs ∧ ⟨i, cU C rec ops o env, v⟩ ∈ rd') ∧
   (bP C.P o.op = .acts → (∀ q ∈ rd, jU m q.at_ i = true ∨ bX (q.look h1) q.v = true)) := by
   change cnd (lZ nt o.dst) (
    match bP C.P o.op with
    | .pure => bnd (cU C rec ops o env h) fun v h' => tS C rec nt ops m p0 os k (i + 1) c dirty rd hs (kJ env o.dst v) h'
    | .reads => bnd (cU C rec ops o env h) fun v h' =>
     cnd (lF m i v (cU C rec ops o env) dirty hs) (tS C rec nt ops m p0 os k (i + 1) c dirty (⟨i, cU C rec ops o env, v⟩ :: rd) hs (kJ env o.dst v) h')
    | .makes => bnd (iN C o (dA c p0) env h) fun v h' => tS C rec nt ops m p0 os k (i + 1) (c + 1) true rd hs (kJ env o.dst v) h'
    | .acts => bnd (cU C rec ops o env h) fun v h' =>
     cnd (rd.all (fun q => jU m q.at_ i || bX (q.look h') q.v)) (tS C rec nt ops m p0 os k (i + 1) c false rd ((some i, h') :: hs) (kJ env o.dst v) h')) = some r at hp
   cases hf : lZ nt o.dst with
   | false => rw [hf] at hp; cases hp
   | true =>
    rw [hf] at hp
    dsimp only [cnd] at hp
    cases hc : bP C.P o.op with
    | pure =>
     have ha : jN C ops i = false := by unfold jN; rw [hi]; simp [hc]
     rw [hc] at hp
     obtain ⟨v, h1, h2, h3⟩ := kN hp
     have hh := (qI hc _ _ _ h2).1
     refine ⟨v, h1, c, dirty, rd, hs, rfl, fun _ => h2, (fun h => by cases h), h3, (by rw [hh]; exact hdirty), fun q hq => hq, by simp [ha], by simp [cE, hc], (fun h => by cases h), (fun h => by cases h)⟩
    | reads =>
     have ha : jN C ops i = false := by unfold jN; rw [hi]; simp [hc]
     rw [hc] at hp
     obtain ⟨v, h1, h2, h3⟩ := kN hp
     have hh := nX hc h2
     cases hall : lF m i v (cU C rec ops o env) dirty hs with
     | false => rw [hall] at h3; cases h3
     | true =>
      rw [hall] at h3
      refine ⟨v, h1, c, dirty, _, hs, rfl, fun _ => h2, (fun h => by cases h), h3, (by rw [hh]; exact hdirty), (fun q hq => by simp [hq]), by simp [ha], by simp [cE, hc], fun _ => ⟨?_, by simp⟩, (fun h => by cases h)⟩
      have hP : ∀ h, bX (cU C rec ops o env h) v = true → cU C rec ops o env h = some (v, h) := fun h hs => rE hc hs
      cases hd : dirty with
      | true => rw [hd] at hall; exact nL hP hs hall
      | false =>
       obtain ⟨j, rest, hcons⟩ := hdirty hd
       subst hcons
       rw [hd] at hall
       simp only [lF, cond_false, Bool.true_and] at hall
       refine ⟨by rw [hh] at h2; exact h2, ?_⟩
       cases j with
       | none => trivial
       | some j =>
        simp only at hall ⊢
        cases ho : jU m j i with
        | true => exact .inl rfl
        | false => rw [ho] at hall; exact .inr (nL hP rest hall)
    | makes =>
     have ha : jN C ops i = false := by unfold jN; rw [hi]; simp [hc]
     rw [hc] at hp
     obtain ⟨v, h1, h2, h3⟩ := kN hp
     exact ⟨v, h1, c + 1, true, rd, hs, rfl, (fun h => absurd rfl h), fun _ => h2, h3, (fun h => by cases h), fun q hq => hq, by simp [ha], by simp [cE, hc], (fun h => by cases h), (fun h => by cases h)⟩
    | acts =>
     have ha : jN C ops i = true := by unfold jN; rw [hi]; simp [hc]
     rw [hc] at hp
     obtain ⟨v, h1, h2, h3⟩ := kN hp
     cases hall : rd.all (fun q => jU m q.at_ i || bX (q.look h1) q.v) with
     | false => rw [hall] at h3; cases h3
     | true =>
      rw [hall] at h3
      refine ⟨v, h1, c, false, rd, _, rfl, fun _ => h2, (fun h => by cases h), h3, fun _ => ⟨_, _, rfl⟩, fun q hq => hq, by simp [ha], by simp [cE, hc], (fun h => by cases h), fun _ q hq => ?_⟩
      have := List.all_eq_true.1 hall q hq
      simpa using this
  obtain ⟨v, h1, c', dirty', rd', hs', hf, hst, hmk, hrest, hdirty', hrd, hhs, hcc, hR, hA⟩ := hstep
  obtain ⟨E', Hh', V', e1, e2, e3, e4⟩ := qT os (i + 1) c' dirty' rd' hs' _ h1 r hrest hl' hdirty'
  refine ⟨fun p => if p = i then env else E' p, fun p => if p = i then h else Hh' p, fun p => if p = i then v else V' p, by simp, by simp, ?_, ?_⟩
  ·simp only [List.length_cons]
   rw [if_neg (by omega), if_neg (by omega), show i + (os.length + 1) = i + 1 + os.length from by omega]
   exact e3
  ·intro p o' hp1 hp2 ho'
   by_cases hpi : p = i
   ·subst hpi
    rw [hi] at ho'
    cases ho'
    refine ⟨⟨hf, ?_, ?_, ?_, ?_, ?_⟩, ?_⟩
    ·intro hc
     simp only [if_true]
     rw [if_neg (by omega), e2]
     exact hst hc
    ·intro hc
     simp only [if_true, Nat.sub_self, List.take_zero, cE, Nat.add_zero]
     rw [if_neg (by omega), e2]
     exact hmk hc
    ·simp only [if_true]
     rw [if_neg (by omega), e1]
    ·intro hc
     simpa [iP] using (hR hc).1
    ·intro _ j oj hj1 hj2; omega
    ·intro hc q hq
     simp only [show p + 1 ≠ p from by omega, if_false, e2]
     exact hA hc q hq
   ·simp only [List.length_cons] at hp2
    obtain ⟨s, sa⟩ := e4 p o' (by omega) (by omega) ho'
    refine ⟨⟨s.fits, ?_, ?_, ?_, ?_, ?_⟩, ?_⟩
    ·intro hc; simp only [hpi, if_false, show p + 1 ≠ i from by omega]; exact s.step hc
    ·intro hc
     simp only [hpi, if_false, show p + 1 ≠ i from by omega]
     have := s.made hc
     rw [hcc] at this
     have e : c + cE C.P ((o :: os).take (p - i)) = c + cE C.P [o] + cE C.P (os.take (p - (i + 1))) := by
      rw [show p - i = (p - (i + 1)) + 1 from by omega, List.take_succ_cons]
      simp [cE, Nat.add_assoc]
     rw [e]
     exact this
    ·simp only [hpi, if_false, show p + 1 ≠ i from by omega]; exact s.env
    ·intro hc
     have := s.reads hc
     simp only [hpi, if_false]
     have e : iP C ops (fun p => if p = i then h else Hh' p) i (p - i) ++ hs = iP C ops Hh' (i + 1) (p - (i + 1)) ++ hs' := by
      rw [show p - i = (p - (i + 1)) + 1 from by omega, rC, hhs]
      rw [qS (Hh' := Hh') (p - (i + 1)) (fun q h1 h2 => by simp [show q ≠ i from by omega])]
      simp only [show i + 1 ≠ i from by omega, if_false, e2, List.append_assoc]
     rw [e]
     exact this
    ·intro hc j oj hj1 hj2 hoj hcj
     by_cases hji : j = i
     ·subst hji
      rw [hi] at hoj
      cases hoj
      simp only [if_true, show p + 1 ≠ j from by omega, if_false]
      exact sa hc ⟨j, cU C rec ops o env, v⟩ (hR hcj).2
     ·simp only [hji, if_false, show p + 1 ≠ i from by omega]
      exact s.acts hc j oj (by omega) hj2 hoj hcj
    ·intro hc q hq
     simp only [show p + 1 ≠ i from by omega, if_false]
     exact sa hc q (hrd q hq)
theorem dL (hd : nK C.P ops = true) {j : Nat} {y : Oper} (hy : ops[j]? = some y) :
 (∀ e ∈ y.after, Region.binds .any e = true → e.on < j) ∧ (bP C.P y.op = .makes → y.guard = none) ∧
 ∀ i x, i < j → ops[i]? = some x → jU (Region.before ops) i j = true ∨ (Oper.apart ops x y = true ∧ ¬ ((bP C.P x.op = .acts ∨ bP C.P x.op = .makes) ∧ bP C.P y.op = .acts)) := by
 unfold nK at hd
 have hj : j < ops.size := by
  rcases Nat.lt_or_ge j ops.size with h | h
  ·exact h
  ·simp [Array.getElem?_eq_none h] at hy
 have h1 := List.all_eq_true.1 hd j (by simpa using hj)
 simp only [hy, Bool.and_eq_true] at h1
 obtain ⟨⟨h2, hg⟩, h3⟩ := h1
 refine ⟨fun e he hb => ?_, fun hm => ?_, fun i x hij hx => ?_⟩
 ·have := (Array.all_eq_true_iff_forall_mem.1 h2) e he
  simp only [hb, Bool.not_true, Bool.false_or] at this
  exact Nat.le_of_ble_eq_true this
 ·cases hgd : y.guard with
  | none => rfl
  | some g => rw [hgd] at hg; simp [hm] at hg
 ·have := List.all_eq_true.1 h3 i (by simpa using hij)
  simp only [hx, Bool.or_eq_true, Bool.and_eq_true] at this
  rcases this with h | ⟨h, h'⟩
  ·exact .inl h
  ·refine .inr ⟨h, ?_⟩
   rintro ⟨a1, a2⟩
   rcases a1 with a1 | a1 <;> simp [a1, a2] at h'
def S (listed : Array Bool) (j : Nat) : Prop := listed.getD j false = true
def TS (ops : Array Oper) (V : Nat → DV) (env : fQ) (listed : Array Bool) : Nat → fQ
 | 0 => env
 | p + 1 => match ops[p]? with
  | some o => if listed.getD p false then kJ (TS ops V env listed p) o.dst (V p) else TS ops V env listed p
  | none => TS ops V env listed p
theorem lJ (env : fQ) (d : Option Tmp) (v : DV) (t : Nat) : kJ env d v t = if d = some t then v else env t := by
 cases d with
 | none => simp [kJ]
 | some d =>
  simp only [kJ, bB]
  by_cases e : t = d
  ·subst e
   rw [if_pos rfl]
   have : Nat.beq t t = true := Nat.beq_refl t
   rw [this]; rfl
  ·rw [if_neg (fun h => e h.symm)]
   have : Nat.beq t d = false := by
    cases hb : Nat.beq t d with
    | false => rfl
    | true => exact absurd (Nat.eq_of_beq_eq_true hb) e
   rw [this]; rfl
theorem bCu {V : Nat → DV} {env : fQ} {listed : Array Bool} {t i : Nat} (hno : ∀ j o, i ≤ j → ops[j]? = some o → o.dst = some t → ¬ S listed j) :
 ∀ p, i ≤ p → TS ops V env listed p t = TS ops V env listed i t := by
 intro p
 induction p with
 | zero => intro h; have : i = 0 := by omega
           subst this; rfl
 | succ p ih =>
  intro h
  by_cases e : i = p + 1
  ·rw [e]
  ·have ih' := ih (by omega)
   cases ho : ops[p]? with
   | none => simp only [TS, ho]; exact ih'
   | some o =>
    simp only [TS, ho]
    split
    ·rename_i hl
     rw [lJ]
     rw [if_neg (fun hd => hno p o (by omega) ho hd hl)]
     exact ih'
    ·exact ih'
theorem aXi {V : Nat → DV} {env : fQ} {listed : Array Bool} {E : Nat → fQ} (h0 : E 0 = env) {t i : Nat} (hE : ∀ p o, p < i → ops[p]? = some o → E (p + 1) = kJ (E p) o.dst (V p))
 (hin : ∀ p, p < i → ∃ o, ops[p]? = some o) (hyes : ∀ j o, j < i → ops[j]? = some o → o.dst = some t → S listed j) :
 ∀ p, p ≤ i → TS ops V env listed p t = E p t := by
 intro p
 induction p with
 | zero => intro _; simp [TS, h0]
 | succ p ih =>
  intro h
  have ih' := ih (by omega)
  obtain ⟨o, ho⟩ := hin p (by omega)
  rw [hE p o (by omega) ho, lJ]
  simp only [TS, ho]
  split
  ·rw [lJ, ih']
  ·rename_i hl
   rw [if_neg (fun hd => hl (hyes p o (by omega) ho hd))]
   exact ih'
end
end Go.Dd

namespace Go.Dd
open Go.RowKit (Below)
theorem dZ : ∀ (n : Nat) (p : Pos), (dA n p).toNat = p.toNat + n
 | 0, p => rfl
 | n + 1, p => by simp only [dA]; rw [dZ n p.succ, bZm]; omega
theorem xA (k : Nat) (h : Hp) : (gT k h).next = dA k h.next ∧ (gT k h).bl = h.bl := by
 cases k <;> exact ⟨rfl, rfl⟩
section
variable {G G' : Gd} {ρ : Ren} {h : Hp} {w : World}
theorem mZ {h' : Hp} (e : h'.bl = h.bl) {b : Pos} {a : Addr} : Claims ρ h' b a ↔ Claims ρ h b a := by
 unfold Claims; rw [e]
theorem aAt {h' : Hp} (e : h'.bl = h.bl) {b : Pos} : isRo h' b ↔ isRo h b := by
 unfold isRo; rw [e]
theorem HR.weak (H : HR G' ρ h w) (hB : G'.B = G.B) (hX : ∀ k, G.X k → G'.X k) (hN : G.N ≤ G'.N) (hW : G'.W = G.W) : HR G ρ h w where
 gl := fun k hk => by rw [← hW]; exact H.gl k (by rw [hB]; exact hk)
 sz := ⟨by rw [← hB]; exact H.sz.1, fun k hk => H.sz.2 k (hX k hk)⟩
 nx := Nat.le_trans hN H.nx
 ro := fun b a h1 h2 => by rw [← hB]; exact H.ro b a h1 h2
 dom := H.dom
 lt := H.lt
 cell := H.cell
 spare := H.spare
 free := fun b a h1 h2 => by
  obtain ⟨h3, h4, h5⟩ := H.free b a h1 h2
  exact ⟨h3, by rw [← hB]; exact h4, fun hk => h5 (hX _ hk)⟩
 inj := H.inj
 ex := H.ex
 grone := H.grone
 itr := fun b s pos L h1 h2 => by
  obtain ⟨⟨h3, h4⟩, h5⟩ := H.itr b s pos L h1 h2
  exact ⟨⟨by rw [← hB]; exact h3, fun hk => h4 (hX _ hk)⟩, h5⟩
 itj := H.itj
theorem HR.reserve (H : HR G ρ h w) (k : Nat) : HR ⟨G.B, G.X, (gT k h).next.toNat, G.W, G.ok⟩ ρ (gT k h) w := by
 obtain ⟨e1, e2⟩ := xA k h
 exact {
  gl := H.gl
  sz := H.sz
  nx := Nat.le_refl _
  ro := fun b a h1 h2 => H.ro b a ((mZ e2).1 h1) ((aAt e2).1 h2)
  dom := fun b o h1 => H.dom b o (by rwa [e2] at h1)
  lt := fun b L h1 => by rw [e1, dZ]; have := H.lt b L h1; omega
  cell := fun b k l L i v h1 => H.cell b k l L i v (by rwa [e2] at h1)
  spare := fun b l L es j h1 => H.spare b l L es j (by rwa [e2] at h1)
  free := fun b a h1 h2 => H.free b a ((mZ e2).1 h1) (fun h => h2 ((aAt e2).2 h))
  inj := fun b b' a h1 h2 h3 => H.inj b b' a ((mZ e2).1 h1) ((mZ e2).1 h2) (fun h => h3 ((aAt e2).2 h))
  ex := fun b l L h1 => H.ex b l L (by rwa [e2] at h1)
  grone := fun b es l i v h1 => H.grone b es l i v (by rwa [e2] at h1)
  itr := fun b s pos L h1 => H.itr b s pos L (by rwa [e2] at h1)
  itj := fun b s pos b' s' pos' L L' h1 h2 => H.itj b s pos b' s' pos' L L' (by rwa [e2] at h1) (by rwa [e2] at h2) }
theorem HR.early (H : HR G ρ h w) {b : Pos} (hb : ρ b = none) (hlt : b.toNat < h.next.toNat) (arr : Array Value) (t : TypeId) :
 HR ⟨G.B, fun k => G.X k ∨ k = w.heap.size, G.N, G.W, G.ok⟩ (nH ρ b ⟨w.heap.size, 0, 0, none⟩) h (w.alloc (.cells arr t)) := by
 have hext : Ext ρ (nH ρ b ⟨w.heap.size, 0, 0, none⟩) := by
  intro x L hx
  by_cases e : x = b
  ·subst e; rw [hb] at hx; cases hx
  ·rw [aP _ _ e]; exact hx
 have hrow : h.bl.get b = none := by
  cases hr : h.bl.get b with
  | none => rfl
  | some o => obtain ⟨L, hL⟩ := H.dom b o hr; rw [hb] at hL; cases hL
 have hne : ∀ x o, h.bl.get x = some o → x ≠ b := fun x o hx e => by subst e; rw [hrow] at hx; cases hx
 have hcl : ∀ {x a}, Claims (nH ρ b ⟨w.heap.size, 0, 0, none⟩) h x a → Claims ρ h x a := by
  rintro x a ⟨k, l, L, h1, h2, h3⟩
  rw [aP _ _ (hne x _ h1)] at h2
  exact ⟨k, l, L, h1, h2, h3⟩
 have hblt : ∀ {x a}, Claims ρ h x a → a.block < w.heap.size := fun hc => by
  obtain ⟨v, hv⟩ := H.lt_cell hc
  exact fH hv
 refine { gl := fun k hk => by rw [Below.heap_alloc _ _ _ (Nat.lt_of_lt_of_le hk H.sz.1)]; exact H.gl k hk, sz := ⟨by have := H.sz.1; simp; omega, fun k hk => ?_⟩, nx := H.nx, ro := fun x a h1 h2 => H.ro x a (hcl h1) h2, dom := ?_, lt := ?_, cell := ?_, spare := ?_, free := ?_, inj := ?_, ex := ?_, grone := H.grone, itr := ?_, itj := ?_ }
 ·rcases hk with hk | hk
  ·have := H.sz.2 k hk; simp; omega
  ·simp; omega
 ·intro x o hx
  obtain ⟨L, hL⟩ := H.dom x o hx
  exact ⟨L, hext _ _ hL⟩
 ·intro x L hx
  by_cases e : x = b
  ·subst e; exact hlt
  ·rw [aP _ _ e] at hx; exact H.lt x L hx
 ·intro x k l L i v hx hL hi hv
  rw [aP _ _ (hne x _ hx)] at hL
  obtain ⟨v', h5, h6⟩ := H.cell x k l L i v hx hL hi hv
  exact ⟨v', by rw [eT (fH h5)]; exact h5, h6.mono hext⟩
 ·intro x l L es j hx hL hj
  rw [aP _ _ (hne x _ hx)] at hL
  obtain ⟨v', h5⟩ := H.spare x l L es j hx hL hj
  exact ⟨v', by rw [eT (fH h5)]; exact h5⟩
 ·intro x a hc hr
  have hlt' := hblt (hcl hc)
  obtain ⟨h3, h4, h5⟩ := H.free x a (hcl hc) hr
  refine ⟨by rw [iI (by omega)]; exact h3, h4, ?_⟩
  rintro (hk | hk)
  ·exact h5 hk
  ·omega
 ·intro x x' a hc hc' hr
  exact H.inj x x' a (hcl hc) (hcl hc') hr
 ·intro x l L hx hL
  have : x ≠ b := by rcases hx with hx | hx <;> exact hne x _ hx
  rw [aP _ _ this] at hL
  exact H.ex x l L hx hL
 ·intro x s pos L hx hL
  rw [aP _ _ (hne x _ hx)] at hL
  obtain ⟨⟨h1, h1'⟩, h2, bs, h3, h4⟩ := H.itr x s pos L hx hL
  have hlt' : L.bl < w.heap.size := by
   rcases Nat.lt_or_ge L.bl w.heap.size with h | h
   ·exact h
   ·simp [Array.getElem?_eq_none h] at h3
  refine ⟨⟨h1, ?_⟩, h2, bs, by rw [Below.heap_alloc _ _ _ hlt']; exact h3, h4⟩
  rintro (hk | hk)
  ·exact h1' hk
  ·omega
 ·intro x s pos x' s' pos' L L' hx hx' hL hL' he
  rw [aP _ _ (hne x _ hx)] at hL
  rw [aP _ _ (hne x' _ hx')] at hL'
  exact H.itj x s pos x' s' pos' L L' hx hx' hL hL' he
theorem cCn (H : HR G' ρ h w) (hB : G'.B = G.B) (hX : ∀ k, G.X k → G'.X k) (hN : G.N ≤ G'.N) (hW : G'.W = G.W) {b : Pos} {r : Nat} {arr : Array Value} {t : TypeId} {cs : List DV}
 (hb : ρ b = some ⟨r, 0, 0, none⟩) (hr : w.heap[r]? = some (.cells arr t (0, 0))) (hcs : VRs ρ cs arr.toList) (hBr : G.B ≤ r) (hXr : ¬ G.X r) (hXr' : G'.X r) :
 HR G ρ ⟨h.next, Tr.set (.row .ex cs) b h.bl⟩ w := by
 have hcell : ∀ i, w.cell? (fL ⟨r, 0, 0, none⟩ i) = arr[i]? := fun i => by simp [World.cell?, fL, hr]
 have hfro : ∀ i, w.frozen? (fL ⟨r, 0, 0, none⟩ i) = false := fun i => by simp [World.frozen?, fL, hr]
 have hnew : ∀ {a}, Claims ρ ⟨h.next, Tr.set (.row .ex cs) b h.bl⟩ b a → ∃ i, a = fL ⟨r, 0, 0, none⟩ i := by
  rintro a ⟨k, l, L, h1, h2, h3⟩
  simp only [bZf, bB, Ob.row.injEq] at h1
  obtain ⟨rfl, rfl⟩ := h1
  rw [hb] at h2; cases h2
  rcases h3 with ⟨i, v, hi, hv, rfl⟩ | ⟨es, j, h4, _, _⟩
  ·exact ⟨i, rfl⟩
  ·cases h4
 have hold : ∀ {x a}, x ≠ b → Claims ρ ⟨h.next, Tr.set (.row .ex cs) b h.bl⟩ x a → Claims ρ h x a := by
  rintro x a hx ⟨k, l, L, h1, h2, h3⟩
  simp only [bZd _ _ _ _ hx] at h1
  exact ⟨k, l, L, h1, h2, h3⟩
 have hroo : ∀ x, x ≠ b → (isRo ⟨h.next, Tr.set (.row .ex cs) b h.bl⟩ x ↔ isRo h x) := fun x hx => by simp [isRo, bZd _ _ _ _ hx]
 have hapart : ∀ {x a}, Claims ρ h x a → a.block ≠ r := by
  intro x a hc e
  by_cases hro : isRo h x
  ·have := H.ro x a hc hro
   omega
  ·exact (H.free x a hc hro).2.2 (e ▸ hXr')
 refine { gl := fun k hk => by rw [← hW]; exact H.gl k (by rw [hB]; exact hk), sz := ⟨by rw [← hB]; exact H.sz.1, fun k hk => H.sz.2 k (hX k hk)⟩, nx := Nat.le_trans hN H.nx, ro := ?_, dom := ?_, lt := H.lt, cell := ?_, spare := ?_, free := ?_, inj := ?_, ex := ?_, grone := ?_, itr := ?_, itj := ?_ }
 ·intro x a hc hro
  by_cases e : x = b
  ·subst e
   obtain ⟨l0, h0⟩ := hro
   simp [bZf] at h0
  ·rw [← hB]; exact H.ro x a (hold e hc) ((hroo x e).1 hro)
 ·intro x o hx
  by_cases e : x = b
  ·subst e; exact ⟨_, hb⟩
  ·simp only [bZd _ _ _ _ e] at hx; exact H.dom x o hx
 ·intro x k l L i v hx hL hi hv
  by_cases e : x = b
  ·subst e
   simp only [bZf, bB, Ob.row.injEq] at hx
   obtain ⟨rfl, rfl⟩ := hx
   rw [hb] at hL; cases hL
   obtain ⟨v', h5, h6⟩ := hcs.get i v hi
   exact ⟨v', by rw [hcell]; simpa using h5, h6⟩
  ·simp only [bZd _ _ _ _ e] at hx
   exact H.cell x k l L i v hx hL hi hv
 ·intro x l L es j hx hL hj
  by_cases e : x = b
  ·subst e; simp [bZf] at hx
  ·simp only [bZd _ _ _ _ e] at hx
   exact H.spare x l L es j hx hL hj
 ·intro x a hc hro
  by_cases e : x = b
  ·subst e
   obtain ⟨i, rfl⟩ := hnew hc
   exact ⟨hfro i, hBr, hXr⟩
  ·obtain ⟨h3, h4, h5⟩ := H.free x a (hold e hc) (fun h => hro ((hroo x e).2 h))
   exact ⟨h3, by rw [← hB]; exact h4, fun hk => h5 (hX _ hk)⟩
 ·intro x x' a hc hc' hro
  by_cases e : x = b
  ·subst e
   by_cases e' : x' = x
   ·exact e'.symm
   ·obtain ⟨i, rfl⟩ := hnew hc
    exact absurd rfl (hapart (hold e' hc'))
  ·by_cases e' : x' = b
   ·subst e'
    obtain ⟨i, rfl⟩ := hnew hc'
    exact absurd rfl (hapart (hold e hc))
   ·exact H.inj x x' a (hold e hc) (hold e' hc') (fun h => hro ((hroo x e).2 h))
 ·intro x l L hx hL
  by_cases e : x = b
  ·subst e
   rw [hb] at hL; cases hL
   rfl
  ·simp only [bZd _ _ _ _ e] at hx
   exact H.ex x l L hx hL
 ·intro x es l i v hx hi
  by_cases e : x = b
  ·subst e; simp [bZf] at hx
  ·simp only [bZd _ _ _ _ e] at hx
   exact H.grone x es l i v hx hi
 ·intro x s pos L hx hL
  by_cases e : x = b
  ·subst e; simp [bZf] at hx
  ·simp only [bZd _ _ _ _ e] at hx
   obtain ⟨⟨h1, h1'⟩, h2⟩ := H.itr x s pos L hx hL
   exact ⟨⟨by rw [← hB]; exact h1, fun hk => h1' (hX _ hk)⟩, h2⟩
 ·intro x s pos x' s' pos' L L' hx hx' hL hL' he
  by_cases e : x = b
  ·subst e; simp [bZf] at hx
  ·by_cases e' : x' = b
   ·subst e'; simp [bZf] at hx'
   ·simp only [bZd _ _ _ _ e] at hx
    simp only [bZd _ _ _ _ e'] at hx'
    exact H.itj x s pos x' s' pos' L L' hx hx' hL hL' he
end
section
variable {C : Cfg} {ρ : Ren} {w : World} {h h1 : Hp} {v : DV} {a : Act} {env : fQ}
theorem bOu (he : EnvR ρ env a) {o : Oper} {b : Pos} (hp : iN C o b env h = some (v, h1)) (hb : ρ b = none) :
 ∃ (cs : List DV) (arr : Array Value) (t : TypeId) (v' : Value), (execOp a.eval o).run C.P w = .ok (.value v') (w.alloc (.cells arr t)) ∧ VRs ρ cs arr.toList ∧
  h1 = ⟨h.next, Tr.set (.row .ex cs) b h.bl⟩ ∧ VR (nH ρ b ⟨w.heap.size, 0, 0, none⟩) v v' := by
 unfold iN at hp
 split at hp <;> (try (cases hp; done))
 ·rename_i t ho
  split at hp <;> (try (cases hp; done))
  rename_i i hi
  split at hp <;> (try (cases hp; done))
  rename_i z hz
  simp only [qE, bB, bW] at hp
  obtain ⟨rfl, rfl⟩ := hp
  refine ⟨_, z.cells, t, .pointer (some ⟨w.heap.size, 0, none⟩), ?_, cCm ρ z, rfl, .p _ 0 ⟨w.heap.size, 0, 0, none⟩ (bR _ _ _)⟩
  unfold execOp
  simp only [ho, Instr.alloc, Sem.run_bind, rZ hi hz, Result.andThen_ok]
  simp [newVar, newRow]
 ·rename_i t x ho
  unfold aXv at hp
  split at hp <;> (try (cases hp; done))
  rename_i cs hc
  simp only [qE, bB, bW] at hp
  obtain ⟨rfl, rfl⟩ := hp
  refine ⟨cs, (a.eval x).cells, t, .pointer (some ⟨w.heap.size, 0, none⟩), ?_, (bF he x).cells hc, rfl, .p _ 0 ⟨w.heap.size, 0, 0, none⟩ (bR _ _ _)⟩
  unfold execOp
  simp [ho, Instr.box, newVar, newRow]
 ·rename_i t n ps ho
  split at hp <;> (try (cases hp; done))
  rename_i e ht
  split at hp <;> (try (cases hp; done))
  rename_i i hi
  split at hp <;> (try (cases hp; done))
  rename_i z hz
  split at hp <;> (try (cases hp; done))
  rename_i hc
  unfold aY at hp
  split at hp <;> (try (cases hp; done))
  rename_i cs hf
  simp only [bB, bW] at hp
  obtain ⟨rfl, rfl⟩ := hp
  obtain ⟨out', h3, h4⟩ := lU (P := C.P) (w := w) (ρ := ρ) (bF he) ht hi hz hc.1 hc.2.1 hc.2.2 hf
  refine ⟨cs, out', e, .slice (some ⟨w.heap.size, 0, none⟩) n n, ?_, h4, rfl, .l _ 0 n n ⟨w.heap.size, 0, 0, none⟩ (bR _ _ _)⟩
  unfold execOp
  simp only [ho, Sem.run_bind]
  rw [h3]
  simp
end
end Go.Dd

namespace Go.Dd
open Go.RowKit (Below)
section
variable {C : Cfg} {G : Gd} {rec : FuncId → List DV → Hp → aG} {ops : Array Oper} {nt : Nat} {p0 : Pos}
theorem pY {listed : Array Bool} {i : Nat} : i ∈ Region.ready .any ops listed ↔ i < ops.size ∧ listed.getD i true = false ∧ ∃ o, ops[i]? = some o ∧ ∀ e ∈ o.after, Region.binds .any e = true → listed.getD e.on false = true := by
 unfold Region.ready
 rw [List.mem_filter]
 simp only [List.mem_range, Bool.and_eq_true, Bool.not_eq_eq_eq_not, Bool.not_true]
 constructor
 ·rintro ⟨h1, h2, h3⟩
  refine ⟨h1, h2, ops[i], by simp [h1], fun e he hb => ?_⟩
  simp only [h1, getElem?_pos, Option.map_some, Option.getD_some] at h3
  have := (Array.all_eq_true_iff_forall_mem.1 h3) e he
  simpa [hb] using this
 ·rintro ⟨h1, h2, o, ho, h3⟩
  refine ⟨h1, h2, ?_⟩
  simp only [ho, Option.map_some, Option.getD_some]
  refine Array.all_eq_true_iff_forall_mem.2 fun e he => ?_
  cases hb : Region.binds .any e with
  | false => simp
  | true => simp [h3 e he hb]
noncomputable def idp (C : Cfg) (ops : Array Oper) (p0 : Pos) (p : Nat) : Pos := dA (cE C.P (ops.toList.take p)) p0
structure Tr1 (C : Cfg) (rec : FuncId → List DV → Hp → aG) (ops : Array Oper) (nt : Nat) (p0 : Pos) (E : Nat → fQ) (Hh : Nat → Hp) (V : Nat → DV) : Prop where
 ok : nK C.P ops = true
 st : ∀ p o, ops[p]? = some o → StepT C rec ops (Region.before ops) nt (idp C ops p0 p) E Hh V 0 [(none, Hh 0)] p o
theorem Tr1.same {E : Nat → fQ} {Hh : Nat → Hp} {V : Nat → DV} (T : Tr1 C rec ops nt p0 E Hh V) {p : Nat} {o : Oper} (ho : ops[p]? = some o) (hc : bP C.P o.op ≠ .acts) (hm : bP C.P o.op ≠ .makes) : Hh (p + 1) = Hh p := by
 have hs := (T.st p o ho).step hm
 cases hcl : bP C.P o.op with
 | pure => exact (qI hcl _ _ _ hs).1
 | reads => exact nX hcl hs
 | makes => exact absurd hcl hm
 | acts => exact absurd hcl hc
def bLf (C : Cfg) (ops : Array Oper) (q : Nat) : Prop := q = 0 ∨ ∃ j oj, ops[j]? = some oj ∧ bP C.P oj.op = .acts ∧ q = j + 1
theorem nN {m : Array Nat} {i q : Nat} {Pv : Hp → Prop} {Hh : Nat → Hp} {tl : List (Option Nat × Hp)} : ∀ d, q ≤ d → pR m i Pv (iP C ops Hh 0 d ++ tl) →
 (∀ j oj, ops[j]? = some oj → bP C.P oj.op = .acts → q ≤ j → j < d → ¬ jU m j i = true) → pR m i Pv (iP C ops Hh 0 q ++ tl)
 | 0, hq, hc, _ => by have : q = 0 := by omega
                      subst this; exact hc
 | d + 1, hq, hc, hno => by
  by_cases e : q = d + 1
  ·subst e; exact hc
  ·have hq' : q ≤ d := by omega
   simp only [iP, Nat.zero_add] at hc
   cases ha : jN C ops d with
   | false =>
    rw [ha] at hc
    simp only [Bool.false_eq_true, if_false, List.nil_append] at hc
    exact nN d hq' hc fun j oj h1 h2 h3 h4 => hno j oj h1 h2 h3 (by omega)
   | true =>
    rw [ha] at hc
    simp only [if_true, List.cons_append, List.nil_append] at hc
    obtain ⟨_, h2⟩ := hc
    have ⟨oj, hoj, hcj⟩ : ∃ oj, ops[d]? = some oj ∧ bP C.P oj.op = .acts := by
     unfold jN at ha
     split at ha
     ·rename_i o ho; exact ⟨o, ho, by simpa using ha⟩
     ·cases ha
    rcases h2 with h2 | h2
    ·exact absurd h2 (hno d oj hoj hcj hq' (by omega))
    ·exact nN d hq' h2 fun j oj h1 h2 h3 h4 => hno j oj h1 h2 h3 (by omega)
theorem Tr1.value {E : Nat → fQ} {Hh : Nat → Hp} {V : Nat → DV} (T : Tr1 C rec ops nt p0 E Hh V) {listed : Array Bool} {i q : Nat} {o : Oper} (ho : ops[i]? = some o) (hc : bP C.P o.op ≠ .acts) (hm : bP C.P o.op ≠ .makes)
 (hq : bLf C ops q) (hgap : ∀ j oj, ops[j]? = some oj → bP C.P oj.op = .acts → (j < q ↔ S listed j))
 (hni : ¬ S listed i) (hdown : ∀ j x, jU (Region.before ops) j x = true → S listed x → S listed j) (hpre : ∀ j, jU (Region.before ops) j i = true → S listed j) :
 cU C rec ops o (E i) (Hh q) = some (V i, Hh q) := by
 have hst := T.st i o ho
 cases hcl : bP C.P o.op with
 | acts => exact absurd hcl hc
 | makes => exact absurd hcl hm
 | pure => exact (qI hcl _ _ _ (hst.step hm)).2 _
 | reads =>
  rcases Nat.lt_or_ge i q with h | h
  ·rcases hq with rfl | ⟨j, oj, hj, haj, rfl⟩
   ·omega
   ·have hSj : S listed j := (hgap j oj hj haj).1 (by omega)
    have hij : i ≠ j := fun e => by subst e; exact hni hSj
    rcases (T.st j oj hj).acts haj i o (Nat.zero_le _) (by omega) ho hcl with h3 | h3
    ·exact absurd (hdown i j h3 hSj) hni
    ·exact rE hcl h3
  ·have h1 := hst.reads hcl
   rw [Nat.sub_zero] at h1
   have h2 := nN (q := q) i h h1 fun j oj hj haj hqj hji hord => by
    have := (hgap j oj hj haj).2 (hpre j hord)
    omega
   rcases hq with rfl | ⟨j, oj, hj, haj, rfl⟩
   ·exact h2.1
   ·simp only [iP, Nat.zero_add, (aNj hj).2 haj, if_true, List.cons_append, List.nil_append] at h2
    exact h2.1
theorem bJt {listed : Array Bool} {i j : Nat} (hi : i < listed.size) : S (listed.setIfInBounds i true) j ↔ (j = i ∨ S listed j) := by
 unfold S
 by_cases e : j = i
 ·subst e; simp [hi]
 ·simp [Array.getElem?_setIfInBounds_ne (Ne.symm e), e]
theorem pX {listed : Array Bool} {i : Nat} (hi : i < listed.size) : listed.getD i true = listed.getD i false := by
 simp [hi]
theorem bNn {V : Nat → DV} {env : fQ} {listed : Array Bool} {i : Nat} {o : Oper} (ho : ops[i]? = some o) (hi : i < listed.size) (hni : ¬ S listed i) (t : Nat)
 (hlast : ∀ j oj, i < j → ops[j]? = some oj → oj.dst = some t → o.dst = some t → ¬ S listed j) :
 ∀ p, i < p → TS ops V env (listed.setIfInBounds i true) p t = if o.dst = some t then V i else TS ops V env listed p t := by
 have hbefore : ∀ p, p ≤ i → TS ops V env (listed.setIfInBounds i true) p = TS ops V env listed p := by
  intro p
  induction p with
  | zero => intro _; rfl
  | succ p ih =>
   intro h
   have e : (listed.setIfInBounds i true).getD p false = listed.getD p false := by simp [Array.getElem?_setIfInBounds_ne (show i ≠ p by omega)]
   simp only [TS, ih (by omega), e]
 intro p
 induction p with
 | zero => intro h; omega
 | succ p ih =>
  intro h
  by_cases hpi : p = i
  ·subst hpi
   have e1 : (listed.setIfInBounds p true).getD p false = true := by simp [hi]
   have e2 : ¬ listed.getD p false = true := hni
   simp only [TS, ho, hbefore p (Nat.le_refl _), e1, if_true, lJ]
   rw [if_neg e2]
  ·have ih' := ih (by omega)
   have e : (listed.setIfInBounds i true).getD p false = listed.getD p false := by simp [Array.getElem?_setIfInBounds_ne (Ne.symm hpi)]
   cases hop : ops[p]? with
   | none => simp only [TS, hop]; exact ih'
   | some op =>
    simp only [TS, hop, e]
    split
    ·rename_i hl
     rw [lJ, lJ, ih']
     by_cases hd : op.dst = some t
     ·rw [if_pos hd, if_pos hd]
      by_cases hod : o.dst = some t
      ·exact absurd hl (hlast p op (by omega) hop hd hod)
      ·rw [if_neg hod]
     ·rw [if_neg hd, if_neg hd]
    ·exact ih'
def iS (C : Cfg) (ops : Array Oper) (listed : Array Bool) (q i : Nat) : Prop := ∃ o, ops[i]? = some o ∧ bP C.P o.op = .makes ∧ S listed i ∧ q ≤ i
def GX (G : Gd) (N : Nat) (C : Cfg) (ops : Array Oper) (listed : Array Bool) (R : Nat → Nat) (q : Nat) : Gd := ⟨G.B, fun k => G.X k ∨ ∃ i, iS C ops listed q i ∧ R i = k, N, G.W, G.ok⟩
structure Made (G : Gd) (C : Cfg) (ops : Array Oper) (p0 : Pos) (Hh : Nat → Hp) (ρ : Ren) (w : World) (R : Nat → Nat) (i : Nat) : Prop where
 name : ρ (idp C ops p0 i) = some ⟨R i, 0, 0, none⟩
 low : G.B ≤ R i
 ex : ¬ G.X (R i)
 row : ∃ (arr : Array Value) (t : TypeId) (cs : List DV), w.heap[R i]? = some (.cells arr t (0, 0)) ∧ VRs ρ cs arr.toList ∧ Hh (i + 1) = ⟨(Hh i).next, Tr.set (.row .ex cs) (idp C ops p0 i) (Hh i).bl⟩
theorem aDu {E : Nat → fQ} {Hh : Nat → Hp} {V : Nat → DV} (T : Tr1 C rec ops nt p0 E Hh V) {listed : Array Bool} {R : Nat → Nat} {N q : Nat} {ρ : Ren} {w : World}
 (hmade : ∀ i, iS C ops listed q i → Made G C ops p0 Hh ρ w R i) (hdist : ∀ i i', iS C ops listed q i → iS C ops listed q i' → R i = R i' → i = i') :
 ∀ p, q ≤ p → p ≤ ops.size → (∀ j oj, ops[j]? = some oj → q ≤ j → j < p → bP C.P oj.op ≠ .acts ∧ (bP C.P oj.op = .makes → S listed j)) →
 HR (GX G N C ops listed R q) ρ (Hh q) w → HR (GX G N C ops listed R p) ρ (Hh p) w := by
 intro p
 induction p with
 | zero => intro h1 _ _ H; have : q = 0 := by omega
           subst this; exact H
 | succ p ih =>
  intro h1 h2 hr H
  by_cases e : q = p + 1
  ·subst e; exact H
  ·have H' := ih (by omega) (by omega) (fun j oj hj hq hjp => hr j oj hj hq (by omega)) H
   obtain ⟨o, ho⟩ : ∃ o, ops[p]? = some o := ⟨ops[p], by simp [show p < ops.size by omega]⟩
   obtain ⟨ha, hm⟩ := hr p o ho (by omega) (by omega)
   have hsub : ∀ k, (GX G N C ops listed R (p + 1)).X k → (GX G N C ops listed R p).X k := by
    rintro k (hk | ⟨i, ⟨oi, h3, h4, h5, h6⟩, h7⟩)
    ·exact .inl hk
    ·exact .inr ⟨i, ⟨oi, h3, h4, h5, by omega⟩, h7⟩
   by_cases hmk : bP C.P o.op = .makes
   ·have hE : iS C ops listed q p := ⟨o, ho, hmk, hm hmk, by omega⟩
    have hM := hmade p hE
    obtain ⟨arr, t, cs, r1, r2, r3⟩ := hM.row
    rw [r3]
    refine cCn (G := GX G N C ops listed R (p + 1)) H' rfl hsub (Nat.le_refl _) rfl hM.name r1 r2 hM.low ?_ (.inr ⟨p, ⟨o, ho, hmk, hm hmk, Nat.le_refl _⟩, rfl⟩)
    rintro (hk | ⟨i, ⟨oi, h3, h4, h5, h6⟩, h7⟩)
    ·exact hM.ex hk
    ·have := hdist i p ⟨oi, h3, h4, h5, by omega⟩ hE h7
     omega
   ·rw [T.same ho ha hmk]
    exact H'.weak rfl hsub (Nat.le_refl _) rfl
def Inv (C : Cfg) (G : Gd) (ops : Array Oper) (nt : Nat) (p0 : Pos) (N : Nat) (E : Nat → fQ) (Hh : Nat → Hp) (V : Nat → DV) (ρ : Ren) (w0 : World) (listed : Array Bool) (a : Act) (w : World) : Prop :=
 listed.size = ops.size ∧ (∀ j x, jU (Region.before ops) j x = true → S listed x → S listed j) ∧
 ∃ q, q ≤ ops.size ∧ bLf C ops q ∧ (∀ j oj, ops[j]? = some oj → bP C.P oj.op = .acts → (j < q ↔ S listed j)) ∧
 ∃ (ρ' : Ren) (R : Nat → Nat), Ex G ρ ρ' ∧ HR (GX G N C ops listed R q) ρ' (Hh q) w ∧ EnvR ρ' (TS ops V (E 0) listed ops.size) a ∧ Kp G w0 w ∧ nt ≤ a.tmps.size ∧ a.defers = [] ∧
  (∀ i o, ops[i]? = some o → bP C.P o.op = .makes → ¬ S listed i → ρ' (idp C ops p0 i) = none) ∧
  (∀ i, iS C ops listed q i → Made G C ops p0 Hh ρ' w R i) ∧ (∀ i i', iS C ops listed q i → iS C ops listed q i' → R i = R i' → i = i')
theorem aZn {i : Nat} {o : Oper} (ho : ops[i]? = some o) (hm : bP C.P o.op = .makes) : (idp C ops p0 i).toNat < p0.toNat + cE C.P ops.toList := by
 unfold idp
 rw [dZ]
 have hlt : i < ops.toList.length := by
  rcases Nat.lt_or_ge i ops.toList.length with h | h
  ·exact h
  ·simp at h; simp [Array.getElem?_eq_none h] at ho
 have key : ∀ (l : List Oper) (i : Nat), l[i]? = some o → cE C.P (l.take i) < cE C.P l := by
  intro l
  induction l with
  | nil => intro i h; simp at h
  | cons x l ih =>
   intro i h
   cases i with
   | zero => simp at h; subst h; simp [cE, hm]; omega
   | succ i => simp at h; have := ih i h; simp only [List.take_succ_cons, cE]; omega
 have := key ops.toList i (by simpa using ho)
 omega
theorem bOy {i i' : Nat} {o o' : Oper} (ho : ops[i]? = some o) (hm : bP C.P o.op = .makes) (ho' : ops[i']? = some o') (hm' : bP C.P o'.op = .makes) (hne : i ≠ i') : idp C ops p0 i ≠ idp C ops p0 i' := by
 have key : ∀ (l : List Oper) (i j : Nat) (o : Oper), l[i]? = some o → bP C.P o.op = .makes → i < j → cE C.P (l.take i) < cE C.P (l.take j) := by
  intro l
  induction l with
  | nil => intro i j o h; simp at h
  | cons x l ih =>
   intro i j o h hm hij
   cases j with
   | zero => omega
   | succ j =>
    cases i with
    | zero => simp at h; subst h; simp only [List.take_succ_cons, cE, hm, List.take_zero]; omega
    | succ i => simp at h; have := ih i j o h hm (by omega); simp only [List.take_succ_cons, cE]; omega
 intro e
 have e' := congrArg Pos.toNat e
 unfold idp at e'
 rw [dZ, dZ] at e'
 rcases Nat.lt_or_ge i i' with h | h
 ·have := key ops.toList i i' o (by simpa using ho) hm h; omega
 ·have := key ops.toList i' i o' (by simpa using ho') hm' (by omega); omega
theorem aRu (K : OkC C rec) {N : Nat} {E : Nat → fQ} {Hh : Nat → Hp} {V : Nat → DV} (T : Tr1 C rec ops nt p0 E Hh V) (hN : N = p0.toNat + cE C.P ops.toList) (hGN : G.N ≤ p0.toNat) {ρ : Ren} {w0 : World} {Q : Exit → Act → World → Prop}
 (hQ : ∀ ρ' a' w', Ex G ρ ρ' → HR G ρ' (Hh ops.size) w' → EnvR ρ' (E ops.size) a' → Kp G w0 w' → nt ≤ a'.tmps.size → a'.defers = [] → Q .normal a' w') :
 ∀ (fuel : Nat) (listed : Array Bool) (a : Act) (w : World), Inv C G ops nt p0 N E Hh V ρ w0 listed a w → ((List.range ops.size).filter fun i => !listed.getD i false).length ≤ fuel → wpAny C.P .any ops Q fuel listed a w := by
 have hlt : ∀ p, p < ops.size → ∃ o, ops[p]? = some o := fun p hp => ⟨ops[p], by simp [hp]⟩
 have hin : ∀ (j : Nat) oj, ops[j]? = some oj → j < ops.size := fun j oj hj => by
  rcases Nat.lt_or_ge j ops.size with h | h
  ·exact h
  ·simp [Array.getElem?_eq_none h] at hj
 have hend : ∀ listed a w, Inv C G ops nt p0 N E Hh V ρ w0 listed a w → (∀ i, i < ops.size → S listed i) → Q .normal a w := by
  rintro listed a w ⟨hsz, hdown, q, hq, hcand, hgap, ρ', R, h1, h2, h3, h4, h5, h6, h7, h8, h9⟩ hall
  have hH := aDu (G := G) T h8 h9 ops.size hq (Nat.le_refl _) (fun j oj hj hqj hjn => ⟨fun ha => by
   have := (hgap j oj hj ha).2 (hall j hjn)
   omega, fun _ => hall j hjn⟩) h2
  have hE : ∀ t, TS ops V (E 0) listed ops.size t = E ops.size t := fun t =>
   aXi (E := E) rfl (fun p o hp ho => (T.st p o ho).env) (fun p hp => hlt p hp) (fun j o hj _ _ => hall j hj) ops.size (Nat.le_refl _)
  refine hQ ρ' a w h1 (hH.weak rfl (fun k hk => .inl hk) (by show G.N ≤ N; omega) rfl) (fun t => ?_) h4 h5 h6
  rw [← hE t]
  exact h3 t
 have hready : ∀ listed, listed.size = ops.size → Region.ready .any ops listed = [] → ∀ i, i < ops.size → S listed i := by
  intro listed hsz hr i
  induction i using Nat.strongRecOn with
  | _ i ih =>
   intro hi
   obtain ⟨o, ho⟩ := hlt i hi
   by_cases hs : S listed i
   ·exact hs
   ·exfalso
    have hmem : i ∈ Region.ready .any ops listed := by
     rw [pY]
     refine ⟨hi, ?_, o, ho, fun e he hb => ?_⟩
     ·rw [pX (by omega)]
      unfold S at hs
      simpa using hs
     ·have := (dL T.ok ho).1 e he hb
      exact ih e.on this (by omega)
    rw [hr] at hmem
    cases hmem
 intro fuel
 induction fuel with
 | zero =>
  intro listed a w hI hfuel
  have hall : ∀ i, i < ops.size → S listed i := by
   intro i hi
   by_cases hs : S listed i
   ·exact hs
   ·exfalso
    have : i ∈ (List.range ops.size).filter fun i => !listed.getD i false := by
     rw [List.mem_filter]
     refine ⟨by simpa using hi, ?_⟩
     unfold S at hs
     simpa using hs
    have := List.length_pos_of_mem this
    omega
  refine ⟨?_, hend listed a w hI hall⟩
  cases hr : Region.ready .any ops listed with
  | nil => rfl
  | cons x xs =>
   have hx : x ∈ Region.ready .any ops listed := by rw [hr]; simp
   rw [pY] at hx
   have := hall x hx.1
   rw [pX (by rw [hI.1]; exact hx.1)] at hx
   unfold S at this
   rw [this] at hx
   cases hx.2.1
 | succ fuel ih =>
  intro listed a w hI hfuel
  refine ⟨fun hr => hend listed a w hI (hready listed hI.1 hr), fun i hi => ?_⟩
  obtain ⟨hsz, hdown, q, hq, hcand, hgap, ρ', R, h1, h2, h3, h4, h5, h6, h7, h8, h9⟩ := hI
  rw [pY] at hi
  obtain ⟨hisz, hni, o, ho, hpre0⟩ := hi
  rw [pX (by omega)] at hni
  have hnS : ¬ S listed i := by unfold S; rw [hni]; simp
  have hpre : ∀ j, jU (Region.before ops) j i = true → S listed j := by
   intro j hj
   obtain ⟨e, he, hb, h | h⟩ := aDx ho hj
   ·rw [← h]; exact hpre0 e he hb
   ·exact hdown j e.on h (hpre0 e he hb)
  have hst := T.st i o ho
  have hlook : ∀ t ∈ o.looksAt ops, TS ops V (E 0) listed ops.size t = E i t := by
   intro t ht
   rw [bCu (i := i) (fun j oj hij hj hd hS => ?_) ops.size (by omega)]
   ·exact aXi (E := E) rfl (fun p op hp hop => (T.st p op hop).env) (fun p hp => hlt p (by omega)) (fun j oj hj hoj hd => by
     rcases (dL T.ok ho).2.2 j oj hj hoj with h | ⟨h, _⟩
     ·exact hpre j h
     ·exact absurd ht ((Oper.apart_spec h).1 t hd)) i (Nat.le_refl _)
   ·rcases Nat.eq_or_lt_of_le hij with e | e
    ·subst e; exact hnS hS
    ·rcases (dL T.ok hj).2.2 i o e ho with h | ⟨h, _⟩
     ·exact hnS (hdown i j h hS)
     ·exact absurd ht ((Oper.apart_spec h).2.2 t hd)
  have hmkq : ∀ j oj, ops[j]? = some oj → bP C.P oj.op = .makes → j < q → S listed j := by
   intro j oj hj hmj hjq
   rcases hcand with rfl | ⟨l, ol, hl, hal, rfl⟩
   ·omega
   ·have hSl : S listed l := (hgap l ol hl hal).1 (by omega)
    have hjl : j ≠ l := fun e => by subst e; rw [hl] at hj; cases hj; rw [hal] at hmj; cases hmj
    rcases (dL T.ok hl).2.2 j oj (by omega) hj with h | ⟨_, h⟩
    ·exact hdown j l h hSl
    ·exact absurd ⟨.inr hmj, hal⟩ h
  have hdown' : ∀ j x, jU (Region.before ops) j x = true → S (listed.setIfInBounds i true) x → S (listed.setIfInBounds i true) j := by
   intro j x hjx hx
   rw [bJt (by omega)] at hx ⊢
   rcases hx with rfl | hx
   ·exact .inr (hpre j hjx)
   ·exact .inr (hdown j x hjx hx)
  have hTS : ∀ (ρ2 : Ren) (v2 : Value), Ext ρ' ρ2 → VR ρ2 (V i) v2 → EnvR ρ2 (TS ops V (E 0) (listed.setIfInBounds i true) ops.size) (a.put o.dst v2) := by
   intro ρ2 v2 e1 e2 t
   rw [bNn ho (by omega) hnS t (fun j oj hij hj hd hod hS => by
    rcases (dL T.ok hj).2.2 i o hij ho with h | ⟨h, _⟩
    ·exact hnS (hdown i j h hS)
    ·exact (Oper.apart_spec h).2.1 t hod hd) ops.size (by omega)]
   have := EnvR.put h3 e1 e2 hst.fits h5 t
   rwa [lJ] at this
  have hcount : ((List.range ops.size).filter fun j => !(listed.setIfInBounds i true).getD j false).length ≤ fuel := by
   have hmem : i ∈ (List.range ops.size).filter fun i => !listed.getD i false := by
    rw [List.mem_filter]
    exact ⟨by simpa using hisz, by simp [hni]⟩
   have hle : ((List.range ops.size).filter fun j => !(listed.setIfInBounds i true).getD j false).length < ((List.range ops.size).filter fun j => !listed.getD j false).length := by
    have hsub : ((List.range ops.size).filter fun j => !(listed.setIfInBounds i true).getD j false) = ((List.range ops.size).filter fun j => !listed.getD j false).filter (fun j => j != i) := by
     rw [List.filter_filter]
     apply List.filter_congr
     intro j hj
     by_cases e : j = i
     ·subst e; simp [show j < listed.size by omega]
     ·simp [Array.getElem?_setIfInBounds_ne (Ne.symm e), e]
    rw [hsub]
    exact List.length_filter_lt_length_iff_exists.2 ⟨i, hmem, by simp⟩
   omega
  have hS' : ∀ j, S (listed.setIfInBounds i true) j ↔ (j = i ∨ S listed j) := fun j => bJt (by omega)
  by_cases hmk : bP C.P o.op = .makes
  ·
   have hqi : q ≤ i := by
    rcases Nat.lt_or_ge i q with h | h
    ·exact absurd (hmkq i o ho hmk h) hnS
    ·exact h
   have hg := (dL T.ok ho).2.1 hmk
   have hbn := h7 i o ho hmk hnS
   have hst1 := hst.made hmk
   have hext : Ext ρ' (nH ρ' (idp C ops p0 i) ⟨w.heap.size, 0, 0, none⟩) := by
    intro x L hx
    by_cases e : x = idp C ops p0 i
    ·subst e; rw [hbn] at hx; cases hx
    ·rw [aP _ _ e]; exact hx
   have hE0 : iN C o (idp C ops p0 i) (TS ops V (E 0) listed ops.size) (Hh i) = some (V i, Hh (i + 1)) := by
    rw [← hst1]
    refine vV fun x hx => xE fun t ht => hlook t ?_
    unfold Oper.looksAt
    refine List.mem_append_left _ (List.mem_filterMap.2 ⟨x, by simpa using hx, ?_⟩)
    rw [ht]
   obtain ⟨cs, arr, t, v', m1, m2, m3, m4⟩ := bOu (w := w) h3 hE0 hbn
   have hidlt := aZn (p0 := p0) ho hmk
   have H2 := h2.early hbn (by have := h2.nx; simp only [GX] at this; omega) arr t
   unfold wpOp
   simp only [ho]
   rw [if_pos (by simp [Region.wanted, hg])]
   refine .inl ?_
   unfold Oper.wp
   rw [m1]
   show wpAny C.P .any ops Q fuel (listed.setIfInBounds i true) (a.put o.dst v') (w.alloc (.cells arr t))
   have hEarly : ∀ j, iS C ops (listed.setIfInBounds i true) q j → j = i ∨ iS C ops listed q j := by
    rintro j ⟨oj, e1, e2, e3, e4⟩
    rcases (hS' j).1 e3 with e | e
    ·exact .inl e
    ·exact .inr ⟨oj, e1, e2, e, e4⟩
   have hRlt : ∀ j, iS C ops listed q j → R j < w.heap.size := fun j hj => h2.sz.2 _ (.inr ⟨j, hj, rfl⟩)
   have hjne : ∀ j, iS C ops listed q j → j ≠ i := by
    rintro j ⟨oj, e1, e2, e3, e4⟩ e
    subst e; exact hnS e3
   refine ih _ _ _ ⟨by simpa using hsz, hdown', q, hq, hcand, fun j oj hj haj => ?_, nH ρ' (idp C ops p0 i) ⟨w.heap.size, 0, 0, none⟩, fun j => if j = i then w.heap.size else R j, ?_, ?_, hTS _ _ hext m4, ?_, by rw [tY]; exact h5, by rw [nT]; exact h6, ?_, ?_, ?_⟩ hcount
   ·rw [hS' j, hgap j oj hj haj]
    constructor
    ·exact .inr
    ·rintro (h | h)
     ·subst h; rw [ho] at hj; cases hj; rw [hmk] at haj; cases haj
     ·exact h
   ·refine h1.trans ⟨hext, fun b L hb => ?_⟩
    by_cases e : b = idp C ops p0 i
    ·right
     rw [e]
     unfold idp
     rw [dZ]
     omega
    ·rw [aP _ _ e] at hb; exact .inl hb
   ·refine H2.weak rfl ?_ (Nat.le_refl _) rfl
    rintro k (hk | ⟨j, hj, hjk⟩)
    ·exact .inl (.inl hk)
    ·rcases hEarly j hj with rfl | hj'
     ·right; simpa using hjk.symm
     ·left; right
      refine ⟨j, hj', ?_⟩
      simpa [hjne j hj'] using hjk
   ·exact h4.trans (gP (G := G) ⟨h2.sz.1, fun k hk => h2.sz.2 k (.inl hk)⟩ _)
   ·intro j oj hj hmj hSj
    have hji : j ≠ i := fun e => hSj ((hS' j).2 (.inl e))
    rw [aP _ _ (bOy hj hmj ho hmk hji)]
    exact h7 j oj hj hmj fun h => hSj ((hS' j).2 (.inr h))
   ·intro j hj
    rcases hEarly j hj with rfl | hj'
    ·refine ⟨by simp [bR], by simp; exact h2.sz.1, ?_, arr, t, cs, ?_, m2.mono hext, m3⟩
     ·simp only [if_true]
      intro hx
      have := h2.sz.2 _ (.inl hx)
      omega
     ·simp only [if_true]
      show (w.heap.push _)[w.heap.size]? = _
      simp
    ·have hM := h8 j hj'
     obtain ⟨arr', t', cs', r1, r2, r3⟩ := hM.row
     have hji := hjne j hj'
     refine ⟨?_, by simp [hji]; exact hM.low, by simp [hji]; exact hM.ex, arr', t', cs', ?_, r2.mono hext, r3⟩
     ·simp only [hji, if_false]; exact hext _ _ hM.name
     ·simp only [hji, if_false]
      rw [Below.heap_alloc _ _ _ (hRlt j hj')]
      exact r1
   ·intro j j' hj hj' he
    rcases hEarly j hj with rfl | hj1
    ·rcases hEarly j' hj' with rfl | hj1'
     ·rfl
     ·simp only [if_true, hjne j' hj1', if_false] at he
      have := hRlt j' hj1'
      omega
    ·rcases hEarly j' hj' with rfl | hj1'
     ·simp only [if_true, hjne j hj1, if_false] at he
      have := hRlt j hj1
      omega
     ·simp only [hjne j hj1, hjne j' hj1', if_false] at he
      exact h9 j j' hj1 hj1' he
  ·
   have hstep : ∃ q1 q2, q ≤ q1 ∧ q1 ≤ ops.size ∧ q2 ≤ ops.size ∧ q1 ≤ q2 ∧ bLf C ops q2 ∧ HR (GX G N C ops listed R q1) ρ' (Hh q1) w ∧
    cU C rec ops o (TS ops V (E 0) listed ops.size) (Hh q1) = some (V i, Hh q2) ∧
    (∀ j oj, ops[j]? = some oj → bP C.P oj.op = .acts → (j < q2 ↔ S (listed.setIfInBounds i true) j)) ∧
    (∀ j, iS C ops (listed.setIfInBounds i true) q2 j → iS C ops listed q1 j) := by
    rw [show cU C rec ops o (TS ops V (E 0) listed ops.size) = cU C rec ops o (E i) from funext fun h => aEr hlook]
    by_cases ha : bP C.P o.op = .acts
    ·have hqi : q ≤ i := by
      rcases Nat.lt_or_ge i q with h | h
      ·exact absurd ((hgap i o ho ha).1 h) hnS
      ·exact h
     refine ⟨i, i + 1, hqi, by omega, by omega, by omega, .inr ⟨i, o, ho, ha, rfl⟩, ?_, hst.step hmk, fun j oj hj haj => ?_, ?_⟩
     ·refine aDu (G := G) T h8 h9 i hqi (by omega) (fun j oj hj hqj hji => ⟨fun haj => ?_, fun hmj => ?_⟩) h2
      ·rcases (dL T.ok ho).2.2 j oj hji hj with h | ⟨_, h⟩
       ·have := (hgap j oj hj haj).2 (hpre j h); omega
       ·exact absurd ⟨.inl haj, ha⟩ h
      ·rcases (dL T.ok ho).2.2 j oj hji hj with h | ⟨_, h⟩
       ·exact hpre j h
       ·exact absurd ⟨.inr hmj, ha⟩ h
     ·rw [hS' j]
      constructor
      ·intro hlt'
       by_cases e : j = i
       ·exact .inl e
       ·right
        rcases (dL T.ok ho).2.2 j oj (by omega) hj with h | ⟨_, h⟩
        ·exact hpre j h
        ·exact absurd ⟨.inl haj, ha⟩ h
      ·rintro (h | h)
       ·omega
       ·rcases Nat.lt_or_ge i j with hij | hij
        ·rcases (dL T.ok hj).2.2 i o hij ho with h' | ⟨_, h'⟩
         ·exact absurd (hdown i j h' h) hnS
         ·exact absurd ⟨.inl ha, haj⟩ h'
        ·omega
     ·rintro j ⟨oj, e1, e2, e3, e4⟩
      rcases (hS' j).1 e3 with e | e
      ·omega
      ·exact ⟨oj, e1, e2, e, by omega⟩
    ·refine ⟨q, q, Nat.le_refl _, hq, hq, Nat.le_refl _, hcand, h2, T.value ho ha hmk hcand hgap hnS hdown hpre, fun j oj hj haj => ?_, ?_⟩
     ·rw [hS' j, hgap j oj hj haj]
      constructor
      ·exact .inr
      ·rintro (h | h)
       ·subst h; rw [ho] at hj; cases hj; exact absurd haj ha
       ·exact h
     ·rintro j ⟨oj, e1, e2, e3, e4⟩
      rcases (hS' j).1 e3 with e | e
      ·subst e; rw [ho] at e1; cases e1; exact absurd e2 hmk
      ·exact ⟨oj, e1, e2, e, e4⟩
   obtain ⟨q1, q2, k1, k2, k2', k12, k3, k4, k5, k6, k7⟩ := hstep
   refine aMk (aJe K k4 h3 k5) rfl ho k4 fun ρ2 w2 v2 e1 e2 e3 e4 => ?_
   have hEq : ∀ j, iS C ops listed q1 j → iS C ops listed q j := by
    rintro j ⟨oj, f1, f2, f3, f4⟩
    exact ⟨oj, f1, f2, f3, by omega⟩
   refine ih _ _ _ ⟨by simpa using hsz, hdown', q2, k2', k3, k6, ρ2, R, ?_, ?_, hTS _ _ e1.ext e2, ?_, by rw [tY]; exact h5, by rw [nT]; exact h6, ?_, ?_, ?_⟩ hcount
   ·refine h1.trans ⟨e1.ext, fun b L hb => (e1.new b L hb).imp id fun h => ?_⟩
    simp only [GX] at h
    omega
   ·refine e3.weak rfl ?_ (Nat.le_refl _) rfl
    rintro k (hk | ⟨j, hj, hjk⟩)
    ·exact .inl hk
    ·exact .inr ⟨j, k7 j hj, hjk⟩
   ·exact h4.trans ⟨e4.low, fun k hk => e4.ex k (.inl hk)⟩
   ·intro j oj hj hmj hSj
    have hn := h7 j oj hj hmj fun h => hSj ((hS' j).2 (.inr h))
    cases hr : ρ2 (idp C ops p0 j) with
    | none => rfl
    | some L =>
     rcases e1.new _ _ hr with h | h
     ·rw [hn] at h; cases h
     ·have := aZn (p0 := p0) hj hmj
      simp only [GX] at h
      omega
   ·intro j hj
    have hj1 := k7 j hj
    have hM := h8 j (hEq j hj1)
    obtain ⟨arr', t', cs', r1, r2, r3⟩ := hM.row
    exact ⟨e1.ext _ _ hM.name, hM.low, hM.ex, arr', t', cs', by rw [e4.ex _ (.inr ⟨j, hj1, rfl⟩)]; exact r1, r2.mono e1.ext, r3⟩
   ·intro j j' hj hj' he
    exact h9 j j' (hEq j (k7 j hj)) (hEq j' (k7 j' hj')) he
theorem bGs (K : OkC C rec) (hm : C.P.follows .mixedOrders = true) {id : Nat} {k : Dd.K} {r : DV × Hp} {env : fQ} {h : Hp} {ρ : Ren} {a : Act} {w : World} {Q : Exit → Act → World → Prop}
 (hok : nK C.P ops = true) (hp : aRw C rec nt ops k env h = some r) (H : HR G ρ h w) (he : EnvR ρ env a) (hnt : nt ≤ a.tmps.size) (hd : a.defers = [])
 (hQ : ∀ ρ' env' h' a' w', Ex G ρ ρ' → HR G ρ' h' w' → EnvR ρ' env' a' → Kp G w w' → nt ≤ a'.tmps.size → a'.defers = [] → k env' h' = some r → Q .normal a' w') :
 (Code.region id ops true).wp C.P Q a w := by
 obtain ⟨E, Hh, V, e1, e2, e3, e4⟩ := qT (p0 := h.next) ops.toList 0 0 false [] _ env _ r hp (by simp) (fun _ => ⟨_, _, rfl⟩)
 simp only [Nat.zero_add, Array.length_toList, Nat.sub_zero] at e3 e4
 have T : Tr1 C rec ops nt h.next E Hh V := ⟨hok, fun p o ho => by
  have := (e4 p o (Nat.zero_le _) (by
   rcases Nat.lt_or_ge p ops.size with h | h
   ·exact h
   ·simp [Array.getElem?_eq_none h] at ho) ho).1
  rw [← e2] at this
  exact this⟩
 obtain ⟨n1, n2⟩ := xA (cE C.P ops.toList) h
 have hNN : (gT (cE C.P ops.toList) h).next.toNat = h.next.toNat + cE C.P ops.toList := by rw [n1, dZ]
 refine wp_region_any hm (aRu (G := G) K T rfl H.nx (ρ := ρ) (w0 := w) (fun ρ' a' w' h1 h2 h3 h4 h5 h6 => hQ ρ' _ _ a' w' h1 h2 h3 h4 h5 h6 e3) ops.size _ a _ ?_ ?_)
 ·have hno : ∀ j, ¬ S (Array.replicate ops.size false) j := by
   intro j hj
   unfold S at hj
   simp [Array.getElem?_replicate] at hj
   split at hj <;> simp at hj
  have hnoE : ∀ j, ¬ iS C ops (Array.replicate ops.size false) 0 j := by
   rintro j ⟨oj, _, _, h3, _⟩
   exact hno j h3
  refine ⟨by simp, fun j x _ hx => absurd hx (hno x), 0, Nat.zero_le _, .inl rfl, fun j oj hj ha => ⟨fun h => by omega, fun h => absurd h (hno j)⟩, ρ, fun _ => 0, Ex.refl G ρ, ?_, ?_, ?_, hnt, hd, ?_, fun j hj => absurd hj (hnoE j), fun j j' hj => absurd hj (hnoE j)⟩
  ·rw [e2]
   have := (H.reserve (cE C.P ops.toList)).congr (w' := { w with drawn := w.drawn + 1 }) rfl
   rw [hNN] at this
   refine this.weak rfl ?_ (Nat.le_refl _) rfl
   rintro k (hk | ⟨j, hj, _⟩)
   ·exact hk
   ·exact absurd hj (hnoE j)
  ·have hT : ∀ p, TS ops V (E 0) (Array.replicate ops.size false) p = E 0 := by
    intro p
    induction p with
    | zero => rfl
    | succ p ih =>
     simp only [TS, ih]
     split
     ·rename_i o ho
      rw [if_neg (show ¬ (Array.replicate ops.size false).getD p false = true from hno p)]
     ·rfl
   intro t
   rw [hT, e1]
   exact he t
  ·exact (Kp.refl G w).drew
  ·intro j oj hj hmj _
   cases hr : ρ (idp C ops h.next j) with
   | none => rfl
   | some L =>
    have h1 := H.lt _ _ hr
    unfold idp at h1
    rw [dZ] at h1
    omega
 ·have := List.length_filter_le (fun i => !(Array.replicate ops.size false).getD i false) (List.range ops.size)
  simpa using this
end
end Go.Dd

namespace Go.Dd
open Go.RowKit (Below)
section
variable {C : Cfg} {G : Gd} {rec : FuncId → List DV → Hp → aG} {nt n : Nat}
def St (G : Gd) (nt : Nat) (ρ : Ren) (w0 : World) (k : K) (r : DV × Hp) (a : Act) (w : World) : Prop :=
 ∃ ρ' env h, Ex G ρ ρ' ∧ HR G ρ' h w ∧ EnvR ρ' env a ∧ Kp G w0 w ∧ nt ≤ a.tmps.size ∧ a.defers = [] ∧ k env h = some r
def QQ (G : Gd) (nt : Nat) (ρ : Ren) (w0 : World) (X : Nat → K) (kr k : K) (r : DV × Hp) : Exit → Act → World → Prop
 | .normal, a, w => St G nt ρ w0 k r a w
 | .exit id, a, w => St G nt ρ w0 (X id) r a w
 | .ret, a, w => St G nt ρ w0 kr r a w
 | _, _, _ => False
theorem bDo (K : OkC C rec) (hm : C.P.follows .mixedOrders = true) {ρ : Ren} {w0 : World} {r : DV × Hp} : ∀ (c : Code) (X : Nat → Dd.K) (kr k : Dd.K) (a : Act) (w : World),
 St G nt ρ w0 (aU C rec nt n c X kr k) r a w → c.wp C.P (QQ G nt ρ w0 X kr k r) a w := by
 intro c
 induction c with
 | skip => intro X kr k a w h; exact wp_skip h
 | region id ops dr =>
  intro X kr k a w h
  obtain ⟨ρ', env, hp, h1, h2, h3, h4, h5, h6, h7⟩ := h
  change (Bool.rec (motive := fun _ => Dd.K) (bHh C rec nt ops ops.toList k) (Bool.rec (motive := fun _ => Dd.K) oY (aRw C rec nt ops k) (nK C.P ops)) dr) env hp = some r at h7
  cases dr with
  | true =>
   dsimp only at h7
   cases hok : nK C.P ops with
   | false => rw [hok] at h7; cases h7
   | true =>
    rw [hok] at h7
    exact bGs K hm hok h7 h2 h3 h5 h6 fun ρ2 env2 h2' a2 w2 e1 e2 e3 e4 e5 e6 e7 => ⟨ρ2, env2, h2', h1.trans e1, e2, e3, h4.trans e4, e5, e6, e7⟩
  | false =>
   simp only [cond_false] at h7
   obtain ⟨env', h', hr, hk⟩ := aCs ops.toList k env hp r h7
   refine wp_region ?_
   have := aUv (Q := QQ G nt ρ w0 X kr k r) K ops.toList 0 ρ' env hp a w (by simp) hr h2 h3 h5 h6 fun ρ2 a2 w2 e1 e2 e3 e4 e5 e6 => ⟨ρ2, env', h', h1.trans e1, e2, e3, h4.trans e4, e5, e6, hk⟩
   rw [List.range_eq_range']
   simpa using this
 | seq x y ihx ihy =>
  intro X kr k a w h
  refine wp_seq (wp_mono (ihx X kr (aU C rec nt n y X kr k) a w h) fun e a' w' hq => ?_)
  cases e with
  | normal => exact ihy X kr k a' w' hq
  | exit id => exact hq
  | ret => exact hq
  | goto l => exact hq
  | panic ch => exact hq
  | outgrown => exact hq
 | cond c x y ihx ihy =>
  intro X kr k a w h
  obtain ⟨ρ', env, hp, h1, h2, h3, h4, h5, h6, h7⟩ := h
  change cB (opr env c) (aU C rec nt n x X kr k env hp) (aU C rec nt n y X kr k env hp) = some r at h7
  have hc := bF h3 c
  unfold cB at h7
  split at h7 <;> (try (cases h7; done))
  ·rename_i hcb
   rw [hcb] at hc
   generalize hcv : a.eval c = cv at hc
   cases hc
   exact wp_cond_true hcv (ihx X kr k a w ⟨ρ', env, hp, h1, h2, h3, h4, h5, h6, h7⟩)
  ·rename_i hcb
   rw [hcb] at hc
   generalize hcv : a.eval c = cv at hc
   cases hc
   exact wp_cond_false hcv (ihy X kr k a w ⟨ρ', env, hp, h1, h2, h3, h4, h5, h6, h7⟩)
 | block id x ih =>
  intro X kr k a w h
  refine wp_block (wp_mono (ih (fun j => bif Nat.beq j id then k else X j) kr k a w h) fun e a' w' hq => ?_)
  cases e with
  | normal => exact hq
  | exit id' =>
   simp only [QQ] at hq
   simp only [Exit.inBlock, QQ]
   split
   ·rename_i e
    subst e
    have hb : Nat.beq id' id' = true := Nat.beq_refl id'
    rw [hb] at hq
    exact hq
   ·rename_i e
    have : Nat.beq id' id = false := by
     cases hb : Nat.beq id' id with
     | false => rfl
     | true => exact absurd (Nat.eq_of_beq_eq_true hb) e
    rw [this] at hq
    exact hq
  | ret => exact hq
  | goto l => exact hq
  | panic ch => exact hq
  | outgrown => exact hq
 | loop x ih =>
  intro X kr k a w h
  have key : ∀ (m : Nat) (a : Act) (w : World), St G nt ρ w0 (aN (fun kk => aU C rec nt n x X kr kk) m) r a w → Code.rounds C.P x (QQ G nt ρ w0 X kr k r) m a w := by
   intro m
   induction m with
   | zero =>
    rintro a w ⟨ρ', env, hp, h1, h2, h3, h4, h5, h6, h7⟩
    cases h7
   | succ m ihm =>
    intro a w hs
    rw [rounds_succ]
    refine wp_mono (ih X kr (aN (fun kk => aU C rec nt n x X kr kk) m) a w hs) fun e a' w' hq => ?_
    cases e with
    | normal => exact ihm a' w' hq
    | exit id => exact hq
    | ret => exact hq
    | goto l => exact hq
    | panic ch => exact hq
    | outgrown => exact hq
  exact wp_loop_rounds n (key n a w h)
 | rangeFunc f ps x y ihx ihy =>
  rintro X kr k a w ⟨ρ', env, hp, h1, h2, h3, h4, h5, h6, h7⟩
  cases h7
 | exit id => intro X kr k a w h; exact wp_exit h
 | scope x ih =>
  intro X kr k a w h
  refine wp_scope_straight (wp_mono (ih X kr k a w h) fun e a' w' hq => ?_)
  cases e with
  | goto l => exact hq
  | normal => exact hq
  | exit id => exact hq
  | ret => exact hq
  | panic ch => exact hq
  | outgrown => exact hq
 | label l => intro X kr k a w h; exact wp_label h
 | goto l =>
  rintro X kr k a w ⟨ρ', env, hp, h1, h2, h3, h4, h5, h6, h7⟩
  cases h7
 | ret => intro X kr k a w h; exact wp_ret h
 | refuse why =>
  rintro X kr k a w ⟨ρ', env, hp, h1, h2, h3, h4, h5, h6, h7⟩
  cases h7
def aAx (tmps : Array Value) (rv : ResultVar) : Sem Value :=
 match rv with
 | .tmp t => pure (tmps.getD t undef)
 | .cell q t => do loadVar t (← asAddr (tmps.getD q undef))
theorem sH (fn : Func) (tmps : Array Value) : results fn tmps = (do
 let vs ← fn.results.mapM (aAx tmps)
 pure (if h : vs.size = 1 then vs[0] else .tuple vs)) := by
 unfold results
 congr 2
theorem aQw {ρ : Ren} {w : World} {h : Hp} {x : DV} {x' : Value} {t : TypeId} {k : DV → aG} {r : DV × Hp} (H : HR G ρ h w) (hx : VR ρ x x') (hr : aVq C t x h k = some r) :
 ∃ v v', (do loadVar t (← asAddr x') : Sem Value).run C.P w = .ok v' w ∧ VR ρ v v' ∧ k v = some r := by
 unfold aVq at hr
 split at hr <;> (try (cases hr; done))
 rename_i d i ht hi
 obtain ⟨v, h', hl, hk⟩ := kN hr
 have hconv : ∀ b o, x = .p b o → (Instr.loadAt t x') = (do loadVar t (← asAddr x')) := by
  rintro b o rfl
  cases hx
  simp [Instr.loadAt, Instr.sureAddr, asAddr]
 cases hd : kP d with
 | true =>
  rw [hd] at hl
  simp only [cond_true] at hl
  unfold aD at hl
  split at hl <;> (try (cases hl; done))
  rename_i b o
  split at hl <;> (try (cases hl; done))
  rename_i cs hc
  simp only [bB, bW] at hl
  obtain ⟨rfl, _⟩ := hl
  cases hx with
  | p _ _ L hL =>
   obtain ⟨c1, c2, _, vs, c4, c5, c6⟩ := fR H hc hL
   have hrun := eK (P := C.P) vs rfl c6
   rw [c5] at hrun
   refine ⟨_, .agg vs.toArray, ?_, .a cs vs.toArray (by simpa using c4), hk⟩
   simp only [asAddr, Sem.run_bind, Sem.run_pure, Result.andThen_ok, loadVar, rA ht, hd, if_true, rS hi, hrun]
 | false =>
  rw [hd] at hl
  simp only [cond_false] at hl
  unfold aB at hl
  split at hl <;> (try (cases hl; done))
  rename_i b o
  split at hl <;> (try (cases hl; done))
  rename_i u' hc
  simp only [bB, bW] at hl
  obtain ⟨rfl, _⟩ := hl
  cases hx with
  | p _ _ L hL =>
   unfold aEe lT at hc
   split at hc <;> (try (cases hc; done))
   rename_i l hl
   split at hl <;> (try (cases hl; done))
   rename_i kd l0 hb
   simp only [bB] at hl
   subst hl
   split at hc <;> (try (cases hc; done))
   rename_i u0 hu
   split at hc <;> (try (cases hc; done))
   rename_i ho
   simp only [bB] at hc
   subst hc
   obtain ⟨v', h5, h6⟩ := H.cell b kd l0 L o u0 hb hL hu ho
   refine ⟨_, v', ?_, h6, hk⟩
   simp only [asAddr, Sem.run_bind, Sem.run_pure, Result.andThen_ok, loadVar, rA ht, hd, Bool.false_eq_true, if_false, run_load, h5]
theorem uD {ρ : Ren} {w : World} {h : Hp} {env : fQ} {a : Act} (H : HR G ρ h w) (he : EnvR ρ env a) {r : DV × Hp} : ∀ (l : List ResultVar) (k : List DV → aG), bHy C env h l k = some r →
 ∃ vs vs', (l.mapM (aAx a.tmps)).run C.P w = .ok vs' w ∧ VRs ρ vs vs' ∧ k vs = some r
 | [], k, hr => ⟨[], [], by simp, .nil, hr⟩
 | .tmp t :: l, k, hr => by
  obtain ⟨vs, vs', h1, h2, h3⟩ := uD H he l (fun vs => k (env t :: vs)) hr
  refine ⟨env t :: vs, a.tmps.getD t undef :: vs', ?_, .cons _ _ _ _ (he t) h2, h3⟩
  simp only [List.mapM_cons, Sem.run_bind, aAx, Result.andThen_ok, h1, Sem.run_pure]
 | .cell q t :: l, k, hr => by
  obtain ⟨v, v', h1, h2, h3⟩ := aQw (x' := a.tmps.getD q undef) H (he q) hr
  obtain ⟨vs, vs', h4, h5, h6⟩ := uD H he l (fun vs => k (v :: vs)) h3
  refine ⟨v :: vs, v' :: vs', ?_, .cons _ _ _ _ h2 h5, h6⟩
  simp only [List.mapM_cons, Sem.run_bind, aAx] at h1 ⊢
  simp only [h1, Result.andThen_ok, h4, Sem.run_pure]
theorem bFk {ρ : Ren} {w : World} {h h1 : Hp} {env : fQ} {a : Act} (H : HR G ρ h w) (he : EnvR ρ env a) {fn : Func} {v : DV} (hr : bT C fn env h = some (v, h1)) :
 h1 = h ∧ ∃ v', (results fn a.tmps).run C.P w = .ok v' w ∧ VR ρ v v' := by
 obtain ⟨us, vs', h2, h3, hk⟩ := uD H he _ _ hr
 unfold bJm at hk
 split at hk
 ·rename_i u
  simp only [bB, bW] at hk
  obtain ⟨rfl, rfl⟩ := hk
  cases h3 with
  | cons _ v' _ l' hv hn =>
   cases hn
   refine ⟨rfl, v', ?_, hv⟩
   rw [sH, Array.mapM_eq_mapM_toList]
   simp only [Sem.run_bind, Sem.run_map, h2, Result.andThen_ok, Sem.run_pure]
   simp
 ·rename_i hne
  simp only [bB, bW] at hk
  obtain ⟨rfl, rfl⟩ := hk
  have hl := h3.length
  have hne1 : vs'.length ≠ 1 := by
   intro e
   rw [e] at hl
   match us, hl with
   | [x], _ => exact hne x rfl
  refine ⟨rfl, .tuple vs'.toArray, ?_, .t _ _ (by simpa using h3)⟩
  rw [sH, Array.mapM_eq_mapM_toList]
  simp only [Sem.run_bind, Sem.run_map, h2, Result.andThen_ok, Sem.run_pure]
  rw [dif_neg (by simpa using hne1)]
structure POk (P : Program) : Prop where
 mixed : P.follows .mixedOrders = true
 names : ∀ (f : Nat) (fn : Func), P.funcs[f]? = some fn → (fn.name == "runtime.NumGoroutine") = false
theorem aJx (K : OkC C rec) (hP : POk C.P) (n : Nat) (f : FuncId) : pL C.P G f (aM C rec n f) := by
 intro args h v h1 hr ρ w args' H hargs
 unfold aM at hr
 split at hr <;> (try (cases hr; done))
 rename_i fn hf
 split at hr <;> (try (cases hr; done))
 rename_i c hb
 refine .inl ⟨?_, ?_⟩
 ·unfold callFunc
  have hn : ¬ fn.name = "runtime.NumGoroutine" := by simpa using hP.names f fn hf
  simp [hf, hn, hb]
 ·refine calls_of_wp hf hb ?_
  have he : EnvR ρ (uX args) { tmps := args' ++ Array.replicate (fn.ntmps - args'.size) undef, defers := [] } := by
   intro t
   unfold uX
   have hlen := hargs.length
   simp only [Array.length_toList] at hlen
   by_cases ht : t < args.length
   ·have hg : args[t]? = some args[t] := by simp [ht]
    obtain ⟨v', h2, h3⟩ := hargs.get t _ hg
    simp only [Array.getElem?_toList] at h2
    rw [show args.getD t dK = args[t] by simp [List.getD, hg]]
    have : (args' ++ Array.replicate (fn.ntmps - args'.size) undef).getD t undef = v' := by
     simp [Array.getElem?_append_left (show t < args'.size by omega), h2]
    rw [this]
    exact h3
   ·have hg : args.getD t dK = dK := by simp [List.getD, List.getElem?_eq_none (Nat.le_of_not_lt ht)]
    rw [hg]
    have : (args' ++ Array.replicate (fn.ntmps - args'.size) undef).getD t undef = undef := by
     rw [Array.getD_eq_getD_getElem?, Array.getElem?_append_right (by omega)]
     simp only [Array.getElem?_replicate]
     split <;> rfl
    rw [this]
    exact .t [] #[] .nil
  have hst : St G fn.ntmps ρ w (aU C rec fn.ntmps n c (fun _ => oY) (bT C fn) (bT C fn)) (v, h1) { tmps := args' ++ Array.replicate (fn.ntmps - args'.size) undef, defers := [] } w :=
   ⟨ρ, uX args, h, Ex.refl G ρ, H, he, Kp.refl G w, by simp; omega, rfl, hr⟩
  refine wp_mono (bDo K hP.mixed c _ _ _ _ _ hst) fun e a' w' hq => ?_
  have hfin : St G fn.ntmps ρ w (bT C fn) (v, h1) a' w' → a'.defers = [] ∧ ∃ v', (results fn a'.tmps).run C.P w' = .ok v' w' ∧ aXb G ρ w v h1 (.returned v') w' := by
   rintro ⟨ρ', env, h', e1, e2, e3, e4, e5, e6, e7⟩
   obtain ⟨rfl, v', r1, r2⟩ := bFk e2 e3 e7
   exact ⟨e6, v', r1, ρ', v', rfl, e1, r2, e2, e4⟩
  cases e with
  | normal => exact hfin hq
  | ret => exact hfin hq
  | exit id =>
   obtain ⟨ρ', env, h', e1, e2, e3, e4, e5, e6, e7⟩ := hq
   cases e7
  | goto l => exact hq.elim
  | panic ch => exact hq.elim
  | outgrown => exact hq.elim
theorem aFp (hP : POk C.P) (hI : ∀ G g F, C.I g = some F → pL C.P G g F) : ∀ (n : Nat) (G : Gd) (f : FuncId), pL C.P G f (fnD C n f)
 | 0, G, f => fun args h v h1 hr => by cases hr
 | n + 1, G, f => aJx (rec := fnD C n) ⟨hI, fun G g => aFp hP hI n G g⟩ hP n f
end
end Go.Dd

namespace Go.Dd
open Go.Proofs
def cf (f : Func) : Code := match f.body with
 | some c => c
 | none => .skip
def cL : Code → Code
 | .seq a _ => a
 | .cond _ a _ => a
 | .block _ a => a
 | .loop a => a
 | .scope a => a
 | c => c
def cR : Code → Code
 | .seq _ b => b
 | .cond _ _ b => b
 | c => c
def cC : Code → Operand
 | .cond c _ _ => c
 | _ => .const .nilFunc
def x0 : Nat → K := fun _ => oY
def xs (X : Nat → K) (i : Nat) (k : K) : Nat → K := fun j => bif Nat.beq j i then k else X j
def cX (c : Nat) : List Nat → Nat → Int
 | [], _ => .negSucc 0
 | x :: l, i => bif Nat.beq x c then .ofNat i else cX c l (i + 1)
def aOj (args : List DV) (h : Hp) : aG :=
 match args with
 | [.s l, .i .u8 (.ofNat c)] => bif Nat.blt c 256 then some (.i .i64 (cX c l 0), h) else none
 | _ => none
def aF (sep : List Nat) : List (List Nat) → List Nat
 | [] => []
 | [x] => x
 | x :: y :: l => x ++ (sep ++ aF sep (y :: l))
def mL : List DV → Option (List (List Nat))
 | [] => some []
 | .s x :: l => (mL l).map (x :: ·)
 | _ :: _ => none
def aVz (x : DV) : Bool := match x with
 | .l _ _ n c => Nat.ble n c
 | _ => true
noncomputable def kK (args : List DV) (h : Hp) : aG :=
 match args with
 | [.s _, _] => none
 | [x, .s sep] => match nC 1 x h with
  | some (n, cells) => match mL cells with
   | some l => bif Nat.ble (aF sep l).length 100000000000 then (bif Nat.ble n 100000000000 && aVz x then some (.s (aF sep l), h) else none) else none
   | none => none
  | none => none
 | _ => none
def cH (c : Nat) : List Nat → List Nat → List (List Nat)
 | acc, [] => [acc]
 | acc, x :: l => bif Nat.beq x c then (acc ++ [x]) :: cH c [] l else cH c (acc ++ [x]) l
noncomputable def qB (args : List DV) (h : Hp) : aG :=
 match args with
 | [.s s, .s [c], .i .i64 (.ofNat 1), .i .i64 (.negSucc 0)] => bif Nat.blt c 256 then (bif Nat.ble s.length 4000000000 then (fun l => some (.l h.next 0 l.length l.length, ⟨h.next.succ, Tr.set (.row .ex (l.map DV.s)) h.next h.bl⟩)) (cH c [] s) else none) else none
 | _ => none
def dC (c : Nat) (new : List Nat) : List Nat → List Nat
 | [] => []
 | x :: l => bif Nat.beq x c then new ++ dC c new l else x :: dC c new l
def xC (args : List DV) (h : Hp) : aG :=
 match args with
 | [.s s, .s [c], .s new] => bif Nat.blt c 256 then (bif Nat.ble s.length 4000000000 then (bif Nat.ble new.length 1000 then some (.s (dC c new s), h) else none) else none) else none
 | _ => none
def eR : Nat → Nat → List Nat → List Nat
 | 0, _, acc => acc
 | f + 1, n, acc => bif Nat.ble 10 n then eR f (Nat.div n 10) (Nat.add 48 (Nat.mod n 10) :: acc) else Nat.add 48 n :: acc
def fN : Int → List Nat
 | .ofNat n => eR 20 n []
 | .negSucc n => 45 :: eR 20 (Nat.succ n) []
def tJ (args : List DV) (h : Hp) : aG :=
 match args with
 | [.i .i64 n] => bif decide (-9223372036854775808 ≤ n) && decide (n ≤ 9223372036854775807) then some (.s (fN n), h) else none
 | _ => none
noncomputable def CF : Cfg := ⟨Tryz.prog, fun g => bif Nat.beq g 117 then some aOj else bif Nat.beq g 30 then some kK else bif Nat.beq g 86 then some qB else bif Nat.beq g 60 then some xC else bif Nat.beq g 34 then some tJ else none⟩
abbrev RT := FuncId → List DV → Hp → aG
abbrev TT0 := Hp → aG
abbrev TT1 := DV → Hp → aG
abbrev mT := DV → DV → Hp → aG
abbrev iK := DV → DV → DV → Hp → aG
abbrev TT4 := DV → DV → DV → DV → Hp → aG
abbrev TT5 := DV → DV → DV → DV → DV → Hp → aG
abbrev TT6 := DV → DV → DV → DV → DV → DV → Hp → aG
abbrev TT7 := DV → DV → DV → DV → DV → DV → DV → Hp → aG
abbrev TT8 := DV → DV → DV → DV → DV → DV → DV → DV → Hp → aG
abbrev TT9 := DV → DV → DV → DV → DV → DV → DV → DV → DV → Hp → aG
abbrev bXc := DV → DV → DV → DV → DV → DV → DV → DV → DV → DV → Hp → aG
abbrev bYf := DV → DV → DV → DV → DV → DV → DV → DV → DV → DV → DV → Hp → aG
abbrev bWm := DV → DV → DV → DV → DV → DV → DV → DV → DV → DV → DV → DV → Hp → aG
abbrev bWt := DV → DV → DV → DV → DV → DV → DV → DV → DV → DV → DV → DV → DV → Hp → aG
abbrev bXs := DV → DV → DV → DV → DV → DV → DV → DV → DV → DV → DV → DV → DV → DV → Hp → aG
abbrev bXj := DV → DV → DV → DV → DV → DV → DV → DV → DV → DV → DV → DV → DV → DV → DV → Hp → aG
abbrev bWv := DV → DV → DV → DV → DV → DV → DV → DV → DV → DV → DV → DV → DV → DV → DV → DV → Hp → aG
abbrev bWy := DV → DV → DV → DV → DV → DV → DV → DV → DV → DV → DV → DV → DV → DV → DV → DV → DV → Hp → aG
abbrev bWj := DV → DV → DV → DV → DV → DV → DV → DV → DV → DV → DV → DV → DV → DV → DV → DV → DV → DV → Hp → aG
abbrev bXv := DV → DV → DV → DV → DV → DV → DV → DV → DV → DV → DV → DV → DV → DV → DV → DV → DV → DV → DV → Hp → aG
abbrev bWh := DV → DV → DV → DV → DV → DV → DV → DV → DV → DV → DV → DV → DV → DV → DV → DV → DV → DV → DV → DV → Hp → aG
abbrev K0 (f : TT0) : K := fun env h => f h
abbrev K1 (f : TT1) (a0 : Nat) : K := fun env h => f (env a0) h
abbrev K2 (f : mT) (a0 a1 : Nat) : K := fun env h => f (env a0) (env a1) h
abbrev K3 (f : iK) (a0 a1 a2 : Nat) : K := fun env h => f (env a0) (env a1) (env a2) h
abbrev K4 (f : TT4) (a0 a1 a2 a3 : Nat) : K := fun env h => f (env a0) (env a1) (env a2) (env a3) h
abbrev K5 (f : TT5) (a0 a1 a2 a3 a4 : Nat) : K := fun env h => f (env a0) (env a1) (env a2) (env a3) (env a4) h
abbrev K6 (f : TT6) (a0 a1 a2 a3 a4 a5 : Nat) : K := fun env h => f (env a0) (env a1) (env a2) (env a3) (env a4) (env a5) h
abbrev K7 (f : TT7) (a0 a1 a2 a3 a4 a5 a6 : Nat) : K := fun env h => f (env a0) (env a1) (env a2) (env a3) (env a4) (env a5) (env a6) h
abbrev K8 (f : TT8) (a0 a1 a2 a3 a4 a5 a6 a7 : Nat) : K := fun env h => f (env a0) (env a1) (env a2) (env a3) (env a4) (env a5) (env a6) (env a7) h
abbrev K9 (f : TT9) (a0 a1 a2 a3 a4 a5 a6 a7 a8 : Nat) : K := fun env h => f (env a0) (env a1) (env a2) (env a3) (env a4) (env a5) (env a6) (env a7) (env a8) h
abbrev K10 (f : bXc) (a0 a1 a2 a3 a4 a5 a6 a7 a8 a9 : Nat) : K := fun env h => f (env a0) (env a1) (env a2) (env a3) (env a4) (env a5) (env a6) (env a7) (env a8) (env a9) h
abbrev K11 (f : bYf) (a0 a1 a2 a3 a4 a5 a6 a7 a8 a9 a10 : Nat) : K := fun env h => f (env a0) (env a1) (env a2) (env a3) (env a4) (env a5) (env a6) (env a7) (env a8) (env a9) (env a10) h
abbrev K12 (f : bWm) (a0 a1 a2 a3 a4 a5 a6 a7 a8 a9 a10 a11 : Nat) : K := fun env h => f (env a0) (env a1) (env a2) (env a3) (env a4) (env a5) (env a6) (env a7) (env a8) (env a9) (env a10) (env a11) h
abbrev K13 (f : bWt) (a0 a1 a2 a3 a4 a5 a6 a7 a8 a9 a10 a11 a12 : Nat) : K := fun env h => f (env a0) (env a1) (env a2) (env a3) (env a4) (env a5) (env a6) (env a7) (env a8) (env a9) (env a10) (env a11) (env a12) h
abbrev K14 (f : bXs) (a0 a1 a2 a3 a4 a5 a6 a7 a8 a9 a10 a11 a12 a13 : Nat) : K := fun env h => f (env a0) (env a1) (env a2) (env a3) (env a4) (env a5) (env a6) (env a7) (env a8) (env a9) (env a10) (env a11) (env a12) (env a13) h
abbrev K15 (f : bXj) (a0 a1 a2 a3 a4 a5 a6 a7 a8 a9 a10 a11 a12 a13 a14 : Nat) : K := fun env h => f (env a0) (env a1) (env a2) (env a3) (env a4) (env a5) (env a6) (env a7) (env a8) (env a9) (env a10) (env a11) (env a12) (env a13) (env a14) h
abbrev K16 (f : bWv) (a0 a1 a2 a3 a4 a5 a6 a7 a8 a9 a10 a11 a12 a13 a14 a15 : Nat) : K := fun env h => f (env a0) (env a1) (env a2) (env a3) (env a4) (env a5) (env a6) (env a7) (env a8) (env a9) (env a10) (env a11) (env a12) (env a13) (env a14) (env a15) h
abbrev K17 (f : bWy) (a0 a1 a2 a3 a4 a5 a6 a7 a8 a9 a10 a11 a12 a13 a14 a15 a16 : Nat) : K := fun env h => f (env a0) (env a1) (env a2) (env a3) (env a4) (env a5) (env a6) (env a7) (env a8) (env a9) (env a10) (env a11) (env a12) (env a13) (env a14) (env a15) (env a16) h
abbrev K18 (f : bWj) (a0 a1 a2 a3 a4 a5 a6 a7 a8 a9 a10 a11 a12 a13 a14 a15 a16 a17 : Nat) : K := fun env h => f (env a0) (env a1) (env a2) (env a3) (env a4) (env a5) (env a6) (env a7) (env a8) (env a9) (env a10) (env a11) (env a12) (env a13) (env a14) (env a15) (env a16) (env a17) h
abbrev K19 (f : bXv) (a0 a1 a2 a3 a4 a5 a6 a7 a8 a9 a10 a11 a12 a13 a14 a15 a16 a17 a18 : Nat) : K := fun env h => f (env a0) (env a1) (env a2) (env a3) (env a4) (env a5) (env a6) (env a7) (env a8) (env a9) (env a10) (env a11) (env a12) (env a13) (env a14) (env a15) (env a16) (env a17) (env a18) h
abbrev K20 (f : bWh) (a0 a1 a2 a3 a4 a5 a6 a7 a8 a9 a10 a11 a12 a13 a14 a15 a16 a17 a18 a19 : Nat) : K := fun env h => f (env a0) (env a1) (env a2) (env a3) (env a4) (env a5) (env a6) (env a7) (env a8) (env a9) (env a10) (env a11) (env a12) (env a13) (env a14) (env a15) (env a16) (env a17) (env a18) (env a19) h
theorem fK {d s : K} (m : d = s) (args : List DV) (h : Hp) {a b : aG} (e1 : a = d (uX args) h) (e2 : s (uX args) h = b) : a = b :=
 e1.trans ((congrFun (congrFun m (uX args)) h).trans e2)
abbrev aJ (n : Nat) : DV := .i .i64 (Int.ofNat n)
abbrev fM : List DV := [(.i .i64 (Int.ofNat 0)), (.s []), (.i .i64 (Int.ofNat 0)), .l0, .l0, .l0]
abbrev aZ (args : List DV) (i : Nat) : DV := args.getD i dK
end Go.Dd

