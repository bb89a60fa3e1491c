/- Dd, part B: what a value of Dd stands for. -/
import Derived.Test.YtliejomdaookoaaDdxA
set_option linter.unusedSimpArgs false
set_option linter.constructorNameAsVariable false
set_option linter.unusedVariables false
namespace Go.Dd

/-! ### Positions and tries -/

theorem Pos.toNat_pos : ∀ p : Pos, 0 < p.toNat
  | .h => by simp [Pos.toNat]
  | .o p => by have := Pos.toNat_pos p; simp [Pos.toNat]; omega
  | .i p => by simp [Pos.toNat]

theorem Pos.toNat_succ : ∀ p : Pos, p.succ.toNat = p.toNat + 1
  | .h => rfl
  | .o p => rfl
  | .i p => by have := Pos.toNat_succ p; simp [Pos.succ_h, Pos.succ_o, Pos.succ_i, Pos.toNat, this]; omega

theorem Tr.get_set_same {α : Type} (x : α) : ∀ (p : Pos) (t : Tr α), (Tr.set x p t).get p = some x
  | .h, .e => rfl
  | .h, .n _ _ _ => rfl
  | .o p, .e => by simp [Tr.get_e', Tr.get_h, Tr.get_o, Tr.get_i, Tr.set_he, Tr.set_hn, Tr.set_oe, Tr.set_on, Tr.set_ie, Tr.set_in, Tr.get_set_same x p]
  | .o p, .n l _ _ => by simp [Tr.get_e', Tr.get_h, Tr.get_o, Tr.get_i, Tr.set_he, Tr.set_hn, Tr.set_oe, Tr.set_on, Tr.set_ie, Tr.set_in, Tr.get_set_same x p]
  | .i p, .e => by simp [Tr.get_e', Tr.get_h, Tr.get_o, Tr.get_i, Tr.set_he, Tr.set_hn, Tr.set_oe, Tr.set_on, Tr.set_ie, Tr.set_in, Tr.get_set_same x p]
  | .i p, .n _ _ r => by simp [Tr.get_e', Tr.get_h, Tr.get_o, Tr.get_i, Tr.set_he, Tr.set_hn, Tr.set_oe, Tr.set_on, Tr.set_ie, Tr.set_in, Tr.get_set_same x p]

theorem Tr.get_e {α : Type} (q : Pos) : (Tr.e : Tr α).get q = none := by cases q <;> rfl

theorem Tr.get_set_other {α : Type} (x : α) : ∀ (p q : Pos) (t : Tr α), q ≠ p → (Tr.set x p t).get q = t.get q
  | .h, .h, _, hn => absurd rfl hn
  | .h, .o q, .e, _ => by simp [Tr.get_e', Tr.get_h, Tr.get_o, Tr.get_i, Tr.set_he, Tr.set_hn, Tr.set_oe, Tr.set_on, Tr.set_ie, Tr.set_in, Tr.get_e]
  | .h, .i q, .e, _ => by simp [Tr.get_e', Tr.get_h, Tr.get_o, Tr.get_i, Tr.set_he, Tr.set_hn, Tr.set_oe, Tr.set_on, Tr.set_ie, Tr.set_in, Tr.get_e]
  | .h, .o q, .n _ _ _, _ => rfl
  | .h, .i q, .n _ _ _, _ => rfl
  | .o p, .h, .e, _ => rfl
  | .o p, .o q, .e, hn => by simp only [Tr.get_e', Tr.get_h, Tr.get_o, Tr.get_i, Tr.set_he, Tr.set_hn, Tr.set_oe, Tr.set_on, Tr.set_ie, Tr.set_in]; rw [Tr.get_set_other x p q _ (fun e => hn (by rw [e]))]; simp [Tr.get_e]
  | .o p, .i q, .e, _ => by simp [Tr.get_e', Tr.get_h, Tr.get_o, Tr.get_i, Tr.set_he, Tr.set_hn, Tr.set_oe, Tr.set_on, Tr.set_ie, Tr.set_in, Tr.get_e]
  | .o p, .h, .n _ _ _, _ => rfl
  | .o p, .o q, .n l _ _, hn => by simp only [Tr.get_e', Tr.get_h, Tr.get_o, Tr.get_i, Tr.set_he, Tr.set_hn, Tr.set_oe, Tr.set_on, Tr.set_ie, Tr.set_in]; exact Tr.get_set_other x p q l (fun e => hn (by rw [e]))
  | .o p, .i q, .n _ _ _, _ => rfl
  | .i p, .h, .e, _ => rfl
  | .i p, .i q, .e, hn => by simp only [Tr.get_e', Tr.get_h, Tr.get_o, Tr.get_i, Tr.set_he, Tr.set_hn, Tr.set_oe, Tr.set_on, Tr.set_ie, Tr.set_in]; rw [Tr.get_set_other x p q _ (fun e => hn (by rw [e]))]; simp [Tr.get_e]
  | .i p, .o q, .e, _ => by simp [Tr.get_e', Tr.get_h, Tr.get_o, Tr.get_i, Tr.set_he, Tr.set_hn, Tr.set_oe, Tr.set_on, Tr.set_ie, Tr.set_in, Tr.get_e]
  | .i p, .h, .n _ _ _, _ => rfl
  | .i p, .i q, .n _ _ r, hn => by simp only [Tr.get_e', Tr.get_h, Tr.get_o, Tr.get_i, Tr.set_he, Tr.set_hn, Tr.set_oe, Tr.set_on, Tr.set_ie, Tr.set_in]; exact Tr.get_set_other x p q r (fun e => hn (by rw [e]))
  | .i p, .o q, .n _ _ _, _ => rfl

theorem Tr.get_set {α : Type} (x : α) (p q : Pos) (t : Tr α) : (Tr.set x p t).get q = if q = p then some x else t.get q := by
  split
  · rename_i h; subst h; exact Tr.get_set_same x _ t
  · rename_i h; exact Tr.get_set_other x p q t h

/-! ### Values -/

structure Loc where
  bl : Nat
  of : Nat
  sp : Nat
  spot : Option Nat

abbrev Ren := Pos → Option Loc

def Ext (ρ ρ' : Ren) : Prop := ∀ b L, ρ b = some L → ρ' b = some L

theorem Ext.refl (ρ : Ren) : Ext ρ ρ := fun _ _ h => h
theorem Ext.trans {a b c : Ren} (h : Ext a b) (k : Ext b c) : Ext a c := fun x L hx => k x L (h x L hx)

def adr (L : Loc) (i : Nat) : Addr := ⟨L.bl, L.of + i, if i = 0 then L.spot else none⟩

theorem adr_inj {L : Loc} {i j : Nat} (h : adr L i = adr L j) : i = j := by
  simp [adr] at h; exact h.1

mutual
inductive VR (ρ : Ren) : DV → Value → Prop
  | u (v : Value) : VR ρ .u v
  | b (x : Bool) : VR ρ (.b x) (.bool x)
  | i (k : IntKind) (n : Int) : VR ρ (.i k n) (.int k n)
  | s (l : List Nat) (bs : ByteArray) (h : bs.data.toList.map (·.toNat) = l) : VR ρ (.s l) (.string bs)
  | p0 : VR ρ .p0 (.pointer none)
  | p (b : Pos) (o : Nat) (L : Loc) (h : ρ b = some L) : VR ρ (.p b o) (.pointer (some (adr L o)))
  | l0 : VR ρ .l0 (.slice none 0 0)
  | l (b : Pos) (o len cap : Nat) (L : Loc) (h : ρ b = some L) : VR ρ (.l b o len cap) (.slice (some (adr L o)) len (cap + L.sp))
  | m0 : VR ρ .m0 (.map none)
  | m (b : Pos) (L : Loc) (h : ρ b = some L) : VR ρ (.m b) (.map (some L.bl))
  | f0 : VR ρ .f0 .nilFunc
  | f (g : FuncId) (x y : List DV) (x' y' : Array Value) (hx : VRs ρ x x'.toList) (hy : VRs ρ y y'.toList) : VR ρ (.f g x y) (.func (.func g) x' y')
  | n0 : VR ρ .n0 .nilIface
  | c (t : TypeId) (v : DV) (v' : Value) (h : VR ρ v v') : VR ρ (.c t v) (.iface t v')
  | a (x : List DV) (x' : Array Value) (h : VRs ρ x x'.toList) : VR ρ (.a x) (.agg x')
  | t (x : List DV) (x' : Array Value) (h : VRs ρ x x'.toList) : VR ρ (.t x) (.tuple x')
inductive VRs (ρ : Ren) : List DV → List Value → Prop
  | nil : VRs ρ [] []
  | cons (x : DV) (x' : Value) (l : List DV) (l' : List Value) (h : VR ρ x x') (hs : VRs ρ l l') : VRs ρ (x :: l) (x' :: l')
end

mutual
theorem VR.mono {ρ ρ' : Ren} (e : Ext ρ ρ') : ∀ {x : DV} {x' : Value}, VR ρ x x' → VR ρ' x x'
  | _, _, .u v => .u v
  | _, _, .b x => .b x
  | _, _, .i k n => .i k n
  | _, _, .s l bs h => .s l bs h
  | _, _, .p0 => .p0
  | _, _, .p b o L h => .p b o L (e _ _ h)
  | _, _, .l0 => .l0
  | _, _, .l b o n c L h => .l b o n c L (e _ _ h)
  | _, _, .m0 => .m0
  | _, _, .m b L h => .m b L (e _ _ h)
  | _, _, .f0 => .f0
  | _, _, .f g x y x' y' hx hy => .f g x y x' y' (VRs.mono e hx) (VRs.mono e hy)
  | _, _, .n0 => .n0
  | _, _, .c t v v' h => .c t v v' (VR.mono e h)
  | _, _, .a x x' h => .a x x' (VRs.mono e h)
  | _, _, .t x x' h => .t x x' (VRs.mono e h)
theorem VRs.mono {ρ ρ' : Ren} (e : Ext ρ ρ') : ∀ {x : List DV} {x' : List Value}, VRs ρ x x' → VRs ρ' x x'
  | _, _, .nil => .nil
  | _, _, .cons x x' l l' h hs => .cons x x' l l' (VR.mono e h) (VRs.mono e hs)
end

theorem VRs.length {ρ : Ren} : ∀ {x : List DV} {x' : List Value}, VRs ρ x x' → x.length = x'.length
  | _, _, .nil => rfl
  | _, _, .cons _ _ _ _ _ hs => by simp [VRs.length hs]

theorem VRs.get {ρ : Ren} : ∀ {x : List DV} {x' : List Value}, VRs ρ x x' → ∀ (i : Nat) (v : DV), x[i]? = some v → ∃ v', x'[i]? = some v' ∧ VR ρ v v'
  | _, _, .nil, i, v, h => by simp at h
  | _, _, .cons x x' l l' h hs, 0, v, hi => by simp at hi; subst hi; exact ⟨x', by simp, h⟩
  | _, _, .cons x x' l l' h hs, i + 1, v, hi => by simp at hi; simpa using VRs.get hs i v hi

theorem VRs.of_get {ρ : Ren} : ∀ {x : List DV} {x' : List Value}, x.length = x'.length → (∀ (i : Nat) v v', x[i]? = some v → x'[i]? = some v' → VR ρ v v') → VRs ρ x x'
  | [], [], _, _ => .nil
  | [], _ :: _, h, _ => by simp at h
  | _ :: _, [], h, _ => by simp at h
  | v :: x, v' :: x', h, hg => .cons _ _ _ _ (hg 0 v v' rfl rfl) (VRs.of_get (by simpa using h) fun i u u' hu hu' => hg (i + 1) u u' (by simpa using hu) (by simpa using hu'))

theorem VRs.append {ρ : Ren} : ∀ {x : List DV} {x' : List Value} {y : List DV} {y' : List Value}, VRs ρ x x' → VRs ρ y y' → VRs ρ (x ++ y) (x' ++ y')
  | _, _, _, _, .nil, h => h
  | _, _, _, _, .cons x x' l l' h hs, hy => .cons x x' _ _ h (VRs.append hs hy)

theorem VRs.take {ρ : Ren} : ∀ {x : List DV} {x' : List Value} (n : Nat), VRs ρ x x' → VRs ρ (x.take n) (x'.take n)
  | _, _, 0, _ => by simp; exact .nil
  | _, _, n + 1, .nil => by simp; exact .nil
  | _, _, n + 1, .cons x x' l l' h hs => by simp only [List.take_succ_cons]; exact .cons x x' _ _ h (VRs.take n hs)

theorem VRs.drop {ρ : Ren} : ∀ {x : List DV} {x' : List Value} (n : Nat), VRs ρ x x' → VRs ρ (x.drop n) (x'.drop n)
  | _, _, 0, h => by simpa using h
  | _, _, n + 1, .nil => by simp; exact .nil
  | _, _, n + 1, .cons x x' l l' h hs => by simp only [List.drop_succ_cons]; exact VRs.drop n hs

theorem VRs.map {ρ : Ren} {α : Type} (f : α → DV) (g : α → Value) (h : ∀ x, VR ρ (f x) (g x)) : ∀ l : List α, VRs ρ (l.map f) (l.map g)
  | [] => .nil
  | x :: l => .cons _ _ _ _ (h x) (VRs.map f g h l)

theorem VRs.replicate_flatten {ρ : Ren} {x : List DV} {x' : List Value} (h : VRs ρ x x') : ∀ n, VRs ρ (List.replicate n x).flatten (List.replicate n x').flatten
  | 0 => by simp; exact .nil
  | n + 1 => by simp only [List.replicate_succ, List.flatten_cons]; exact h.append (VRs.replicate_flatten h n)

/-- One cell. -/
def oneV : Value → Bool
  | .agg _ | .tuple _ => false
  | _ => true

theorem VR.one {ρ : Ren} {x : DV} {x' : Value} (h : VR ρ x x') (ho : x.one = true) : oneV x' = true := by
  cases h <;> first | rfl | (simp [DV.one] at ho)

theorem VR.cells {ρ : Ren} {x : DV} {x' : Value} {cs : List DV} (h : VR ρ x x') (hc : cellsD x = some cs) : VRs ρ cs x'.cells.toList := by
  cases h <;> simp [cellsD] at hc <;> subst hc <;> simp only [Value.cells] <;>
    first
    | assumption
    | exact .cons _ _ _ _ (by constructor <;> assumption) .nil

theorem VR.cv (ρ : Ren) (v : Value) : VR ρ (cv v) v := by
  unfold Dd.cv
  split <;> first | constructor <;> rfl | constructor

theorem VR.zs (ρ : Ren) (z : Value) : VRs ρ (zsD z) z.cells.toList := by
  unfold zsD
  generalize z.cells.toList = l
  induction l with
  | nil => exact .nil
  | cons x l ih => exact .cons _ _ _ _ (VR.cv ρ x) ih

/-! ### What is the same for Dd is the same -/

theorem eqD_iff : ∀ a b : List Nat, eqD a b = true ↔ a = b
  | [], [] => by simp [eqD]
  | [], _ :: _ => by simp [eqD]
  | _ :: _, [] => by simp [eqD]
  | x :: a, y :: b => by simp [eqD, eqD_iff a b]

mutual
theorem DV.beq_eq : ∀ x y : DV, DV.beq x y = true → x = y
  | .b x, .b y, h => by simp [DV.beq] at h; rw [h]
  | .i q x, .i q' y, h => by simp [DV.beq] at h; rw [h.1, h.2]
  | .s x, .s y, h => by simp [DV.beq] at h; rw [(eqD_iff x y).1 h]
  | .p0, .p0, _ => rfl
  | .p x y, .p x' y', h => by simp [DV.beq] at h; rw [h.1, h.2]
  | .l0, .l0, _ => rfl
  | .l x y z w, .l x' y' z' w', h => by simp [DV.beq] at h; rw [h.1.1.1, h.1.1.2, h.1.2, h.2]
  | .m0, .m0, _ => rfl
  | .m x, .m x', h => by simp [DV.beq] at h; rw [h]
  | .f0, .f0, _ => rfl
  | .f z x y, .f z' x' y', h => by simp [DV.beq] at h; rw [h.1.1, DV.beqs_eq _ _ h.1.2, DV.beqs_eq _ _ h.2]
  | .n0, .n0, _ => rfl
  | .c x y, .c x' y', h => by simp [DV.beq] at h; rw [h.1, DV.beq_eq _ _ h.2]
  | .a x, .a y, h => by simp [DV.beq] at h; rw [DV.beqs_eq _ _ h]
  | .t x, .t y, h => by simp [DV.beq] at h; rw [DV.beqs_eq _ _ h]
theorem DV.beqs_eq : ∀ x y : List DV, DV.beqs x y = true → x = y
  | [], [], _ => rfl
  | x :: xs, y :: ys, h => by simp [DV.beqs] at h; rw [DV.beq_eq _ _ h.1, DV.beqs_eq _ _ h.2]
  | [], _ :: _, h => by simp [DV.beqs] at h
  | _ :: _, [], h => by simp [DV.beqs] at h
end

end Go.Dd
