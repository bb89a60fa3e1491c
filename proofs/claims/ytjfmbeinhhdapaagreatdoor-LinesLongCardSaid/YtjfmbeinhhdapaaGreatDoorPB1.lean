/- A part of the proof: M N0 N O CH RF1 RF2 RF3 RF4 RF5 RF6 RF7 SM SN RS RG MF LA Qh: each text has a comment of its own. -/
import Derived.Test.YtjfmbeinhhdapaaGreatDoorPB0
import Derived.LoopN
import Derived.Scope
import Derived.OrdersIn
import Derived.LoopNIn
import Derived.LoopIn
import Derived.RangeFuncIn
import Derived.RangeFuncCalls
import Derived.RangeFuncLeaves
import Derived.Test.YtjfmbeinhhdapaaGreatDoorProg
import Derived.KernelRfl
import Derived.Lib.AtoiAll
set_option linter.unusedVariables false
set_option linter.unusedSimpArgs false
set_option linter.constructorNameAsVariable false
set_option maxRecDepth 100000
namespace Go.Dd
open Go.RowKit (Below)
section
variable {C : Cfg} {G : Gd} {rec : FuncId → List DV → Hp → aG} {ops : Array Oper} {m : Array Nat} {nt : Nat} {k : K}
def kG (C : Cfg) (ops : Array Oper) (j : Nat) : Bool :=
 match ops[j]? with
 | some o => decide (bV C.P o.op = .acts)
 | none => false
theorem bEp {j : Nat} {o : Oper} (ho : ops[j]? = some o) : kG C ops j = true ↔ bV C.P o.op = .acts := by
 unfold kG; rw [ho]; simp
def jI (C : Cfg) (ops : Array Oper) (Hh : Nat → Hp) (lo : Nat) : Nat → List (Option Nat × Hp)
 | 0 => []
 | d + 1 => (if kG C ops (lo + d) then [(some (lo + d), Hh (lo + d + 1))] else []) ++ jI C ops Hh lo d
theorem uU {Hh Hh' : Nat → Hp} {lo : Nat} : ∀ d, (∀ p, lo < p → p ≤ lo + d → Hh p = Hh' p) → jI C ops Hh lo d = jI C ops Hh' lo d
 | 0, _ => rfl
 | d + 1, h => by
  simp only [jI]
  rw [uU d (fun p h1 h2 => h p h1 (by omega)), h (lo + d + 1) (by omega) (by omega)]
theorem vC {Hh : Nat → Hp} {lo : Nat} : ∀ d, jI C ops Hh lo (d + 1) = jI C ops Hh (lo + 1) d ++ (if kG C ops lo then [(some lo, Hh (lo + 1))] else [])
 | 0 => by simp [jI]
 | d + 1 => by
  have ih := vC (Hh := Hh) (lo := lo) d
  rw [jI, ih]
  simp only [jI, List.append_assoc]
  rw [show lo + 1 + d = lo + (d + 1) from by omega]
def tJ (m : Array Nat) (p : Nat) (Pv : Hp → Prop) : List (Option Nat × Hp) → Prop
 | [] => True
 | (j, hj) :: rest => Pv hj ∧ (match j with
  | none => True
  | some j => gM m j p = true ∨ tJ m p Pv rest)
theorem pQ {m : Array Nat} {i : Nat} {v : DV} {look : Hp → aG} {Pv : Hp → Prop} (hP : ∀ h, bI (look h) v = true → Pv h) : ∀ (hs : List (Option Nat × Hp)), eS m i v look true hs = true → tJ m i Pv hs
 | [], _ => trivial
 | (j, hj) :: rest, hc => by
  simp only [eS, cond_true, Bool.and_eq_true] at hc
  refine ⟨hP hj hc.1, ?_⟩
  cases j with
  | none => trivial
  | some j =>
   simp only at hc ⊢
   cases ho : gM m j i with
   | true => exact .inl rfl
   | false =>
    rw [ho] at hc
    exact .inr (pQ hP rest hc.2)
structure StepT (C : Cfg) (rec : FuncId → List DV → Hp → aG) (ops : Array Oper) (m : Array Nat) (nt : Nat) (b : Pos) (E : Nat → bC) (Hh : Nat → Hp) (V : Nat → DV) (lo : Nat) (hs : List (Option Nat × Hp)) (p : Nat) (o : Oper) : Prop where
 fits : dI nt o.dst = true
 step : bV C.P o.op ≠ .makes → bJ C rec ops o (E p) (Hh p) = some (V p, Hh (p + 1))
 made : bV C.P o.op = .makes → eC C o b (E p) (Hh p) = some (V p, Hh (p + 1))
 env : E (p + 1) = bN (E p) o.dst (V p)
 reads : bV C.P o.op = .reads → tJ m p (fun h => bJ C rec ops o (E p) h = some (V p, h)) (jI C ops Hh lo (p - lo) ++ hs)
 acts : bV C.P o.op = .acts → ∀ j oj, lo ≤ j → j < p → ops[j]? = some oj → bV C.P oj.op = .reads → gM m j p = true ∨ bI (bJ C rec ops oj (E j) (Hh (p + 1))) (V j) = true
theorem vE {o : Oper} {env : bC} {h : Hp} {v : DV} (hc : bV C.P o.op = .reads) (hs : bI (bJ C rec ops o env h) v = true) : bJ C rec ops o env h = some (v, h) := by
 cases hr : bJ C rec ops o env h with
 | none => rw [hr] at hs; cases hs
 | some r =>
  obtain ⟨x, h1⟩ := r
  rw [hr] at hs
  have := dRp _ _ hs
  have h2 := qQ hc hr
  rw [this, h2]
theorem vB {p0 : Pos} : ∀ (l : List Oper) (i c : Nat) (dirty : Bool) (rd : List Seen) (hs : List (Option Nat × Hp)) (env : bC) (h : Hp) (r : DV × Hp),
  eQ C rec nt ops m p0 l k i c dirty rd hs env h = some r → (∀ j : Nat, l[j]? = ops[i + j]?) → (dirty = false → ∃ j rest, hs = (j, h) :: rest) →
  ∃ (E : Nat → bC) (Hh : Nat → Hp) (V : Nat → DV), E i = env ∧ Hh i = h ∧ k (E (i + l.length)) (Hh (i + l.length)) = some r ∧
   ∀ p o, i ≤ p → p < i + l.length → ops[p]? = some o → StepT C rec ops m nt (cK (c + cF C.P (l.take (p - i))) p0) E Hh V i hs p o ∧
    (bV C.P o.op = .acts → ∀ q ∈ rd, gM m q.at_ p = true ∨ bI (q.look (Hh (p + 1))) q.v = true)
 | [], i, c, dirty, rd, hs, env, h, r, hp, hl, _ => ⟨fun _ => env, fun _ => h, fun _ => .u, rfl, rfl, hp, fun p o h1 h2 => by simp at h2; omega⟩
 | o :: os, i, c, dirty, rd, hs, env, h, r, hp, hl, hdirty => by
  have hi : ops[i]? = some o := by simpa using (hl 0).symm
  have hl' : ∀ j : Nat, os[j]? = ops[i + 1 + j]? := fun j => by
   have := hl (j + 1)
   simpa [Nat.add_assoc, Nat.add_comm 1 j] using this
  have hstep : ∃ v h1 c' dirty' rd' hs', dI nt o.dst = true ∧ (bV C.P o.op ≠ .makes → bJ C rec ops o env h = some (v, h1)) ∧ (bV C.P o.op = .makes → eC C o (cK c p0) env h = some (v, h1)) ∧
    eQ C rec nt ops m p0 os k (i + 1) c' dirty' rd' hs' (bN env o.dst v) h1 = some r ∧ (dirty' = false → ∃ j rest, hs' = (j, h1) :: rest) ∧
    (∀ q ∈ rd, q ∈ rd') ∧ hs' = (if kG C ops i then [(some i, h1)] else []) ++ hs ∧ c' = c + cF C.P [o] ∧
    (bV C.P o.op = .reads → tJ m i (fun h => bJ C rec ops o env h = some (v, h)) hs ∧ ⟨i, bJ C rec ops o env, v⟩ ∈ rd') ∧
    (bV C.P o.op = .acts → (∀ q ∈ rd, gM m q.at_ i = true ∨ bI (q.look h1) q.v = true)) := by
   change cnd (dI nt o.dst) (
     match bV C.P o.op with
     | .pure => bnd (bJ C rec ops o env h) fun v h' => eQ C rec nt ops m p0 os k (i + 1) c dirty rd hs (bN env o.dst v) h'
     | .reads => bnd (bJ C rec ops o env h) fun v h' =>
       cnd (eS m i v (bJ C rec ops o env) dirty hs) (eQ C rec nt ops m p0 os k (i + 1) c dirty (⟨i, bJ C rec ops o env, v⟩ :: rd) hs (bN env o.dst v) h')
     | .makes => bnd (eC C o (cK c p0) env h) fun v h' => eQ C rec nt ops m p0 os k (i + 1) (c + 1) true rd hs (bN env o.dst v) h'
     | .acts => bnd (bJ C rec ops o env h) fun v h' =>
       cnd (rd.all (fun q => gM m q.at_ i || bI (q.look h') q.v)) (eQ C rec nt ops m p0 os k (i + 1) c false rd ((some i, h') :: hs) (bN env o.dst v) h')) = some r at hp
   cases hf : dI nt o.dst with
   | false => rw [hf] at hp; cases hp
   | true =>
    rw [hf] at hp
    dsimp only [cnd] at hp
    cases hc : bV C.P o.op with
    | pure =>
     have ha : kG C ops i = false := by unfold kG; rw [hi]; simp [hc]
     rw [hc] at hp
     obtain ⟨v, h1, h2, h3⟩ := cY hp
     have hh := (sW hc _ _ _ h2).1
     refine ⟨v, h1, c, dirty, rd, hs, rfl, fun _ => h2, (fun h => by cases h), h3, (by rw [hh]; exact hdirty), fun q hq => hq, by simp [ha], by simp [cF, hc], (fun h => by cases h), (fun h => by cases h)⟩
    | reads =>
     have ha : kG C ops i = false := by unfold kG; rw [hi]; simp [hc]
     rw [hc] at hp
     obtain ⟨v, h1, h2, h3⟩ := cY hp
     have hh := qQ hc h2
     cases hall : eS m i v (bJ C rec ops o env) dirty hs with
     | false => rw [hall] at h3; cases h3
     | true =>
      rw [hall] at h3
      refine ⟨v, h1, c, dirty, _, hs, rfl, fun _ => h2, (fun h => by cases h), h3, (by rw [hh]; exact hdirty), (fun q hq => by simp [hq]), by simp [ha], by simp [cF, hc], fun _ => ⟨?_, by simp⟩, (fun h => by cases h)⟩
      have hP : ∀ h, bI (bJ C rec ops o env h) v = true → bJ C rec ops o env h = some (v, h) := fun h hs => vE hc hs
      cases hd : dirty with
      | true => rw [hd] at hall; exact pQ hP hs hall
      | false =>
       obtain ⟨j, rest, hcons⟩ := hdirty hd
       subst hcons
       rw [hd] at hall
       simp only [eS, cond_false, Bool.true_and] at hall
       refine ⟨by rw [hh] at h2; exact h2, ?_⟩
       cases j with
       | none => trivial
       | some j =>
        simp only at hall ⊢
        cases ho : gM m j i with
        | true => exact .inl rfl
        | false => rw [ho] at hall; exact .inr (pQ hP rest hall)
    | makes =>
     have ha : kG C ops i = false := by unfold kG; rw [hi]; simp [hc]
     rw [hc] at hp
     obtain ⟨v, h1, h2, h3⟩ := cY hp
     exact ⟨v, h1, c + 1, true, rd, hs, rfl, (fun h => absurd rfl h), fun _ => h2, h3, (fun h => by cases h), fun q hq => hq, by simp [ha], by simp [cF, hc], (fun h => by cases h), (fun h => by cases h)⟩
    | acts =>
     have ha : kG C ops i = true := by unfold kG; rw [hi]; simp [hc]
     rw [hc] at hp
     obtain ⟨v, h1, h2, h3⟩ := cY hp
     cases hall : rd.all (fun q => gM m q.at_ i || bI (q.look h1) q.v) with
     | false => rw [hall] at h3; cases h3
     | true =>
      rw [hall] at h3
      refine ⟨v, h1, c, false, rd, _, rfl, fun _ => h2, (fun h => by cases h), h3, fun _ => ⟨_, _, rfl⟩, fun q hq => hq, by simp [ha], by simp [cF, hc], (fun h => by cases h), fun _ q hq => ?_⟩
      have := List.all_eq_true.1 hall q hq
      simpa using this
  obtain ⟨v, h1, c', dirty', rd', hs', hf, hst, hmk, hrest, hdirty', hrd, hhs, hcc, hR, hA⟩ := hstep
  obtain ⟨E', Hh', V', e1, e2, e3, e4⟩ := vB os (i + 1) c' dirty' rd' hs' _ h1 r hrest hl' hdirty'
  refine ⟨fun p => if p = i then env else E' p, fun p => if p = i then h else Hh' p, fun p => if p = i then v else V' p, by simp, by simp, ?_, ?_⟩
  ·simp only [List.length_cons]
   rw [if_neg (by omega), if_neg (by omega), show i + (os.length + 1) = i + 1 + os.length from by omega]
   exact e3
  ·intro p o' hp1 hp2 ho'
   by_cases hpi : p = i
   ·subst hpi
    rw [hi] at ho'
    cases ho'
    refine ⟨⟨hf, ?_, ?_, ?_, ?_, ?_⟩, ?_⟩
    ·intro hc
     simp only [if_true]
     rw [if_neg (by omega), e2]
     exact hst hc
    ·intro hc
     simp only [if_true, Nat.sub_self, List.take_zero, cF, Nat.add_zero]
     rw [if_neg (by omega), e2]
     exact hmk hc
    ·simp only [if_true]
     rw [if_neg (by omega), e1]
    ·intro hc
     simpa [jI] using (hR hc).1
    ·intro _ j oj hj1 hj2; omega
    ·intro hc q hq
     simp only [show p + 1 ≠ p from by omega, if_false, e2]
     exact hA hc q hq
   ·simp only [List.length_cons] at hp2
    obtain ⟨s, sa⟩ := e4 p o' (by omega) (by omega) ho'
    refine ⟨⟨s.fits, ?_, ?_, ?_, ?_, ?_⟩, ?_⟩
    ·intro hc; simp only [hpi, if_false, show p + 1 ≠ i from by omega]; exact s.step hc
    ·intro hc
     simp only [hpi, if_false, show p + 1 ≠ i from by omega]
     have := s.made hc
     rw [hcc] at this
     have e : c + cF C.P ((o :: os).take (p - i)) = c + cF C.P [o] + cF C.P (os.take (p - (i + 1))) := by
      rw [show p - i = (p - (i + 1)) + 1 from by omega, List.take_succ_cons]
      simp [cF, Nat.add_assoc]
     rw [e]
     exact this
    ·simp only [hpi, if_false, show p + 1 ≠ i from by omega]; exact s.env
    ·intro hc
     have := s.reads hc
     simp only [hpi, if_false]
     have e : jI C ops (fun p => if p = i then h else Hh' p) i (p - i) ++ hs = jI C ops Hh' (i + 1) (p - (i + 1)) ++ hs' := by
      rw [show p - i = (p - (i + 1)) + 1 from by omega, vC, hhs]
      rw [uU (Hh' := Hh') (p - (i + 1)) (fun q h1 h2 => by simp [show q ≠ i from by omega])]
      simp only [show i + 1 ≠ i from by omega, if_false, e2, List.append_assoc]
     rw [e]
     exact this
    ·intro hc j oj hj1 hj2 hoj hcj
     by_cases hji : j = i
     ·subst hji
      rw [hi] at hoj
      cases hoj
      simp only [if_true, show p + 1 ≠ j from by omega, if_false]
      exact sa hc ⟨j, bJ C rec ops o env, v⟩ (hR hcj).2
     ·simp only [hji, if_false, show p + 1 ≠ i from by omega]
      exact s.acts hc j oj (by omega) hj2 hoj hcj
    ·intro hc q hq
     simp only [show p + 1 ≠ i from by omega, if_false]
     exact sa hc q (hrd q hq)
theorem dZ (hd : eW C.P ops = true) {j : Nat} {y : Oper} (hy : ops[j]? = some y) :
  (∀ e ∈ y.after, Region.binds .any e = true → e.on < j) ∧ (bV C.P y.op = .makes → y.guard = none) ∧
  ∀ i x, i < j → ops[i]? = some x → gM (Region.before ops) i j = true ∨ (Oper.apart ops x y = true ∧ ¬ ((bV C.P x.op = .acts ∨ bV C.P x.op = .makes) ∧ bV C.P y.op = .acts)) := by
 unfold eW at hd
 have hj : j < ops.size := by
  rcases Nat.lt_or_ge j ops.size with h | h
  ·exact h
  ·simp [Array.getElem?_eq_none h] at hy
 have h1 := List.all_eq_true.1 hd j (by simpa using hj)
 simp only [hy, Bool.and_eq_true] at h1
 obtain ⟨⟨h2, hg⟩, h3⟩ := h1
 refine ⟨fun e he hb => ?_, fun hm => ?_, fun i x hij hx => ?_⟩
 ·have := (Array.all_eq_true_iff_forall_mem.1 h2) e he
  simp only [hb, Bool.not_true, Bool.false_or] at this
  exact Nat.le_of_ble_eq_true this
 ·cases hgd : y.guard with
  | none => rfl
  | some g => rw [hgd] at hg; simp [hm] at hg
 ·have := List.all_eq_true.1 h3 i (by simpa using hij)
  simp only [hx, Bool.or_eq_true, Bool.and_eq_true] at this
  rcases this with h | ⟨h, h'⟩
  ·exact .inl h
  ·refine .inr ⟨h, ?_⟩
   rintro ⟨a1, a2⟩
   rcases a1 with a1 | a1 <;> simp [a1, a2] at h'
def S (listed : Array Bool) (j : Nat) : Prop := listed.getD j false = true
def TS (ops : Array Oper) (V : Nat → DV) (env : bC) (listed : Array Bool) : Nat → bC
 | 0 => env
 | p + 1 => match ops[p]? with
  | some o => if listed.getD p false then bN (TS ops V env listed p) o.dst (V p) else TS ops V env listed p
  | none => TS ops V env listed p
theorem mQ (env : bC) (d : Option Tmp) (v : DV) (t : Nat) : bN env d v t = if d = some t then v else env t := by
 cases d with
 | none => simp [bN]
 | some d =>
  simp only [bN, aT]
  by_cases e : t = d
  ·subst e
   rw [if_pos rfl]
   have : Nat.beq t t = true := Nat.beq_refl t
   rw [this]; rfl
  ·rw [if_neg (fun h => e h.symm)]
   have : Nat.beq t d = false := by
    cases hb : Nat.beq t d with
    | false => rfl
    | true => exact absurd (Nat.eq_of_beq_eq_true hb) e
   rw [this]; rfl
theorem bZi {V : Nat → DV} {env : bC} {listed : Array Bool} {t i : Nat} (hno : ∀ j o, i ≤ j → ops[j]? = some o → o.dst = some t → ¬ S listed j) :
  ∀ p, i ≤ p → TS ops V env listed p t = TS ops V env listed i t := by
 intro p
 induction p with
 | zero => intro h; have : i = 0 := by omega
           subst this; rfl
 | succ p ih =>
  intro h
  by_cases e : i = p + 1
  ·rw [e]
  ·have ih' := ih (by omega)
   cases ho : ops[p]? with
   | none => simp only [TS, ho]; exact ih'
   | some o =>
    simp only [TS, ho]
    split
    ·rename_i hl
     rw [mQ]
     rw [if_neg (fun hd => hno p o (by omega) ho hd hl)]
     exact ih'
    ·exact ih'
theorem bMq {V : Nat → DV} {env : bC} {listed : Array Bool} {E : Nat → bC} (h0 : E 0 = env) {t i : Nat} (hE : ∀ p o, p < i → ops[p]? = some o → E (p + 1) = bN (E p) o.dst (V p))
  (hin : ∀ p, p < i → ∃ o, ops[p]? = some o) (hyes : ∀ j o, j < i → ops[j]? = some o → o.dst = some t → S listed j) :
  ∀ p, p ≤ i → TS ops V env listed p t = E p t := by
 intro p
 induction p with
 | zero => intro _; simp [TS, h0]
 | succ p ih =>
  intro h
  have ih' := ih (by omega)
  obtain ⟨o, ho⟩ := hin p (by omega)
  rw [hE p o (by omega) ho, mQ]
  simp only [TS, ho]
  split
  ·rw [mQ, ih']
  ·rename_i hl
   rw [if_neg (fun hd => hl (hyes p o (by omega) ho hd))]
   exact ih'
end
end Go.Dd

namespace Go.Dd
open Go.RowKit (Below)
theorem dY : ∀ (n : Nat) (p : Pos), (cK n p).toNat = p.toNat + n
 | 0, p => rfl
 | n + 1, p => by simp only [cK]; rw [dY n p.succ, dQh]; omega
theorem sU (k : Nat) (h : Hp) : (resv k h).next = cK k h.next ∧ (resv k h).bl = h.bl := by
 cases k <;> exact ⟨rfl, rfl⟩
section
variable {G G' : Gd} {ρ : Ren} {h : Hp} {w : World}
theorem oM {h' : Hp} (e : h'.bl = h.bl) {b : Pos} {a : Addr} : Claims ρ h' b a ↔ Claims ρ h b a := by
 unfold Claims; rw [e]
theorem aHf {h' : Hp} (e : h'.bl = h.bl) {b : Pos} : isRo h' b ↔ isRo h b := by
 unfold isRo; rw [e]
theorem HR.weak (H : HR G' ρ h w) (hB : G'.B = G.B) (hX : ∀ k, G.X k → G'.X k) (hN : G.N ≤ G'.N) (hW : G'.W = G.W) : HR G ρ h w where
 gl := fun k hk => by rw [← hW]; exact H.gl k (by rw [hB]; exact hk)
 sz := ⟨by rw [← hB]; exact H.sz.1, fun k hk => H.sz.2 k (hX k hk)⟩
 nx := Nat.le_trans hN H.nx
 ro := fun b a h1 h2 => by rw [← hB]; exact H.ro b a h1 h2
 dom := H.dom
 lt := H.lt
 cell := H.cell
 spare := H.spare
 free := fun b a h1 h2 => by
  obtain ⟨h3, h4, h5⟩ := H.free b a h1 h2
  exact ⟨h3, by rw [← hB]; exact h4, fun hk => h5 (hX _ hk)⟩
 inj := H.inj
 ex := H.ex
 grone := H.grone
 itr := fun b o L h0 h1 h2 => by
  obtain ⟨⟨h3, h4⟩, h5⟩ := H.itr b o L h0 h1 h2
  exact ⟨⟨by rw [← hB]; exact h3, fun hk => h4 (hX _ hk)⟩, h5⟩
 itj := H.itj
theorem HR.reserve (H : HR G ρ h w) (k : Nat) : HR ⟨G.B, G.X, (resv k h).next.toNat, G.W, G.ok⟩ ρ (resv k h) w := by
 obtain ⟨e1, e2⟩ := sU k h
 exact {
  gl := H.gl
  sz := H.sz
  nx := Nat.le_refl _
  ro := fun b a h1 h2 => H.ro b a ((oM e2).1 h1) ((aHf e2).1 h2)
  dom := fun b o h1 => H.dom b o (by rwa [e2] at h1)
  lt := fun b L h1 => by rw [e1, dY]; have := H.lt b L h1; omega
  cell := fun b k l L i v h1 => H.cell b k l L i v (by rwa [e2] at h1)
  spare := fun b l L es j h1 => H.spare b l L es j (by rwa [e2] at h1)
  free := fun b a h1 h2 => H.free b a ((oM e2).1 h1) (fun h => h2 ((aHf e2).2 h))
  inj := fun b b' a h1 h2 h3 => H.inj b b' a ((oM e2).1 h1) ((oM e2).1 h2) (fun h => h3 ((aHf e2).2 h))
  ex := fun b l L h1 => H.ex b l L (by rwa [e2] at h1)
  grone := fun b es l i v h1 => H.grone b es l i v (by rwa [e2] at h1)
  itr := fun b o L h0 h1 => H.itr b o L h0 (by rwa [e2] at h1)
  itj := fun b o b' o' L L' h0 h0' h1 h2 => H.itj b o b' o' L L' h0 h0' (by rwa [e2] at h1) (by rwa [e2] at h2) }
theorem HR.early (H : HR G ρ h w) {b : Pos} (hb : ρ b = none) (hlt : b.toNat < h.next.toNat) (x0 : Obj) :
  HR ⟨G.B, fun k => G.X k ∨ k = w.heap.size, G.N, G.W, G.ok⟩ (mS ρ b ⟨w.heap.size, 0, 0, none⟩) h (w.alloc x0) := by
 have hext : Ext ρ (mS ρ b ⟨w.heap.size, 0, 0, none⟩) := by
  intro x L hx
  by_cases e : x = b
  ·subst e; rw [hb] at hx; cases hx
  ·rw [aS _ _ e]; exact hx
 have hrow : h.bl.get b = none := by
  cases hr : h.bl.get b with
  | none => rfl
  | some o => obtain ⟨L, hL⟩ := H.dom b o hr; rw [hb] at hL; cases hL
 have hne : ∀ x o, h.bl.get x = some o → x ≠ b := fun x o hx e => by subst e; rw [hrow] at hx; cases hx
 have hcl : ∀ {x a}, Claims (mS ρ b ⟨w.heap.size, 0, 0, none⟩) h x a → Claims ρ h x a := by
  rintro x a ⟨k, l, L, h1, h2, h3⟩
  rw [aS _ _ (hne x _ h1)] at h2
  exact ⟨k, l, L, h1, h2, h3⟩
 have hblt : ∀ {x a}, Claims ρ h x a → a.block < w.heap.size := fun hc => by
  obtain ⟨v, hv⟩ := H.lt_cell hc
  exact eE hv
 refine { gl := fun k hk => by rw [Below.heap_alloc _ _ _ (Nat.lt_of_lt_of_le hk H.sz.1)]; exact H.gl k hk, sz := ⟨by have := H.sz.1; simp; omega, fun k hk => ?_⟩, nx := H.nx, ro := fun x a h1 h2 => H.ro x a (hcl h1) h2, dom := ?_, lt := ?_, cell := ?_, spare := ?_, free := ?_, inj := ?_, ex := ?_, grone := H.grone, itr := ?_, itj := ?_ }
 ·rcases hk with hk | hk
  ·have := H.sz.2 k hk; simp; omega
  ·simp; omega
 ·intro x o hx
  obtain ⟨L, hL⟩ := H.dom x o hx
  exact ⟨L, hext _ _ hL⟩
 ·intro x L hx
  by_cases e : x = b
  ·subst e; exact hlt
  ·rw [aS _ _ e] at hx; exact H.lt x L hx
 ·intro x k l L i v hx hL hi hv
  rw [aS _ _ (hne x _ hx)] at hL
  obtain ⟨v', h5, h6⟩ := H.cell x k l L i v hx hL hi hv
  exact ⟨v', by rw [eA (eE h5)]; exact h5, h6.mono hext⟩
 ·intro x l L es j hx hL hj
  rw [aS _ _ (hne x _ hx)] at hL
  obtain ⟨v', h5⟩ := H.spare x l L es j hx hL hj
  exact ⟨v', by rw [eA (eE h5)]; exact h5⟩
 ·intro x a hc hr
  have hlt' := hblt (hcl hc)
  obtain ⟨h3, h4, h5⟩ := H.free x a (hcl hc) hr
  refine ⟨by rw [gA (by omega)]; exact h3, h4, ?_⟩
  rintro (hk | hk)
  ·exact h5 hk
  ·omega
 ·intro x x' a hc hc' hr
  exact H.inj x x' a (hcl hc) (hcl hc') hr
 ·intro x l L hx hL
  have : x ≠ b := by rcases hx with hx | hx <;> exact hne x _ hx
  rw [aS _ _ this] at hL
  exact H.ex x l L hx hL
 ·intro x o L h0 hx hL
  rw [aS _ _ (hne x _ hx)] at hL
  obtain ⟨⟨h1, h1'⟩, h2, bs, h3, h4⟩ := H.itr x o L h0 hx hL
  have hlt' : L.bl < w.heap.size := by
   rcases Nat.lt_or_ge L.bl w.heap.size with h | h
   ·exact h
   ·simp [Array.getElem?_eq_none h] at h3
  refine ⟨⟨h1, ?_⟩, h2, bs, by rw [Below.heap_alloc _ _ _ hlt']; exact h3, h4.mono hext⟩
  rintro (hk | hk)
  ·exact h1' hk
  ·omega
 ·intro x o x' o' L L' h0 h0' hx hx' hL hL' he
  rw [aS _ _ (hne x _ hx)] at hL
  rw [aS _ _ (hne x' _ hx')] at hL'
  exact H.itj x o x' o' L L' h0 h0' hx hx' hL hL' he
theorem HR.adopt (H : HR G' ρ h w) (hB : G'.B = G.B) (hX : ∀ k, G.X k → G'.X k) (hN : G.N ≤ G'.N) (hW : G'.W = G.W) {b : Pos} {r : Nat} {arr : Array Value} {t : TypeId} {cs : List DV}
  (hb : ρ b = some ⟨r, 0, 0, none⟩) (hr : w.heap[r]? = some (.cells arr t (0, 0))) (hcs : VRs ρ cs arr.toList) (hBr : G.B ≤ r) (hXr : ¬ G.X r) (hXr' : G'.X r) :
  HR G ρ ⟨h.next, Tr.set (.row .ex cs) b h.bl⟩ w := by
 have hcell : ∀ i, w.cell? (eF ⟨r, 0, 0, none⟩ i) = arr[i]? := fun i => by simp [World.cell?, eF, hr]
 have hfro : ∀ i, w.frozen? (eF ⟨r, 0, 0, none⟩ i) = false := fun i => by simp [World.frozen?, eF, hr]
 have hnew : ∀ {a}, Claims ρ ⟨h.next, Tr.set (.row .ex cs) b h.bl⟩ b a → ∃ i, a = eF ⟨r, 0, 0, none⟩ i := by
  rintro a ⟨k, l, L, h1, h2, h3⟩
  simp only [dQg, aT, Ob.row.injEq] at h1
  obtain ⟨rfl, rfl⟩ := h1
  rw [hb] at h2; cases h2
  rcases h3 with ⟨i, v, hi, hv, rfl⟩ | ⟨es, j, h4, _, _⟩
  ·exact ⟨i, rfl⟩
  ·cases h4
 have hold : ∀ {x a}, x ≠ b → Claims ρ ⟨h.next, Tr.set (.row .ex cs) b h.bl⟩ x a → Claims ρ h x a := by
  rintro x a hx ⟨k, l, L, h1, h2, h3⟩
  simp only [dQf _ _ _ _ hx] at h1
  exact ⟨k, l, L, h1, h2, h3⟩
 have hroo : ∀ x, x ≠ b → (isRo ⟨h.next, Tr.set (.row .ex cs) b h.bl⟩ x ↔ isRo h x) := fun x hx => by simp [isRo, dQf _ _ _ _ hx]
 have hapart : ∀ {x a}, Claims ρ h x a → a.block ≠ r := by
  intro x a hc e
  by_cases hro : isRo h x
  ·have := H.ro x a hc hro
   omega
  ·exact (H.free x a hc hro).2.2 (e ▸ hXr')
 refine { gl := fun k hk => by rw [← hW]; exact H.gl k (by rw [hB]; exact hk), sz := ⟨by rw [← hB]; exact H.sz.1, fun k hk => H.sz.2 k (hX k hk)⟩, nx := Nat.le_trans hN H.nx, ro := ?_, dom := ?_, lt := H.lt, cell := ?_, spare := ?_, free := ?_, inj := ?_, ex := ?_, grone := ?_, itr := ?_, itj := ?_ }
 ·intro x a hc hro
  by_cases e : x = b
  ·subst e
   obtain ⟨l0, h0⟩ := hro
   simp [dQg] at h0
  ·rw [← hB]; exact H.ro x a (hold e hc) ((hroo x e).1 hro)
 ·intro x o hx
  by_cases e : x = b
  ·subst e; exact ⟨_, hb⟩
  ·simp only [dQf _ _ _ _ e] at hx; exact H.dom x o hx
 ·intro x k l L i v hx hL hi hv
  by_cases e : x = b
  ·subst e
   simp only [dQg, aT, Ob.row.injEq] at hx
   obtain ⟨rfl, rfl⟩ := hx
   rw [hb] at hL; cases hL
   obtain ⟨v', h5, h6⟩ := hcs.get i v hi
   exact ⟨v', by rw [hcell]; simpa using h5, h6⟩
  ·simp only [dQf _ _ _ _ e] at hx
   exact H.cell x k l L i v hx hL hi hv
 ·intro x l L es j hx hL hj
  by_cases e : x = b
  ·subst e; simp [dQg] at hx
  ·simp only [dQf _ _ _ _ e] at hx
   exact H.spare x l L es j hx hL hj
 ·intro x a hc hro
  by_cases e : x = b
  ·subst e
   obtain ⟨i, rfl⟩ := hnew hc
   exact ⟨hfro i, hBr, hXr⟩
  ·obtain ⟨h3, h4, h5⟩ := H.free x a (hold e hc) (fun h => hro ((hroo x e).2 h))
   exact ⟨h3, by rw [← hB]; exact h4, fun hk => h5 (hX _ hk)⟩
 ·intro x x' a hc hc' hro
  by_cases e : x = b
  ·subst e
   by_cases e' : x' = x
   ·exact e'.symm
   ·obtain ⟨i, rfl⟩ := hnew hc
    exact absurd rfl (hapart (hold e' hc'))
  ·by_cases e' : x' = b
   ·subst e'
    obtain ⟨i, rfl⟩ := hnew hc'
    exact absurd rfl (hapart (hold e hc))
   ·exact H.inj x x' a (hold e hc) (hold e' hc') (fun h => hro ((hroo x e).2 h))
 ·intro x l L hx hL
  by_cases e : x = b
  ·subst e
   rw [hb] at hL; cases hL
   rfl
  ·simp only [dQf _ _ _ _ e] at hx
   exact H.ex x l L hx hL
 ·intro x es l i v hx hi
  by_cases e : x = b
  ·subst e; simp [dQg] at hx
  ·simp only [dQf _ _ _ _ e] at hx
   exact H.grone x es l i v hx hi
 ·intro x o L h0 hx hL
  by_cases e : x = b
  ·subst e; simp [dQg] at hx; subst hx; cases h0
  ·simp only [dQf _ _ _ _ e] at hx
   obtain ⟨⟨h1, h1'⟩, h2⟩ := H.itr x o L h0 hx hL
   exact ⟨⟨by rw [← hB]; exact h1, fun hk => h1' (hX _ hk)⟩, h2⟩
 ·intro x o x' o' L L' h0 h0' hx hx' hL hL' he
  by_cases e : x = b
  ·subst e; simp [dQg] at hx; subst hx; cases h0
  ·by_cases e' : x' = b
   ·subst e'; simp [dQg] at hx'; subst hx'; cases h0'
   ·simp only [dQf _ _ _ _ e] at hx
    simp only [dQf _ _ _ _ e'] at hx'
    exact H.itj x o x' o' L L' h0 h0' hx hx' hL hL' he
theorem HR.adoptMp (H : HR G' ρ h w) (hB : G'.B = G.B) (hX : ∀ k, G.X k → G'.X k) (hN : G.N ≤ G'.N) (hW : G'.W = G.W) {b : Pos} {r : Nat}
  (hb : ρ b = some ⟨r, 0, 0, none⟩) (hr : w.heap[r]? = some (.map #[] 0)) (hBr : G.B ≤ r) (hXr : ¬ G.X r) (hXr' : G'.X r) :
  HR G ρ ⟨h.next, Tr.set (.mp []) b h.bl⟩ w := by
 have hnew : ∀ {a}, ¬ Claims ρ ⟨h.next, Tr.set (.mp []) b h.bl⟩ b a := by
  rintro a ⟨k, l, L, h1, h2, h3⟩
  simp only [dQg, aT] at h1
  cases h1
 have hold : ∀ {x a}, x ≠ b → Claims ρ ⟨h.next, Tr.set (.mp []) b h.bl⟩ x a → Claims ρ h x a := by
  rintro x a hx ⟨k, l, L, h1, h2, h3⟩
  simp only [dQf _ _ _ _ hx] at h1
  exact ⟨k, l, L, h1, h2, h3⟩
 have hroo : ∀ x, x ≠ b → (isRo ⟨h.next, Tr.set (.mp []) b h.bl⟩ x ↔ isRo h x) := fun x hx => by simp [isRo, dQf _ _ _ _ hx]
 refine { gl := fun k hk => by rw [← hW]; exact H.gl k (by rw [hB]; exact hk), sz := ⟨by rw [← hB]; exact H.sz.1, fun k hk => H.sz.2 k (hX k hk)⟩, nx := Nat.le_trans hN H.nx, ro := ?_, dom := ?_, lt := H.lt, cell := ?_, spare := ?_, free := ?_, inj := ?_, ex := ?_, grone := ?_, itr := ?_, itj := ?_ }
 ·intro x a hc hro
  by_cases e : x = b
  ·subst e; exact absurd hc hnew
  ·rw [← hB]; exact H.ro x a (hold e hc) ((hroo x e).1 hro)
 ·intro x o hx
  by_cases e : x = b
  ·subst e; exact ⟨_, hb⟩
  ·simp only [dQf _ _ _ _ e] at hx; exact H.dom x o hx
 ·intro x k l L i v hx hL hi hv
  by_cases e : x = b
  ·subst e; simp [dQg] at hx
  ·simp only [dQf _ _ _ _ e] at hx
   exact H.cell x k l L i v hx hL hi hv
 ·intro x l L es j hx hL hj
  by_cases e : x = b
  ·subst e; simp [dQg] at hx
  ·simp only [dQf _ _ _ _ e] at hx
   exact H.spare x l L es j hx hL hj
 ·intro x a hc hro
  by_cases e : x = b
  ·subst e; exact absurd hc hnew
  ·obtain ⟨h3, h4, h5⟩ := H.free x a (hold e hc) (fun h => hro ((hroo x e).2 h))
   exact ⟨h3, by rw [← hB]; exact h4, fun hk => h5 (hX _ hk)⟩
 ·intro x x' a hc hc' hro
  by_cases e : x = b
  ·subst e; exact absurd hc hnew
  ·by_cases e' : x' = b
   ·subst e'; exact absurd hc' hnew
   ·exact H.inj x x' a (hold e hc) (hold e' hc') (fun h => hro ((hroo x e).2 h))
 ·intro x l L hx hL
  by_cases e : x = b
  ·subst e; simp [dQg] at hx
  ·simp only [dQf _ _ _ _ e] at hx
   exact H.ex x l L hx hL
 ·intro x es l i v hx hi
  by_cases e : x = b
  ·subst e; simp [dQg] at hx
  ·simp only [dQf _ _ _ _ e] at hx
   exact H.grone x es l i v hx hi
 ·intro x o L h0 hx hL
  by_cases e : x = b
  ·subst e
   simp only [dQg, aT] at hx
   subst hx
   rw [hb] at hL
   cases hL
   exact ⟨⟨hBr, hXr⟩, ⟨rfl, rfl⟩, _, hr, ⟨#[], 0, rfl, .nil, .nil, rfl, by simp⟩⟩
  ·simp only [dQf _ _ _ _ e] at hx
   obtain ⟨⟨h1, h1'⟩, h2⟩ := H.itr x o L h0 hx hL
   exact ⟨⟨by rw [← hB]; exact h1, fun hk => h1' (hX _ hk)⟩, h2⟩
 ·intro x o x' o' L L' h0 h0' hx hx' hL hL' he
  by_cases e : x = b
  ·by_cases e' : x' = b
   ·rw [e, e']
   ·subst e
    rw [hb] at hL
    cases hL
    simp only [dQf _ _ _ _ e'] at hx'
    obtain ⟨⟨_, h1'⟩, _⟩ := H.itr x' o' L' h0' hx' hL'
    exact absurd (he ▸ hXr') h1'
  ·by_cases e' : x' = b
   ·subst e'
    rw [hb] at hL'
    cases hL'
    simp only [dQf _ _ _ _ e] at hx
    obtain ⟨⟨_, h1'⟩, _⟩ := H.itr x o L h0 hx hL
    exact absurd (he ▸ hXr') h1'
   ·simp only [dQf _ _ _ _ e] at hx
    simp only [dQf _ _ _ _ e'] at hx'
    exact H.itj x o x' o' L L' h0 h0' hx hx' hL hL' he
def MO (ρ : Ren) (ob : Ob) (x : Obj) : Prop :=
 (∃ (cs : List DV) (arr : Array Value) (t : TypeId), ob = .row .ex cs ∧ x = .cells arr t (0, 0) ∧ VRs ρ cs arr.toList) ∨ (ob = .mp [] ∧ x = .map #[] 0)
theorem MO.mono {ob : Ob} {x : Obj} {ρ' : Ren} (h : MO ρ ob x) (e : Ext ρ ρ') : MO ρ' ob x := by
 rcases h with ⟨cs, arr, t, h1, h2, h3⟩ | h
 ·exact .inl ⟨cs, arr, t, h1, h2, h3.mono e⟩
 ·exact .inr h
theorem dSj (H : HR G' ρ h w) (hB : G'.B = G.B) (hX : ∀ k, G.X k → G'.X k) (hN : G.N ≤ G'.N) (hW : G'.W = G.W) {b : Pos} {r : Nat} {ob : Ob} {x : Obj}
  (hb : ρ b = some ⟨r, 0, 0, none⟩) (hr : w.heap[r]? = some x) (hm : MO ρ ob x) (hBr : G.B ≤ r) (hXr : ¬ G.X r) (hXr' : G'.X r) :
  HR G ρ ⟨h.next, Tr.set ob b h.bl⟩ w := by
 rcases hm with ⟨cs, arr, t, rfl, rfl, h3⟩ | ⟨rfl, rfl⟩
 ·exact H.adopt hB hX hN hW hb hr h3 hBr hXr hXr'
 ·exact H.adoptMp hB hX hN hW hb hr hBr hXr hXr'
end
section
variable {C : Cfg} {ρ : Ren} {w : World} {h h1 : Hp} {v : DV} {a : Act} {env : bC}
theorem cSg (he : EnvR ρ env a) {o : Oper} {b : Pos} (hp : eC C o b env h = some (v, h1)) (hb : ρ b = none) :
  ∃ (ob : Ob) (x0 : Obj) (v' : Value), (execOp a.eval o).run C.P w = .ok (.value v') (w.alloc x0) ∧ MO ρ ob x0 ∧
   h1 = ⟨h.next, Tr.set ob b h.bl⟩ ∧ VR (mS ρ b ⟨w.heap.size, 0, 0, none⟩) v v' := by
 unfold eC at hp
 split at hp <;> (try (cases hp; done))
 ·rename_i t ho
  split at hp <;> (try (cases hp; done))
  rename_i i hi
  split at hp <;> (try (cases hp; done))
  rename_i z hz
  simp only [nA, aT, bF] at hp
  obtain ⟨rfl, rfl⟩ := hp
  refine ⟨_, .cells z.cells t, .pointer (some ⟨w.heap.size, 0, none⟩), ?_, .inl ⟨_, _, _, rfl, rfl, dSc ρ z⟩, rfl, .p _ 0 ⟨w.heap.size, 0, 0, none⟩ (bX _ _ _)⟩
  unfold execOp
  simp only [ho, Instr.alloc, Sem.run_bind, rZ hi hz, Result.andThen_ok]
  simp [newVar, newRow]
 ·rename_i t x ho
  unfold yI at hp
  split at hp <;> (try (cases hp; done))
  rename_i cs hc
  simp only [nA, aT, bF] at hp
  obtain ⟨rfl, rfl⟩ := hp
  refine ⟨.row .ex cs, .cells (a.eval x).cells t, .pointer (some ⟨w.heap.size, 0, none⟩), ?_, .inl ⟨_, _, _, rfl, rfl, (aU he x).cells hc⟩, rfl, .p _ 0 ⟨w.heap.size, 0, 0, none⟩ (bX _ _ _)⟩
  unfold execOp
  simp [ho, Instr.box, newVar, newRow]
 ·rename_i t n ps ho
  split at hp <;> (try (cases hp; done))
  rename_i e ht
  split at hp <;> (try (cases hp; done))
  rename_i i hi
  split at hp <;> (try (cases hp; done))
  rename_i z hz
  split at hp <;> (try (cases hp; done))
  rename_i hc
  unfold cG at hp
  split at hp <;> (try (cases hp; done))
  rename_i cs hf
  simp only [aT, bF] at hp
  obtain ⟨rfl, rfl⟩ := hp
  obtain ⟨out', h3, h4⟩ := oA (P := C.P) (w := w) (ρ := ρ) (aU he) ht hi hz hc.1 hc.2.1 hc.2.2 hf
  refine ⟨.row .ex cs, .cells out' e, .slice (some ⟨w.heap.size, 0, none⟩) n n, ?_, .inl ⟨_, _, _, rfl, rfl, h4⟩, rfl, .l _ 0 n n ⟨w.heap.size, 0, 0, none⟩ (bX _ _ _)⟩
  unfold execOp
  simp only [ho, Sem.run_bind]
  rw [h3]
  simp
 ·rename_i t ho
  simp only [kL, aT, bF] at hp
  obtain ⟨rfl, rfl⟩ := hp
  refine ⟨.mp [], .map #[] 0, .map (some w.heap.size), ?_, .inr ⟨rfl, rfl⟩, rfl, .m _ ⟨w.heap.size, 0, 0, none⟩ (bX _ _ _)⟩
  unfold execOp
  simp only [ho, Instr.makeMap, Sem.run_bind, Sem.run_pure, Result.andThen_ok, run_newObj]
  rfl
end
end Go.Dd

namespace Go.Dd
open Go.RowKit (Below)
section
variable {C : Cfg} {G : Gd} {rec : FuncId → List DV → Hp → aG} {ops : Array Oper} {nt : Nat} {p0 : Pos}
theorem uR {listed : Array Bool} {i : Nat} : i ∈ Region.ready .any ops listed ↔ i < ops.size ∧ listed.getD i true = false ∧ ∃ o, ops[i]? = some o ∧ ∀ e ∈ o.after, Region.binds .any e = true → listed.getD e.on false = true := by
 unfold Region.ready
 rw [List.mem_filter]
 simp only [List.mem_range, Bool.and_eq_true, Bool.not_eq_eq_eq_not, Bool.not_true]
 constructor
 ·rintro ⟨h1, h2, h3⟩
  refine ⟨h1, h2, ops[i], by simp [h1], fun e he hb => ?_⟩
  simp only [h1, getElem?_pos, Option.map_some, Option.getD_some] at h3
  have := (Array.all_eq_true_iff_forall_mem.1 h3) e he
  simpa [hb] using this
 ·rintro ⟨h1, h2, o, ho, h3⟩
  refine ⟨h1, h2, ?_⟩
  simp only [ho, Option.map_some, Option.getD_some]
  refine Array.all_eq_true_iff_forall_mem.2 fun e he => ?_
  cases hb : Region.binds .any e with
  | false => simp
  | true => simp [h3 e he hb]
noncomputable def idp (C : Cfg) (ops : Array Oper) (p0 : Pos) (p : Nat) : Pos := cK (cF C.P (ops.toList.take p)) p0
structure Tr1 (C : Cfg) (rec : FuncId → List DV → Hp → aG) (ops : Array Oper) (nt : Nat) (p0 : Pos) (E : Nat → bC) (Hh : Nat → Hp) (V : Nat → DV) : Prop where
 ok : eW C.P ops = true
 st : ∀ p o, ops[p]? = some o → StepT C rec ops (Region.before ops) nt (idp C ops p0 p) E Hh V 0 [(none, Hh 0)] p o
theorem Tr1.same {E : Nat → bC} {Hh : Nat → Hp} {V : Nat → DV} (T : Tr1 C rec ops nt p0 E Hh V) {p : Nat} {o : Oper} (ho : ops[p]? = some o) (hc : bV C.P o.op ≠ .acts) (hm : bV C.P o.op ≠ .makes) : Hh (p + 1) = Hh p := by
 have hs := (T.st p o ho).step hm
 cases hcl : bV C.P o.op with
 | pure => exact (sW hcl _ _ _ hs).1
 | reads => exact qQ hcl hs
 | makes => exact absurd hcl hm
 | acts => exact absurd hcl hc
def cTg (C : Cfg) (ops : Array Oper) (q : Nat) : Prop := q = 0 ∨ ∃ j oj, ops[j]? = some oj ∧ bV C.P oj.op = .acts ∧ q = j + 1
theorem qF {m : Array Nat} {i q : Nat} {Pv : Hp → Prop} {Hh : Nat → Hp} {tl : List (Option Nat × Hp)} : ∀ d, q ≤ d → tJ m i Pv (jI C ops Hh 0 d ++ tl) →
  (∀ j oj, ops[j]? = some oj → bV C.P oj.op = .acts → q ≤ j → j < d → ¬ gM m j i = true) → tJ m i Pv (jI C ops Hh 0 q ++ tl)
 | 0, hq, hc, _ => by have : q = 0 := by omega
                      subst this; exact hc
 | d + 1, hq, hc, hno => by
  by_cases e : q = d + 1
  ·subst e; exact hc
  ·have hq' : q ≤ d := by omega
   simp only [jI, Nat.zero_add] at hc
   cases ha : kG C ops d with
   | false =>
    rw [ha] at hc
    simp only [Bool.false_eq_true, if_false, List.nil_append] at hc
    exact qF d hq' hc fun j oj h1 h2 h3 h4 => hno j oj h1 h2 h3 (by omega)
   | true =>
    rw [ha] at hc
    simp only [if_true, List.cons_append, List.nil_append] at hc
    obtain ⟨_, h2⟩ := hc
    have ⟨oj, hoj, hcj⟩ : ∃ oj, ops[d]? = some oj ∧ bV C.P oj.op = .acts := by
     unfold kG at ha
     split at ha
     ·rename_i o ho; exact ⟨o, ho, by simpa using ha⟩
     ·cases ha
    rcases h2 with h2 | h2
    ·exact absurd h2 (hno d oj hoj hcj hq' (by omega))
    ·exact qF d hq' h2 fun j oj h1 h2 h3 h4 => hno j oj h1 h2 h3 (by omega)
theorem Tr1.value {E : Nat → bC} {Hh : Nat → Hp} {V : Nat → DV} (T : Tr1 C rec ops nt p0 E Hh V) {listed : Array Bool} {i q : Nat} {o : Oper} (ho : ops[i]? = some o) (hc : bV C.P o.op ≠ .acts) (hm : bV C.P o.op ≠ .makes)
  (hq : cTg C ops q) (hgap : ∀ j oj, ops[j]? = some oj → bV C.P oj.op = .acts → (j < q ↔ S listed j))
  (hni : ¬ S listed i) (hdown : ∀ j x, gM (Region.before ops) j x = true → S listed x → S listed j) (hpre : ∀ j, gM (Region.before ops) j i = true → S listed j) :
  bJ C rec ops o (E i) (Hh q) = some (V i, Hh q) := by
 have hst := T.st i o ho
 cases hcl : bV C.P o.op with
 | acts => exact absurd hcl hc
 | makes => exact absurd hcl hm
 | pure => exact (sW hcl _ _ _ (hst.step hm)).2 _
 | reads =>
  rcases Nat.lt_or_ge i q with h | h
  ·rcases hq with rfl | ⟨j, oj, hj, haj, rfl⟩
   ·omega
   ·have hSj : S listed j := (hgap j oj hj haj).1 (by omega)
    have hij : i ≠ j := fun e => by subst e; exact hni hSj
    rcases (T.st j oj hj).acts haj i o (Nat.zero_le _) (by omega) ho hcl with h3 | h3
    ·exact absurd (hdown i j h3 hSj) hni
    ·exact vE hcl h3
  ·have h1 := hst.reads hcl
   rw [Nat.sub_zero] at h1
   have h2 := qF (q := q) i h h1 fun j oj hj haj hqj hji hord => by
    have := (hgap j oj hj haj).2 (hpre j hord)
    omega
   rcases hq with rfl | ⟨j, oj, hj, haj, rfl⟩
   ·exact h2.1
   ·simp only [jI, Nat.zero_add, (bEp hj).2 haj, if_true, List.cons_append, List.nil_append] at h2
    exact h2.1
theorem cNs {listed : Array Bool} {i j : Nat} (hi : i < listed.size) : S (listed.setIfInBounds i true) j ↔ (j = i ∨ S listed j) := by
 unfold S
 by_cases e : j = i
 ·subst e; simp [hi]
 ·simp [Array.getElem?_setIfInBounds_ne (Ne.symm e), e]
theorem tO {listed : Array Bool} {i : Nat} (hi : i < listed.size) : listed.getD i true = listed.getD i false := by
 simp [hi]
theorem cTx {V : Nat → DV} {env : bC} {listed : Array Bool} {i : Nat} {o : Oper} (ho : ops[i]? = some o) (hi : i < listed.size) (hni : ¬ S listed i) (t : Nat)
  (hlast : ∀ j oj, i < j → ops[j]? = some oj → oj.dst = some t → o.dst = some t → ¬ S listed j) :
  ∀ p, i < p → TS ops V env (listed.setIfInBounds i true) p t = if o.dst = some t then V i else TS ops V env listed p t := by
 have hbefore : ∀ p, p ≤ i → TS ops V env (listed.setIfInBounds i true) p = TS ops V env listed p := by
  intro p
  induction p with
  | zero => intro _; rfl
  | succ p ih =>
   intro h
   have e : (listed.setIfInBounds i true).getD p false = listed.getD p false := by simp [Array.getElem?_setIfInBounds_ne (show i ≠ p by omega)]
   simp only [TS, ih (by omega), e]
 intro p
 induction p with
 | zero => intro h; omega
 | succ p ih =>
  intro h
  by_cases hpi : p = i
  ·subst hpi
   have e1 : (listed.setIfInBounds p true).getD p false = true := by simp [hi]
   have e2 : ¬ listed.getD p false = true := hni
   simp only [TS, ho, hbefore p (Nat.le_refl _), e1, if_true, mQ]
   rw [if_neg e2]
  ·have ih' := ih (by omega)
   have e : (listed.setIfInBounds i true).getD p false = listed.getD p false := by simp [Array.getElem?_setIfInBounds_ne (Ne.symm hpi)]
   cases hop : ops[p]? with
   | none => simp only [TS, hop]; exact ih'
   | some op =>
    simp only [TS, hop, e]
    split
    ·rename_i hl
     rw [mQ, mQ, ih']
     by_cases hd : op.dst = some t
     ·rw [if_pos hd, if_pos hd]
      by_cases hod : o.dst = some t
      ·exact absurd hl (hlast p op (by omega) hop hd hod)
      ·rw [if_neg hod]
     ·rw [if_neg hd, if_neg hd]
    ·exact ih'
def jG (C : Cfg) (ops : Array Oper) (listed : Array Bool) (q i : Nat) : Prop := ∃ o, ops[i]? = some o ∧ bV C.P o.op = .makes ∧ S listed i ∧ q ≤ i
def GX (G : Gd) (N : Nat) (C : Cfg) (ops : Array Oper) (listed : Array Bool) (R : Nat → Nat) (q : Nat) : Gd := ⟨G.B, fun k => G.X k ∨ ∃ i, jG C ops listed q i ∧ R i = k, N, G.W, G.ok⟩
structure Made (G : Gd) (C : Cfg) (ops : Array Oper) (p0 : Pos) (Hh : Nat → Hp) (ρ : Ren) (w : World) (R : Nat → Nat) (i : Nat) : Prop where
 name : ρ (idp C ops p0 i) = some ⟨R i, 0, 0, none⟩
 low : G.B ≤ R i
 ex : ¬ G.X (R i)
 row : ∃ (x0 : Obj) (ob : Ob), w.heap[R i]? = some x0 ∧ MO ρ ob x0 ∧ Hh (i + 1) = ⟨(Hh i).next, Tr.set ob (idp C ops p0 i) (Hh i).bl⟩
theorem aMp {E : Nat → bC} {Hh : Nat → Hp} {V : Nat → DV} (T : Tr1 C rec ops nt p0 E Hh V) {listed : Array Bool} {R : Nat → Nat} {N q : Nat} {ρ : Ren} {w : World}
  (hmade : ∀ i, jG C ops listed q i → Made G C ops p0 Hh ρ w R i) (hdist : ∀ i i', jG C ops listed q i → jG C ops listed q i' → R i = R i' → i = i') :
  ∀ p, q ≤ p → p ≤ ops.size → (∀ j oj, ops[j]? = some oj → q ≤ j → j < p → bV C.P oj.op ≠ .acts ∧ (bV C.P oj.op = .makes → S listed j)) →
  HR (GX G N C ops listed R q) ρ (Hh q) w → HR (GX G N C ops listed R p) ρ (Hh p) w := by
 intro p
 induction p with
 | zero => intro h1 _ _ H; have : q = 0 := by omega
           subst this; exact H
 | succ p ih =>
  intro h1 h2 hr H
  by_cases e : q = p + 1
  ·subst e; exact H
  ·have H' := ih (by omega) (by omega) (fun j oj hj hq hjp => hr j oj hj hq (by omega)) H
   obtain ⟨o, ho⟩ : ∃ o, ops[p]? = some o := ⟨ops[p], by simp [show p < ops.size by omega]⟩
   obtain ⟨ha, hm⟩ := hr p o ho (by omega) (by omega)
   have hsub : ∀ k, (GX G N C ops listed R (p + 1)).X k → (GX G N C ops listed R p).X k := by
    rintro k (hk | ⟨i, ⟨oi, h3, h4, h5, h6⟩, h7⟩)
    ·exact .inl hk
    ·exact .inr ⟨i, ⟨oi, h3, h4, h5, by omega⟩, h7⟩
   by_cases hmk : bV C.P o.op = .makes
   ·have hE : jG C ops listed q p := ⟨o, ho, hmk, hm hmk, by omega⟩
    have hM := hmade p hE
    obtain ⟨x0, ob, r1, r2, r3⟩ := hM.row
    rw [r3]
    refine dSj (G := GX G N C ops listed R (p + 1)) H' rfl hsub (Nat.le_refl _) rfl hM.name r1 r2 hM.low ?_ (.inr ⟨p, ⟨o, ho, hmk, hm hmk, Nat.le_refl _⟩, rfl⟩)
    rintro (hk | ⟨i, ⟨oi, h3, h4, h5, h6⟩, h7⟩)
    ·exact hM.ex hk
    ·have := hdist i p ⟨oi, h3, h4, h5, by omega⟩ hE h7
     omega
   ·rw [T.same ho ha hmk]
    exact H'.weak rfl hsub (Nat.le_refl _) rfl
def Inv (DD : List Deferred) (C : Cfg) (G : Gd) (ops : Array Oper) (nt : Nat) (p0 : Pos) (N : Nat) (E : Nat → bC) (Hh : Nat → Hp) (V : Nat → DV) (ρ : Ren) (w0 : World) (listed : Array Bool) (a : Act) (w : World) : Prop :=
 listed.size = ops.size ∧ (∀ j x, gM (Region.before ops) j x = true → S listed x → S listed j) ∧
 ∃ q, q ≤ ops.size ∧ cTg C ops q ∧ (∀ j oj, ops[j]? = some oj → bV C.P oj.op = .acts → (j < q ↔ S listed j)) ∧
 ∃ (ρ' : Ren) (R : Nat → Nat), Ex G ρ ρ' ∧ HR (GX G N C ops listed R q) ρ' (Hh q) w ∧ EnvR ρ' (TS ops V (E 0) listed ops.size) a ∧ Kp G w0 w ∧ nt ≤ a.tmps.size ∧ a.defers = DD ∧
  (∀ i o, ops[i]? = some o → bV C.P o.op = .makes → ¬ S listed i → ρ' (idp C ops p0 i) = none) ∧
  (∀ i, jG C ops listed q i → Made G C ops p0 Hh ρ' w R i) ∧ (∀ i i', jG C ops listed q i → jG C ops listed q i' → R i = R i' → i = i')
theorem bVo {i : Nat} {o : Oper} (ho : ops[i]? = some o) (hm : bV C.P o.op = .makes) : (idp C ops p0 i).toNat < p0.toNat + cF C.P ops.toList := by
 unfold idp
 rw [dY]
 have hlt : i < ops.toList.length := by
  rcases Nat.lt_or_ge i ops.toList.length with h | h
  ·exact h
  ·simp at h; simp [Array.getElem?_eq_none h] at ho
 have key : ∀ (l : List Oper) (i : Nat), l[i]? = some o → cF C.P (l.take i) < cF C.P l := by
  intro l
  induction l with
  | nil => intro i h; simp at h
  | cons x l ih =>
   intro i h
   cases i with
   | zero => simp at h; subst h; simp [cF, hm]; omega
   | succ i => simp at h; have := ih i h; simp only [List.take_succ_cons, cF]; omega
 have := key ops.toList i (by simpa using ho)
 omega
theorem cSu {i i' : Nat} {o o' : Oper} (ho : ops[i]? = some o) (hm : bV C.P o.op = .makes) (ho' : ops[i']? = some o') (hm' : bV C.P o'.op = .makes) (hne : i ≠ i') : idp C ops p0 i ≠ idp C ops p0 i' := by
 have key : ∀ (l : List Oper) (i j : Nat) (o : Oper), l[i]? = some o → bV C.P o.op = .makes → i < j → cF C.P (l.take i) < cF C.P (l.take j) := by
  intro l
  induction l with
  | nil => intro i j o h; simp at h
  | cons x l ih =>
   intro i j o h hm hij
   cases j with
   | zero => omega
   | succ j =>
    cases i with
    | zero => simp at h; subst h; simp only [List.take_succ_cons, cF, hm, List.take_zero]; omega
    | succ i => simp at h; have := ih i j o h hm (by omega); simp only [List.take_succ_cons, cF]; omega
 intro e
 have e' := congrArg Pos.toNat e
 unfold idp at e'
 rw [dY, dY] at e'
 rcases Nat.lt_or_ge i i' with h | h
 ·have := key ops.toList i i' o (by simpa using ho) hm h; omega
 ·have := key ops.toList i' i o' (by simpa using ho') hm' (by omega); omega
theorem bOr {DD : List Deferred} (K : OkC C rec) {N : Nat} {E : Nat → bC} {Hh : Nat → Hp} {V : Nat → DV} (T : Tr1 C rec ops nt p0 E Hh V) (hN : N = p0.toNat + cF C.P ops.toList) (hGN : G.N ≤ p0.toNat) {ρ : Ren} {w0 : World} {Q : Exit → Act → World → Prop}
  (hQ : ∀ ρ' a' w', Ex G ρ ρ' → HR G ρ' (Hh ops.size) w' → EnvR ρ' (E ops.size) a' → Kp G w0 w' → nt ≤ a'.tmps.size → a'.defers = DD → Q .normal a' w') :
  ∀ (fuel : Nat) (listed : Array Bool) (a : Act) (w : World), Inv DD C G ops nt p0 N E Hh V ρ w0 listed a w → ((List.range ops.size).filter fun i => !listed.getD i false).length ≤ fuel → wpAny C.P .any ops Q fuel listed a w := by
 have hlt : ∀ p, p < ops.size → ∃ o, ops[p]? = some o := fun p hp => ⟨ops[p], by simp [hp]⟩
 have hin : ∀ (j : Nat) oj, ops[j]? = some oj → j < ops.size := fun j oj hj => by
  rcases Nat.lt_or_ge j ops.size with h | h
  ·exact h
  ·simp [Array.getElem?_eq_none h] at hj
 have hend : ∀ listed a w, Inv DD C G ops nt p0 N E Hh V ρ w0 listed a w → (∀ i, i < ops.size → S listed i) → Q .normal a w := by
  rintro listed a w ⟨hsz, hdown, q, hq, hcand, hgap, ρ', R, h1, h2, h3, h4, h5, h6, h7, h8, h9⟩ hall
  have hH := aMp (G := G) T h8 h9 ops.size hq (Nat.le_refl _) (fun j oj hj hqj hjn => ⟨fun ha => by
   have := (hgap j oj hj ha).2 (hall j hjn)
   omega, fun _ => hall j hjn⟩) h2
  have hE : ∀ t, TS ops V (E 0) listed ops.size t = E ops.size t := fun t =>
   bMq (E := E) rfl (fun p o hp ho => (T.st p o ho).env) (fun p hp => hlt p hp) (fun j o hj _ _ => hall j hj) ops.size (Nat.le_refl _)
  refine hQ ρ' a w h1 (hH.weak rfl (fun k hk => .inl hk) (by show G.N ≤ N; omega) rfl) (fun t => ?_) h4 h5 h6
  rw [← hE t]
  exact h3 t
 have hready : ∀ listed, listed.size = ops.size → Region.ready .any ops listed = [] → ∀ i, i < ops.size → S listed i := by
  intro listed hsz hr i
  induction i using Nat.strongRecOn with
  | _ i ih =>
   intro hi
   obtain ⟨o, ho⟩ := hlt i hi
   by_cases hs : S listed i
   ·exact hs
   ·exfalso
    have hmem : i ∈ Region.ready .any ops listed := by
     rw [uR]
     refine ⟨hi, ?_, o, ho, fun e he hb => ?_⟩
     ·rw [tO (by omega)]
      unfold S at hs
      simpa using hs
     ·have := (dZ T.ok ho).1 e he hb
      exact ih e.on this (by omega)
    rw [hr] at hmem
    cases hmem
 intro fuel
 induction fuel with
 | zero =>
  intro listed a w hI hfuel
  have hall : ∀ i, i < ops.size → S listed i := by
   intro i hi
   by_cases hs : S listed i
   ·exact hs
   ·exfalso
    have : i ∈ (List.range ops.size).filter fun i => !listed.getD i false := by
     rw [List.mem_filter]
     refine ⟨by simpa using hi, ?_⟩
     unfold S at hs
     simpa using hs
    have := List.length_pos_of_mem this
    omega
  refine ⟨?_, hend listed a w hI hall⟩
  cases hr : Region.ready .any ops listed with
  | nil => rfl
  | cons x xs =>
   have hx : x ∈ Region.ready .any ops listed := by rw [hr]; simp
   rw [uR] at hx
   have := hall x hx.1
   rw [tO (by rw [hI.1]; exact hx.1)] at hx
   unfold S at this
   rw [this] at hx
   cases hx.2.1
 | succ fuel ih =>
  intro listed a w hI hfuel
  refine ⟨fun hr => hend listed a w hI (hready listed hI.1 hr), fun i hi => ?_⟩
  obtain ⟨hsz, hdown, q, hq, hcand, hgap, ρ', R, h1, h2, h3, h4, h5, h6, h7, h8, h9⟩ := hI
  rw [uR] at hi
  obtain ⟨hisz, hni, o, ho, hpre0⟩ := hi
  rw [tO (by omega)] at hni
  have hnS : ¬ S listed i := by unfold S; rw [hni]; simp
  have hpre : ∀ j, gM (Region.before ops) j i = true → S listed j := by
   intro j hj
   obtain ⟨e, he, hb, h | h⟩ := aOk ho hj
   ·rw [← h]; exact hpre0 e he hb
   ·exact hdown j e.on h (hpre0 e he hb)
  have hst := T.st i o ho
  have hlook : ∀ t ∈ o.looksAt ops, TS ops V (E 0) listed ops.size t = E i t := by
   intro t ht
   rw [bZi (i := i) (fun j oj hij hj hd hS => ?_) ops.size (by omega)]
   ·exact bMq (E := E) rfl (fun p op hp hop => (T.st p op hop).env) (fun p hp => hlt p (by omega)) (fun j oj hj hoj hd => by
     rcases (dZ T.ok ho).2.2 j oj hj hoj with h | ⟨h, _⟩
     ·exact hpre j h
     ·exact absurd ht ((Oper.apart_spec h).1 t hd)) i (Nat.le_refl _)
   ·rcases Nat.eq_or_lt_of_le hij with e | e
    ·subst e; exact hnS hS
    ·rcases (dZ T.ok hj).2.2 i o e ho with h | ⟨h, _⟩
     ·exact hnS (hdown i j h hS)
     ·exact absurd ht ((Oper.apart_spec h).2.2 t hd)
  have hmkq : ∀ j oj, ops[j]? = some oj → bV C.P oj.op = .makes → j < q → S listed j := by
   intro j oj hj hmj hjq
   rcases hcand with rfl | ⟨l, ol, hl, hal, rfl⟩
   ·omega
   ·have hSl : S listed l := (hgap l ol hl hal).1 (by omega)
    have hjl : j ≠ l := fun e => by subst e; rw [hl] at hj; cases hj; rw [hal] at hmj; cases hmj
    rcases (dZ T.ok hl).2.2 j oj (by omega) hj with h | ⟨_, h⟩
    ·exact hdown j l h hSl
    ·exact absurd ⟨.inr hmj, hal⟩ h
  have hdown' : ∀ j x, gM (Region.before ops) j x = true → S (listed.setIfInBounds i true) x → S (listed.setIfInBounds i true) j := by
   intro j x hjx hx
   rw [cNs (by omega)] at hx ⊢
   rcases hx with rfl | hx
   ·exact .inr (hpre j hjx)
   ·exact .inr (hdown j x hjx hx)
  have hTS : ∀ (ρ2 : Ren) (v2 : Value), Ext ρ' ρ2 → VR ρ2 (V i) v2 → EnvR ρ2 (TS ops V (E 0) (listed.setIfInBounds i true) ops.size) (a.put o.dst v2) := by
   intro ρ2 v2 e1 e2 t
   rw [cTx ho (by omega) hnS t (fun j oj hij hj hd hod hS => by
    rcases (dZ T.ok hj).2.2 i o hij ho with h | ⟨h, _⟩
    ·exact hnS (hdown i j h hS)
    ·exact (Oper.apart_spec h).2.1 t hod hd) ops.size (by omega)]
   have := EnvR.put h3 e1 e2 hst.fits h5 t
   rwa [mQ] at this
  have hcount : ((List.range ops.size).filter fun j => !(listed.setIfInBounds i true).getD j false).length ≤ fuel := by
   have hmem : i ∈ (List.range ops.size).filter fun i => !listed.getD i false := by
    rw [List.mem_filter]
    exact ⟨by simpa using hisz, by simp [hni]⟩
   have hle : ((List.range ops.size).filter fun j => !(listed.setIfInBounds i true).getD j false).length < ((List.range ops.size).filter fun j => !listed.getD j false).length := by
    have hsub : ((List.range ops.size).filter fun j => !(listed.setIfInBounds i true).getD j false) = ((List.range ops.size).filter fun j => !listed.getD j false).filter (fun j => j != i) := by
     rw [List.filter_filter]
     apply List.filter_congr
     intro j hj
     by_cases e : j = i
     ·subst e; simp [show j < listed.size by omega]
     ·simp [Array.getElem?_setIfInBounds_ne (Ne.symm e), e]
    rw [hsub]
    exact List.length_filter_lt_length_iff_exists.2 ⟨i, hmem, by simp⟩
   omega
  have hS' : ∀ j, S (listed.setIfInBounds i true) j ↔ (j = i ∨ S listed j) := fun j => cNs (by omega)
  by_cases hmk : bV C.P o.op = .makes
  ·
   have hqi : q ≤ i := by
    rcases Nat.lt_or_ge i q with h | h
    ·exact absurd (hmkq i o ho hmk h) hnS
    ·exact h
   have hg := (dZ T.ok ho).2.1 hmk
   have hbn := h7 i o ho hmk hnS
   have hst1 := hst.made hmk
   have hext : Ext ρ' (mS ρ' (idp C ops p0 i) ⟨w.heap.size, 0, 0, none⟩) := by
    intro x L hx
    by_cases e : x = idp C ops p0 i
    ·subst e; rw [hbn] at hx; cases hx
    ·rw [aS _ _ e]; exact hx
   have hE0 : eC C o (idp C ops p0 i) (TS ops V (E 0) listed ops.size) (Hh i) = some (V i, Hh (i + 1)) := by
    rw [← hst1]
    refine aCc fun x hx => aCu fun t ht => hlook t ?_
    unfold Oper.looksAt
    refine List.mem_append_left _ (List.mem_filterMap.2 ⟨x, by simpa using hx, ?_⟩)
    rw [ht]
   obtain ⟨ob, x0, v', m1, m2, m3, m4⟩ := cSg (w := w) h3 hE0 hbn
   have hidlt := bVo (p0 := p0) ho hmk
   have H2 := h2.early hbn (by have := h2.nx; simp only [GX] at this; omega) x0
   unfold wpOp
   simp only [ho]
   rw [if_pos (by simp [Region.wanted, hg])]
   refine .inl ?_
   unfold Oper.wp
   rw [m1]
   show wpAny C.P .any ops Q fuel (listed.setIfInBounds i true) (a.put o.dst v') (w.alloc x0)
   have hEarly : ∀ j, jG C ops (listed.setIfInBounds i true) q j → j = i ∨ jG C ops listed q j := by
    rintro j ⟨oj, e1, e2, e3, e4⟩
    rcases (hS' j).1 e3 with e | e
    ·exact .inl e
    ·exact .inr ⟨oj, e1, e2, e, e4⟩
   have hRlt : ∀ j, jG C ops listed q j → R j < w.heap.size := fun j hj => h2.sz.2 _ (.inr ⟨j, hj, rfl⟩)
   have hjne : ∀ j, jG C ops listed q j → j ≠ i := by
    rintro j ⟨oj, e1, e2, e3, e4⟩ e
    subst e; exact hnS e3
   refine ih _ _ _ ⟨by simpa using hsz, hdown', q, hq, hcand, fun j oj hj haj => ?_, mS ρ' (idp C ops p0 i) ⟨w.heap.size, 0, 0, none⟩, fun j => if j = i then w.heap.size else R j, ?_, ?_, hTS _ _ hext m4, ?_, by rw [lS]; exact h5, by rw [iQ]; exact h6, ?_, ?_, ?_⟩ hcount
   ·rw [hS' j, hgap j oj hj haj]
    constructor
    ·exact .inr
    ·rintro (h | h)
     ·subst h; rw [ho] at hj; cases hj; rw [hmk] at haj; cases haj
     ·exact h
   ·refine h1.trans ⟨hext, fun b L hb => ?_⟩
    by_cases e : b = idp C ops p0 i
    ·right
     rw [e]
     unfold idp
     rw [dY]
     omega
    ·rw [aS _ _ e] at hb; exact .inl hb
   ·refine H2.weak rfl ?_ (Nat.le_refl _) rfl
    rintro k (hk | ⟨j, hj, hjk⟩)
    ·exact .inl (.inl hk)
    ·rcases hEarly j hj with rfl | hj'
     ·right; simpa using hjk.symm
     ·left; right
      refine ⟨j, hj', ?_⟩
      simpa [hjne j hj'] using hjk
   ·exact h4.trans (dS (G := G) ⟨h2.sz.1, fun k hk => h2.sz.2 k (.inl hk)⟩ _)
   ·intro j oj hj hmj hSj
    have hji : j ≠ i := fun e => hSj ((hS' j).2 (.inl e))
    rw [aS _ _ (cSu hj hmj ho hmk hji)]
    exact h7 j oj hj hmj fun h => hSj ((hS' j).2 (.inr h))
   ·intro j hj
    rcases hEarly j hj with rfl | hj'
    ·refine ⟨by simp [bX], by simp; exact h2.sz.1, ?_, x0, ob, ?_, m2.mono hext, m3⟩
     ·simp only [if_true]
      intro hx
      have := h2.sz.2 _ (.inl hx)
      omega
     ·simp only [if_true]
      show (w.heap.push _)[w.heap.size]? = _
      simp
    ·have hM := h8 j hj'
     obtain ⟨x1, ob1, r1, r2, r3⟩ := hM.row
     have hji := hjne j hj'
     refine ⟨?_, by simp [hji]; exact hM.low, by simp [hji]; exact hM.ex, x1, ob1, ?_, r2.mono hext, r3⟩
     ·simp only [hji, if_false]; exact hext _ _ hM.name
     ·simp only [hji, if_false]
      rw [Below.heap_alloc _ _ _ (hRlt j hj')]
      exact r1
   ·intro j j' hj hj' he
    rcases hEarly j hj with rfl | hj1
    ·rcases hEarly j' hj' with rfl | hj1'
     ·rfl
     ·simp only [if_true, hjne j' hj1', if_false] at he
      have := hRlt j' hj1'
      omega
    ·rcases hEarly j' hj' with rfl | hj1'
     ·simp only [if_true, hjne j hj1, if_false] at he
      have := hRlt j hj1
      omega
     ·simp only [hjne j hj1, hjne j' hj1', if_false] at he
      exact h9 j j' hj1 hj1' he
  ·
   have hstep : ∃ q1 q2, q ≤ q1 ∧ q1 ≤ ops.size ∧ q2 ≤ ops.size ∧ q1 ≤ q2 ∧ cTg C ops q2 ∧ HR (GX G N C ops listed R q1) ρ' (Hh q1) w ∧
     bJ C rec ops o (TS ops V (E 0) listed ops.size) (Hh q1) = some (V i, Hh q2) ∧
     (∀ j oj, ops[j]? = some oj → bV C.P oj.op = .acts → (j < q2 ↔ S (listed.setIfInBounds i true) j)) ∧
     (∀ j, jG C ops (listed.setIfInBounds i true) q2 j → jG C ops listed q1 j) := by
    rw [show bJ C rec ops o (TS ops V (E 0) listed ops.size) = bJ C rec ops o (E i) from funext fun h => aLz hlook]
    by_cases ha : bV C.P o.op = .acts
    ·have hqi : q ≤ i := by
      rcases Nat.lt_or_ge i q with h | h
      ·exact absurd ((hgap i o ho ha).1 h) hnS
      ·exact h
     refine ⟨i, i + 1, hqi, by omega, by omega, by omega, .inr ⟨i, o, ho, ha, rfl⟩, ?_, hst.step hmk, fun j oj hj haj => ?_, ?_⟩
     ·refine aMp (G := G) T h8 h9 i hqi (by omega) (fun j oj hj hqj hji => ⟨fun haj => ?_, fun hmj => ?_⟩) h2
      ·rcases (dZ T.ok ho).2.2 j oj hji hj with h | ⟨_, h⟩
       ·have := (hgap j oj hj haj).2 (hpre j h); omega
       ·exact absurd ⟨.inl haj, ha⟩ h
      ·rcases (dZ T.ok ho).2.2 j oj hji hj with h | ⟨_, h⟩
       ·exact hpre j h
       ·exact absurd ⟨.inr hmj, ha⟩ h
     ·rw [hS' j]
      constructor
      ·intro hlt'
       by_cases e : j = i
       ·exact .inl e
       ·right
        rcases (dZ T.ok ho).2.2 j oj (by omega) hj with h | ⟨_, h⟩
        ·exact hpre j h
        ·exact absurd ⟨.inl haj, ha⟩ h
      ·rintro (h | h)
       ·omega
       ·rcases Nat.lt_or_ge i j with hij | hij
        ·rcases (dZ T.ok hj).2.2 i o hij ho with h' | ⟨_, h'⟩
         ·exact absurd (hdown i j h' h) hnS
         ·exact absurd ⟨.inl ha, haj⟩ h'
        ·omega
     ·rintro j ⟨oj, e1, e2, e3, e4⟩
      rcases (hS' j).1 e3 with e | e
      ·omega
      ·exact ⟨oj, e1, e2, e, by omega⟩
    ·refine ⟨q, q, Nat.le_refl _, hq, hq, Nat.le_refl _, hcand, h2, T.value ho ha hmk hcand hgap hnS hdown hpre, fun j oj hj haj => ?_, ?_⟩
     ·rw [hS' j, hgap j oj hj haj]
      constructor
      ·exact .inr
      ·rintro (h | h)
       ·subst h; rw [ho] at hj; cases hj; exact absurd haj ha
       ·exact h
     ·rintro j ⟨oj, e1, e2, e3, e4⟩
      rcases (hS' j).1 e3 with e | e
      ·subst e; rw [ho] at e1; cases e1; exact absurd e2 hmk
      ·exact ⟨oj, e1, e2, e, e4⟩
   obtain ⟨q1, q2, k1, k2, k2', k12, k3, k4, k5, k6, k7⟩ := hstep
   refine wX (wU K k4 h3 k5) rfl ho k4 fun ρ2 w2 v2 e1 e2 e3 e4 => ?_
   have hEq : ∀ j, jG C ops listed q1 j → jG C ops listed q j := by
    rintro j ⟨oj, f1, f2, f3, f4⟩
    exact ⟨oj, f1, f2, f3, by omega⟩
   refine ih _ _ _ ⟨by simpa using hsz, hdown', q2, k2', k3, k6, ρ2, R, ?_, ?_, hTS _ _ e1.ext e2, ?_, by rw [lS]; exact h5, by rw [iQ]; exact h6, ?_, ?_, ?_⟩ hcount
   ·refine h1.trans ⟨e1.ext, fun b L hb => (e1.new b L hb).imp id fun h => ?_⟩
    simp only [GX] at h
    omega
   ·refine e3.weak rfl ?_ (Nat.le_refl _) rfl
    rintro k (hk | ⟨j, hj, hjk⟩)
    ·exact .inl hk
    ·exact .inr ⟨j, k7 j hj, hjk⟩
   ·exact h4.trans ⟨e4.low, fun k hk => e4.ex k (.inl hk)⟩
   ·intro j oj hj hmj hSj
    have hn := h7 j oj hj hmj fun h => hSj ((hS' j).2 (.inr h))
    cases hr : ρ2 (idp C ops p0 j) with
    | none => rfl
    | some L =>
     rcases e1.new _ _ hr with h | h
     ·rw [hn] at h; cases h
     ·have := bVo (p0 := p0) hj hmj
      simp only [GX] at h
      omega
   ·intro j hj
    have hj1 := k7 j hj
    have hM := h8 j (hEq j hj1)
    obtain ⟨x1, ob1, r1, r2, r3⟩ := hM.row
    exact ⟨e1.ext _ _ hM.name, hM.low, hM.ex, x1, ob1, by rw [e4.ex _ (.inr ⟨j, hj1, rfl⟩)]; exact r1, r2.mono e1.ext, r3⟩
   ·intro j j' hj hj' he
    exact h9 j j' (hEq j (k7 j hj)) (hEq j' (k7 j' hj')) he
theorem aNm {DD : List Deferred} (K : OkC C rec) {k : Dd.K} {r : DV × Hp} {env : bC} {h : Hp} {ρ : Ren} {a : Act} {w : World} {Q : Exit → Act → World → Prop}
  (hok : eW C.P ops = true) (hp : iN C rec nt ops k env h = some r) (H : HR G ρ h w) (he : EnvR ρ env a) (hnt : nt ≤ a.tmps.size) (hd : a.defers = DD)
  (hQ : ∀ ρ' env' h' a' w', Ex G ρ ρ' → HR G ρ' h' w' → EnvR ρ' env' a' → Kp G w w' → nt ≤ a'.tmps.size → a'.defers = DD → k env' h' = some r → Q .normal a' w') :
  wpAny C.P .any ops Q ops.size (Array.replicate ops.size false) a { w with drawn := w.drawn + 1 } := by
 obtain ⟨E, Hh, V, e1, e2, e3, e4⟩ := vB (p0 := h.next) ops.toList 0 0 false [] _ env _ r hp (by simp) (fun _ => ⟨_, _, rfl⟩)
 simp only [Nat.zero_add, Array.length_toList, Nat.sub_zero] at e3 e4
 have T : Tr1 C rec ops nt h.next E Hh V := ⟨hok, fun p o ho => by
  have := (e4 p o (Nat.zero_le _) (by
   rcases Nat.lt_or_ge p ops.size with h | h
   ·exact h
   ·simp [Array.getElem?_eq_none h] at ho) ho).1
  rw [← e2] at this
  exact this⟩
 obtain ⟨n1, n2⟩ := sU (cF C.P ops.toList) h
 have hNN : (resv (cF C.P ops.toList) h).next.toNat = h.next.toNat + cF C.P ops.toList := by rw [n1, dY]
 refine (bOr (G := G) K T rfl H.nx (ρ := ρ) (w0 := w) (fun ρ' a' w' h1 h2 h3 h4 h5 h6 => hQ ρ' _ _ a' w' h1 h2 h3 h4 h5 h6 e3) ops.size _ a _ ?_ ?_)
 ·have hno : ∀ j, ¬ S (Array.replicate ops.size false) j := by
   intro j hj
   unfold S at hj
   simp [Array.getElem?_replicate] at hj
   split at hj <;> simp at hj
  have hnoE : ∀ j, ¬ jG C ops (Array.replicate ops.size false) 0 j := by
   rintro j ⟨oj, _, _, h3, _⟩
   exact hno j h3
  refine ⟨by simp, fun j x _ hx => absurd hx (hno x), 0, Nat.zero_le _, .inl rfl, fun j oj hj ha => ⟨fun h => by omega, fun h => absurd h (hno j)⟩, ρ, fun _ => 0, Ex.refl G ρ, ?_, ?_, ?_, hnt, hd, ?_, fun j hj => absurd hj (hnoE j), fun j j' hj => absurd hj (hnoE j)⟩
  ·rw [e2]
   have := (H.reserve (cF C.P ops.toList)).congr (w' := { w with drawn := w.drawn + 1 }) rfl
   rw [hNN] at this
   refine this.weak rfl ?_ (Nat.le_refl _) rfl
   rintro k (hk | ⟨j, hj, _⟩)
   ·exact hk
   ·exact absurd hj (hnoE j)
  ·have hT : ∀ p, TS ops V (E 0) (Array.replicate ops.size false) p = E 0 := by
    intro p
    induction p with
    | zero => rfl
    | succ p ih =>
     simp only [TS, ih]
     split
     ·rename_i o ho
      rw [if_neg (show ¬ (Array.replicate ops.size false).getD p false = true from hno p)]
     ·rfl
   intro t
   rw [hT, e1]
   exact he t
  ·exact (Kp.refl G w).drew
  ·intro j oj hj hmj _
   cases hr : ρ (idp C ops h.next j) with
   | none => rfl
   | some L =>
    have h1 := H.lt _ _ hr
    unfold idp at h1
    rw [dY] at h1
    omega
 ·have := List.length_filter_le (fun i => !(Array.replicate ops.size false).getD i false) (List.range ops.size)
  simpa using this
theorem aWo {DD : List Deferred} (K : OkC C rec) (hm : C.P.follows .mixedOrders = true) {id : Nat} {k : Dd.K} {r : DV × Hp} {env : bC} {h : Hp} {ρ : Ren} {a : Act} {w : World} {Q : Exit → Act → World → Prop}
  (hok : eW C.P ops = true) (hp : iN C rec nt ops k env h = some r) (H : HR G ρ h w) (he : EnvR ρ env a) (hnt : nt ≤ a.tmps.size) (hd : a.defers = DD)
  (hQ : ∀ ρ' env' h' a' w', Ex G ρ ρ' → HR G ρ' h' w' → EnvR ρ' env' a' → Kp G w w' → nt ≤ a'.tmps.size → a'.defers = DD → k env' h' = some r → Q .normal a' w') :
  (Code.region id ops true).wp C.P Q a w :=
 wp_region_any hm (aNm K hok hp H he hnt hd hQ)
end
end Go.Dd

namespace Go.Dd
open Go.RowKit (Below)
section
variable {C : Cfg} {G : Gd} {rec : FuncId → List DV → Hp → aG} {nt n : Nat}
def St (DD : List Deferred) (G : Gd) (nt : Nat) (ρ : Ren) (w0 : World) (k : K) (r : DV × Hp) (a : Act) (w : World) : Prop :=
 ∃ ρ' env h, Ex G ρ ρ' ∧ HR G ρ' h w ∧ EnvR ρ' env a ∧ Kp G w0 w ∧ nt ≤ a.tmps.size ∧ a.defers = DD ∧ k env h = some r
def QQ (DD : List Deferred) (G : Gd) (nt : Nat) (ρ : Ren) (w0 : World) (X : Nat → K) (kr k : K) (r : DV × Hp) : Exit → Act → World → Prop
 | .normal, a, w => St DD G nt ρ w0 k r a w
 | .exit id, a, w => St DD G nt ρ w0 (X id) r a w
 | .ret, a, w => St DD G nt ρ w0 kr r a w
 | _, _, _ => False
theorem bYv {DD : List Deferred} (K : OkC C rec) (hm : C.P.follows .mixedOrders = true) {ρ : Ren} {w0 : World} {r : DV × Hp} : ∀ (c : Code) (X : Nat → Dd.K) (kr k : Dd.K) (a : Act) (w : World),
  St DD G nt ρ w0 (aM C rec nt n c X kr k) r a w → c.wp C.P (QQ DD G nt ρ w0 X kr k r) a w := by
 intro c
 induction c with
 | skip => intro X kr k a w h; exact wp_skip h
 | region id ops dr =>
  intro X kr k a w h
  obtain ⟨ρ', env, hp, h1, h2, h3, h4, h5, h6, h7⟩ := h
  change (Bool.rec (motive := fun _ => Dd.K) (gY C rec nt ops ops.toList k) (Bool.rec (motive := fun _ => Dd.K) cT (iN C rec nt ops k) (eW C.P ops)) dr) env hp = some r at h7
  cases dr with
  | true =>
   dsimp only at h7
   cases hok : eW C.P ops with
   | false => rw [hok] at h7; cases h7
   | true =>
    rw [hok] at h7
    exact aWo K hm hok h7 h2 h3 h5 h6 fun ρ2 env2 h2' a2 w2 e1 e2 e3 e4 e5 e6 e7 => ⟨ρ2, env2, h2', h1.trans e1, e2, e3, h4.trans e4, e5, e6, e7⟩
  | false =>
   simp only [cond_false] at h7
   obtain ⟨env', h', hr, hk⟩ := nX ops.toList k env hp r h7
   refine wp_region ?_
   have := aEu (Q := QQ DD G nt ρ w0 X kr k r) K ops.toList 0 ρ' env hp a w (by simp) hr h2 h3 h5 h6 fun ρ2 a2 w2 e1 e2 e3 e4 e5 e6 => ⟨ρ2, env', h', h1.trans e1, e2, e3, h4.trans e4, e5, e6, hk⟩
   rw [List.range_eq_range']
   simpa using this
 | seq x y ihx ihy =>
  intro X kr k a w h
  refine wp_seq (wp_mono (ihx X kr (aM C rec nt n y X kr k) a w h) fun e a' w' hq => ?_)
  cases e with
  | normal => exact ihy X kr k a' w' hq
  | exit id => exact hq
  | ret => exact hq
  | goto l => exact hq
  | panic ch => exact hq
  | outgrown => exact hq
 | cond c x y ihx ihy =>
  intro X kr k a w h
  obtain ⟨ρ', env, hp, h1, h2, h3, h4, h5, h6, h7⟩ := h
  change aX (opr env c) (aM C rec nt n x X kr k env hp) (aM C rec nt n y X kr k env hp) = some r at h7
  have hc := aU h3 c
  unfold aX at h7
  split at h7 <;> (try (cases h7; done))
  ·rename_i hcb
   rw [hcb] at hc
   generalize hcv : a.eval c = cv at hc
   cases hc
   exact wp_cond_true hcv (ihx X kr k a w ⟨ρ', env, hp, h1, h2, h3, h4, h5, h6, h7⟩)
  ·rename_i hcb
   rw [hcb] at hc
   generalize hcv : a.eval c = cv at hc
   cases hc
   exact wp_cond_false hcv (ihy X kr k a w ⟨ρ', env, hp, h1, h2, h3, h4, h5, h6, h7⟩)
 | block id x ih =>
  intro X kr k a w h
  refine wp_block (wp_mono (ih (fun j => bif Nat.beq j id then k else X j) kr k a w h) fun e a' w' hq => ?_)
  cases e with
  | normal => exact hq
  | exit id' =>
   simp only [QQ] at hq
   simp only [Exit.inBlock, QQ]
   split
   ·rename_i e
    subst e
    have hb : Nat.beq id' id' = true := Nat.beq_refl id'
    rw [hb] at hq
    exact hq
   ·rename_i e
    have : Nat.beq id' id = false := by
     cases hb : Nat.beq id' id with
     | false => rfl
     | true => exact absurd (Nat.eq_of_beq_eq_true hb) e
    rw [this] at hq
    exact hq
  | ret => exact hq
  | goto l => exact hq
  | panic ch => exact hq
  | outgrown => exact hq
 | loop x ih =>
  intro X kr k a w h
  have key : ∀ (m : Nat) (a : Act) (w : World), St DD G nt ρ w0 (aL (fun kk => aM C rec nt n x X kr kk) m) r a w → Code.rounds C.P x (QQ DD G nt ρ w0 X kr k r) m a w := by
   intro m
   induction m with
   | zero =>
    rintro a w ⟨ρ', env, hp, h1, h2, h3, h4, h5, h6, h7⟩
    cases h7
   | succ m ihm =>
    intro a w hs
    rw [rounds_succ]
    refine wp_mono (ih X kr (aL (fun kk => aM C rec nt n x X kr kk) m) a w hs) fun e a' w' hq => ?_
    cases e with
    | normal => exact ihm a' w' hq
    | exit id => exact hq
    | ret => exact hq
    | goto l => exact hq
    | panic ch => exact hq
    | outgrown => exact hq
  exact wp_loop_rounds n (key n a w h)
 | rangeFunc f ps x y ihx ihy =>
  rintro X kr k a w ⟨ρ', env, hp, h1, h2, h3, h4, h5, h6, h7⟩
  cases h7
 | exit id => intro X kr k a w h; exact wp_exit h
 | scope x ih =>
  intro X kr k a w h
  refine wp_scope_straight (wp_mono (ih X kr k a w h) fun e a' w' hq => ?_)
  cases e with
  | goto l => exact hq
  | normal => exact hq
  | exit id => exact hq
  | ret => exact hq
  | panic ch => exact hq
  | outgrown => exact hq
 | label l => intro X kr k a w h; exact wp_label h
 | goto l =>
  rintro X kr k a w ⟨ρ', env, hp, h1, h2, h3, h4, h5, h6, h7⟩
  cases h7
 | ret => intro X kr k a w h; exact wp_ret h
 | refuse why =>
  rintro X kr k a w ⟨ρ', env, hp, h1, h2, h3, h4, h5, h6, h7⟩
  cases h7
def aGo (tmps : Array Value) (rv : ResultVar) : Sem Value :=
 match rv with
 | .tmp t => pure (tmps.getD t undef)
 | .cell q t => do loadVar t (← asAddr (tmps.getD q undef))
theorem qJ (fn : Func) (tmps : Array Value) : results fn tmps = (do
  let vs ← fn.results.mapM (aGo tmps)
  pure (if h : vs.size = 1 then vs[0] else .tuple vs)) := by
 unfold results
 congr 2
theorem bKp {ρ : Ren} {w : World} {h : Hp} {x : DV} {x' : Value} {t : TypeId} {k : DV → aG} {r : DV × Hp} (H : HR G ρ h w) (hx : VR ρ x x') (hr : aDs C t x h k = some r) :
  ∃ v v', (do loadVar t (← asAddr x') : Sem Value).run C.P w = .ok v' w ∧ VR ρ v v' ∧ k v = some r := by
 unfold aDs at hr
 split at hr <;> (try (cases hr; done))
 rename_i d i ht hi
 obtain ⟨v, h', hl, hk⟩ := cY hr
 have hconv : ∀ b o, x = .p b o → (Instr.loadAt t x') = (do loadVar t (← asAddr x')) := by
  rintro b o rfl
  cases hx
  simp [Instr.loadAt, Instr.sureAddr, asAddr]
 cases hd : jT d with
 | true =>
  rw [hd] at hl
  simp only [cond_true] at hl
  unfold aK at hl
  split at hl <;> (try (cases hl; done))
  rename_i b o
  split at hl <;> (try (cases hl; done))
  rename_i cs hc
  simp only [aT, bF] at hl
  obtain ⟨rfl, _⟩ := hl
  cases hx with
  | p _ _ L hL =>
   obtain ⟨c1, c2, _, vs, c4, c5, c6⟩ := eJ H hc hL
   have hrun := dO (P := C.P) vs rfl c6
   rw [c5] at hrun
   refine ⟨_, .agg vs.toArray, ?_, .a cs vs.toArray (by simpa using c4), hk⟩
   simp only [asAddr, Sem.run_bind, Sem.run_pure, Result.andThen_ok, loadVar, rA ht, hd, if_true, rS hi, hrun]
 | false =>
  rw [hd] at hl
  simp only [cond_false] at hl
  unfold aA at hl
  split at hl <;> (try (cases hl; done))
  rename_i b o
  split at hl <;> (try (cases hl; done))
  rename_i u' hc
  simp only [aT, bF] at hl
  obtain ⟨rfl, _⟩ := hl
  cases hx with
  | p _ _ L hL =>
   unfold cellD rowOf at hc
   split at hc <;> (try (cases hc; done))
   rename_i l hl
   split at hl <;> (try (cases hl; done))
   rename_i kd l0 hb
   simp only [aT] at hl
   subst hl
   split at hc <;> (try (cases hc; done))
   rename_i u0 hu
   split at hc <;> (try (cases hc; done))
   rename_i ho
   simp only [aT] at hc
   subst hc
   obtain ⟨v', h5, h6⟩ := H.cell b kd l0 L o u0 hb hL hu ho
   refine ⟨_, v', ?_, h6, hk⟩
   simp only [asAddr, Sem.run_bind, Sem.run_pure, Result.andThen_ok, loadVar, rA ht, hd, Bool.false_eq_true, if_false, run_load, h5]
theorem zN {ρ : Ren} {w : World} {h : Hp} {env : bC} {a : Act} (H : HR G ρ h w) (he : EnvR ρ env a) {r : DV × Hp} : ∀ (l : List ResultVar) (k : List DV → aG), bCp C env h l k = some r →
  ∃ vs vs', (l.mapM (aGo a.tmps)).run C.P w = .ok vs' w ∧ VRs ρ vs vs' ∧ k vs = some r
 | [], k, hr => ⟨[], [], by simp, .nil, hr⟩
 | .tmp t :: l, k, hr => by
  obtain ⟨vs, vs', h1, h2, h3⟩ := zN H he l (fun vs => k (env t :: vs)) hr
  refine ⟨env t :: vs, a.tmps.getD t undef :: vs', ?_, .cons _ _ _ _ (he t) h2, h3⟩
  simp only [List.mapM_cons, Sem.run_bind, aGo, Result.andThen_ok, h1, Sem.run_pure]
 | .cell q t :: l, k, hr => by
  obtain ⟨v, v', h1, h2, h3⟩ := bKp (x' := a.tmps.getD q undef) H (he q) hr
  obtain ⟨vs, vs', h4, h5, h6⟩ := zN H he l (fun vs => k (v :: vs)) h3
  refine ⟨v :: vs, v' :: vs', ?_, .cons _ _ _ _ h2 h5, h6⟩
  simp only [List.mapM_cons, Sem.run_bind, aGo] at h1 ⊢
  simp only [h1, Result.andThen_ok, h4, Sem.run_pure]
theorem aKv {ρ : Ren} {w : World} {h h1 : Hp} {env : bC} {a : Act} (H : HR G ρ h w) (he : EnvR ρ env a) {fn : Func} {v : DV} (hr : aQ C fn env h = some (v, h1)) :
  h1 = h ∧ ∃ v', (results fn a.tmps).run C.P w = .ok v' w ∧ VR ρ v v' := by
 obtain ⟨us, vs', h2, h3, hk⟩ := zN H he _ _ hr
 unfold bLz at hk
 split at hk
 ·rename_i u
  simp only [aT, bF] at hk
  obtain ⟨rfl, rfl⟩ := hk
  cases h3 with
  | cons _ v' _ l' hv hn =>
   cases hn
   refine ⟨rfl, v', ?_, hv⟩
   rw [qJ, Array.mapM_eq_mapM_toList]
   simp only [Sem.run_bind, Sem.run_map, h2, Result.andThen_ok, Sem.run_pure]
   simp
 ·rename_i hne
  simp only [aT, bF] at hk
  obtain ⟨rfl, rfl⟩ := hk
  have hl := h3.length
  have hne1 : vs'.length ≠ 1 := by
   intro e
   rw [e] at hl
   match us, hl with
   | [x], _ => exact hne x rfl
  refine ⟨rfl, .tuple vs'.toArray, ?_, .t _ _ (by simpa using h3)⟩
  rw [qJ, Array.mapM_eq_mapM_toList]
  simp only [Sem.run_bind, Sem.run_map, h2, Result.andThen_ok, Sem.run_pure]
  rw [dif_neg (by simpa using hne1)]
structure POk (P : Program) : Prop where
 mixed : P.follows .mixedOrders = true
 names : ∀ (f : Nat) (fn : Func), P.funcs[f]? = some fn → (fn.name == "runtime.NumGoroutine") = false
theorem rF (K : OkC C rec) (hP : POk C.P) (n : Nat) (f : FuncId) : gF C.P G f (aF C rec n f) := by
 intro args h v h1 hr ρ w args' H hargs
 unfold aF at hr
 split at hr <;> (try (cases hr; done))
 rename_i fn hf
 split at hr <;> (try (cases hr; done))
 rename_i c hb
 refine .inl ⟨?_, ?_⟩
 ·unfold callFunc
  have hn : ¬ fn.name = "runtime.NumGoroutine" := by simpa using hP.names f fn hf
  simp [hf, hn, hb]
 ·refine calls_of_wp hf hb ?_
  have he : EnvR ρ (aI args) { tmps := args' ++ Array.replicate (fn.ntmps - args'.size) undef, defers := [] } := by
   intro t
   unfold aI
   have hlen := hargs.length
   simp only [Array.length_toList] at hlen
   by_cases ht : t < args.length
   ·have hg : args[t]? = some args[t] := by simp [ht]
    obtain ⟨v', h2, h3⟩ := hargs.get t _ hg
    simp only [Array.getElem?_toList] at h2
    rw [show args.getD t aR = args[t] by simp [List.getD, hg]]
    have : (args' ++ Array.replicate (fn.ntmps - args'.size) undef).getD t undef = v' := by
     simp [Array.getElem?_append_left (show t < args'.size by omega), h2]
    rw [this]
    exact h3
   ·have hg : args.getD t aR = aR := by simp [List.getD, List.getElem?_eq_none (Nat.le_of_not_lt ht)]
    rw [hg]
    have : (args' ++ Array.replicate (fn.ntmps - args'.size) undef).getD t undef = undef := by
     rw [Array.getD_eq_getD_getElem?, Array.getElem?_append_right (by omega)]
     simp only [Array.getElem?_replicate]
     split <;> rfl
    rw [this]
    exact .t [] #[] .nil
  have hst : St [] G fn.ntmps ρ w (aM C rec fn.ntmps n c (fun _ => cT) (aQ C fn) (aQ C fn)) (v, h1) { tmps := args' ++ Array.replicate (fn.ntmps - args'.size) undef, defers := [] } w :=
   ⟨ρ, aI args, h, Ex.refl G ρ, H, he, Kp.refl G w, by simp; omega, rfl, hr⟩
  refine wp_mono (bYv K hP.mixed c _ _ _ _ _ hst) fun e a' w' hq => ?_
  have hfin : St [] G fn.ntmps ρ w (aQ C fn) (v, h1) a' w' → a'.defers = [] ∧ ∃ v', (results fn a'.tmps).run C.P w' = .ok v' w' ∧ kV G ρ w v h1 (.returned v') w' := by
   rintro ⟨ρ', env, h', e1, e2, e3, e4, e5, e6, e7⟩
   obtain ⟨rfl, v', r1, r2⟩ := aKv e2 e3 e7
   exact ⟨e6, v', r1, ρ', v', rfl, e1, r2, e2, e4⟩
  cases e with
  | normal => exact hfin hq
  | ret => exact hfin hq
  | exit id =>
   obtain ⟨ρ', env, h', e1, e2, e3, e4, e5, e6, e7⟩ := hq
   cases e7
  | goto l => exact hq.elim
  | panic ch => exact hq.elim
  | outgrown => exact hq.elim
theorem aGy (hP : POk C.P) (hI : ∀ G g F, C.I g = some F → gF C.P G g F) : ∀ (n : Nat) (G : Gd) (f : FuncId), gF C.P G f (mZ C n f)
 | 0, G, f => fun args h v h1 hr => by cases hr
 | n + 1, G, f => rF (rec := mZ C n) ⟨hI, fun G g => aGy hP hI n G g⟩ hP n f
end
end Go.Dd

namespace Go.Dd
open Go.RowKit (Below)
section
variable {C : Cfg} {G : Gd} {rec : FuncId → List DV → Hp → aG} {nt : Nat}
def pJ (h : Hp) : Prop := ∀ b o, h.bl.get b = some o → b.toNat < h.next.toNat
theorem HR.isFresh {ρ : Ren} {h : Hp} {w : World} (H : HR G ρ h w) : pJ h := fun b o hb => by
 obtain ⟨L, hL⟩ := H.dom b o hb
 exact H.lt b L hL
def aNl (C : Cfg) (rec : FuncId → List DV → Hp → aG) (nt : Nat) (ops : Array Oper) (kV : bC → Hp → Prop) : Nat → Array Bool → bC → Hp → Prop
 | 0, listed, env, h => Region.ready .any ops listed = [] ∧ kV env h
 | f + 1, listed, env, h => (Region.ready .any ops listed = [] → kV env h) ∧
   ∀ i ∈ Region.ready .any ops listed, ∃ o v h', ops[i]? = some o ∧ dI nt o.dst = true ∧ bJ C rec ops o env h = some (v, h') ∧
    aNl C rec nt ops kV f (listed.setIfInBounds i true) (bN env o.dst v) h'
theorem bTw (K : OkC C rec) {ops : Array Oper} {kV : bC → Hp → Prop} {Q : Exit → Act → World → Prop} : ∀ (fuel : Nat) (listed : Array Bool) (ρ : Ren) (env : bC) (h : Hp) (a : Act) (w : World),
  aNl C rec nt ops kV fuel listed env h → HR G ρ h w → EnvR ρ env a → nt ≤ a.tmps.size → a.defers = [] →
  (∀ ρ' env' h' a' w', kV env' h' → Ex G ρ ρ' → HR G ρ' h' w' → EnvR ρ' env' a' → Kp G w w' → nt ≤ a'.tmps.size → a'.defers = [] → Q .normal a' w') →
  wpAny C.P .any ops Q fuel listed a w
 | 0, listed, ρ, env, h, a, w, hp, H, he, hnt, hd, hQ => ⟨hp.1, hQ ρ env h a w hp.2 (Ex.refl G ρ) H he (Kp.refl G w) hnt hd⟩
 | f + 1, listed, ρ, env, h, a, w, hp, H, he, hnt, hd, hQ => by
  refine ⟨fun hr => hQ ρ env h a w (hp.1 hr) (Ex.refl G ρ) H he (Kp.refl G w) hnt hd, fun i hi => ?_⟩
  obtain ⟨o, v, h', ho, hf, hs, hn⟩ := hp.2 i hi
  refine wX (wU K H he hs) rfl ho H fun ρ' w' v' h2 h3 h4 h5 => ?_
  exact bTw K f _ ρ' _ h' _ w' hn h4 (he.put h2.ext h3 hf hnt) (by rw [lS]; exact hnt) (by rw [iQ]; exact hd)
   fun ρ2 env2 hh a2 w2 e0 e1 e2 e3 e4 e5 e6 => hQ ρ2 env2 hh a2 w2 e0 (h2.trans e1) e2 e3 (h5.trans e4) e5 e6
def sT (C : Cfg) (rec : FuncId → List DV → Hp → aG) (nt : Nat) : Code → (Nat → bC → Hp → Prop) → (bC → Hp → Prop) → (bC → Hp → Prop) → bC → Hp → Prop
 | .skip, _, _, N => N
 | .region _ ops dr, _, _, N => fun env h => if dr then (aNl C rec nt ops (fun e h => pJ h → N e h) ops.size (Array.replicate ops.size false) env h ∨
    (eW C.P ops = true ∧ ∃ k r, iN C rec nt ops k env h = some r ∧ ∀ env' h', k env' h' = some r → pJ h' → N env' h'))
   else ∃ env' h', zL C rec nt ops ops.toList env h env' h' ∧ (pJ h' → N env' h')
 | .seq a b, X, R, N => sT C rec nt a X R (sT C rec nt b X R N)
 | .cond c a b, X, R, N => fun env h => (opr env c = .b true ∧ sT C rec nt a X R N env h) ∨ (opr env c = .b false ∧ sT C rec nt b X R N env h)
 | .block id a, X, R, N => sT C rec nt a (fun j => if j = id then N else X j) R N
 | .exit id, X, _, _ => X id
 | .scope a, X, R, N => sT C rec nt a X R N
 | .ret, _, R, _ => R
 | _, _, _, _ => fun _ _ => False
def StP (G : Gd) (nt : Nat) (ρ : Ren) (w0 : World) (N : bC → Hp → Prop) (a : Act) (w : World) : Prop :=
 ∃ ρ' env h, Ex G ρ ρ' ∧ HR G ρ' h w ∧ EnvR ρ' env a ∧ Kp G w0 w ∧ nt ≤ a.tmps.size ∧ a.defers = [] ∧ N env h
def QP (G : Gd) (nt : Nat) (ρ : Ren) (w0 : World) (X : Nat → bC → Hp → Prop) (R N : bC → Hp → Prop) : Exit → Act → World → Prop
 | .normal, a, w => StP G nt ρ w0 N a w
 | .exit id, a, w => StP G nt ρ w0 (X id) a w
 | .ret, a, w => StP G nt ρ w0 R a w
 | _, _, _ => False
theorem bLm (K : OkC C rec) (hm : C.P.follows .mixedOrders = true) {ρ : Ren} {w0 : World} : ∀ (c : Code) (X : Nat → bC → Hp → Prop) (R N : bC → Hp → Prop) (a : Act) (w : World),
  StP G nt ρ w0 (sT C rec nt c X R N) a w → c.wp C.P (QP G nt ρ w0 X R N) a w := by
 intro c
 induction c with
 | skip => intro X R N a w h; exact wp_skip h
 | region id ops dr =>
  intro X R N a w h
  obtain ⟨ρ', env, hp, h1, h2, h3, h4, h5, h6, h7⟩ := h
  cases dr with
  | true =>
   simp only [sT, if_true] at h7
   rcases h7 with h7 | ⟨hok, k, r, h7, h8⟩
   ·refine wp_region_any hm (bTw K ops.size _ ρ' env hp a _ h7 (h2.congr rfl) h3 h5 h6 fun ρ2 env2 h2' a2 w2 e0 e1 e2 e3 e4 e5 e6 => ?_)
    exact ⟨ρ2, env2, h2', h1.trans e1, e2, e3, (h4.trans ((Kp.refl G w).drew)).trans e4, e5, e6, e0 e2.isFresh⟩
   ·exact aWo K hm hok h7 h2 h3 h5 h6 fun ρ2 env2 h2' a2 w2 e1 e2 e3 e4 e5 e6 e7 => ⟨ρ2, env2, h2', h1.trans e1, e2, e3, h4.trans e4, e5, e6, h8 _ _ e7 e2.isFresh⟩
  | false =>
   simp only [sT, Bool.false_eq_true, if_false] at h7
   obtain ⟨env', h', hr, hk⟩ := h7
   refine wp_region ?_
   have := aEu (Q := QP G nt ρ w0 X R N) K ops.toList 0 ρ' env hp a w (by simp) hr h2 h3 h5 h6 fun ρ2 a2 w2 e1 e2 e3 e4 e5 e6 => ⟨ρ2, env', h', h1.trans e1, e2, e3, h4.trans e4, e5, e6, hk e2.isFresh⟩
   rw [List.range_eq_range']
   simpa using this
 | seq x y ihx ihy =>
  intro X R N a w h
  refine wp_seq (wp_mono (ihx X R (sT C rec nt y X R N) a w h) fun e a' w' hq => ?_)
  cases e with
  | normal => exact ihy X R N a' w' hq
  | exit id => exact hq
  | ret => exact hq
  | goto l => exact hq
  | panic ch => exact hq
  | outgrown => exact hq
 | cond c x y ihx ihy =>
  intro X R N a w h
  obtain ⟨ρ', env, hp, h1, h2, h3, h4, h5, h6, h7⟩ := h
  have hc := aU h3 c
  rcases h7 with ⟨hcb, h7⟩ | ⟨hcb, h7⟩
  ·rw [hcb] at hc
   generalize hcv : a.eval c = cv at hc
   cases hc
   exact wp_cond_true hcv (ihx X R N a w ⟨ρ', env, hp, h1, h2, h3, h4, h5, h6, h7⟩)
  ·rw [hcb] at hc
   generalize hcv : a.eval c = cv at hc
   cases hc
   exact wp_cond_false hcv (ihy X R N a w ⟨ρ', env, hp, h1, h2, h3, h4, h5, h6, h7⟩)
 | block id x ih =>
  intro X R N a w h
  refine wp_block (wp_mono (ih (fun j => if j = id then N else X j) R N a w h) fun e a' w' hq => ?_)
  cases e with
  | normal => exact hq
  | exit id' =>
   simp only [QP] at hq
   simp only [Exit.inBlock]
   split
   ·rename_i e
    rw [if_pos e] at hq
    exact hq
   ·rename_i e
    rw [if_neg e] at hq
    exact hq
  | ret => exact hq
  | goto l => exact hq
  | panic ch => exact hq
  | outgrown => exact hq
 | loop x ih => rintro X R N a w ⟨ρ', env, hp, h1, h2, h3, h4, h5, h6, h7⟩; exact h7.elim
 | rangeFunc f ps x y ihx ihy => rintro X R N a w ⟨ρ', env, hp, h1, h2, h3, h4, h5, h6, h7⟩; exact h7.elim
 | exit id => intro X R N a w h; exact wp_exit h
 | scope x ih =>
  intro X R N a w h
  refine wp_scope_straight (wp_mono (ih X R N a w h) fun e a' w' hq => ?_)
  cases e with
  | goto l => exact hq
  | normal => exact hq
  | exit id => exact hq
  | ret => exact hq
  | panic ch => exact hq
  | outgrown => exact hq
 | label l => rintro X R N a w ⟨ρ', env, hp, h1, h2, h3, h4, h5, h6, h7⟩; exact h7.elim
 | goto l => rintro X R N a w ⟨ρ', env, hp, h1, h2, h3, h4, h5, h6, h7⟩; exact h7.elim
 | ret => intro X R N a w h; exact wp_ret h
 | refuse why => rintro X R N a w ⟨ρ', env, hp, h1, h2, h3, h4, h5, h6, h7⟩; exact h7.elim
def Le (h2 h1 : Hp) : Prop := ∀ G ρ w, HR G ρ h2 w → HR G ρ h1 w
theorem cZe (K : OkC C rec) (hP : POk C.P) {f : FuncId} {fn : Func} {c : Code} (hf : C.P.funcs[f]? = some fn) (hb : fn.body = some c) {F : List DV → Hp → aG}
  (hF : ∀ args h v h1, F args h = some (v, h1) → pJ h → sT C rec fn.ntmps c (fun _ _ _ => False) (fun env h' => ∃ h2, aQ C fn env h' = some (v, h2) ∧ Le h2 h1)
   (fun env h' => ∃ h2, aQ C fn env h' = some (v, h2) ∧ Le h2 h1) (aI args) h) : gF C.P G f F := by
 intro args h v h1 hr ρ w args' H hargs
 refine .inl ⟨?_, ?_⟩
 ·unfold callFunc
  have hn : ¬ fn.name = "runtime.NumGoroutine" := by simpa using hP.names f fn hf
  simp [hf, hn, hb]
 ·refine calls_of_wp hf hb ?_
  have he : EnvR ρ (aI args) { tmps := args' ++ Array.replicate (fn.ntmps - args'.size) undef, defers := [] } := by
   intro t
   unfold aI
   have hlen := hargs.length
   simp only [Array.length_toList] at hlen
   by_cases ht : t < args.length
   ·have hg : args[t]? = some args[t] := by simp [ht]
    obtain ⟨v', h2, h3⟩ := hargs.get t _ hg
    simp only [Array.getElem?_toList] at h2
    rw [show args.getD t aR = args[t] by simp [List.getD, hg]]
    have : (args' ++ Array.replicate (fn.ntmps - args'.size) undef).getD t undef = v' := by
     simp [Array.getElem?_append_left (show t < args'.size by omega), h2]
    rw [this]
    exact h3
   ·have hg : args.getD t aR = aR := by simp [List.getD, List.getElem?_eq_none (Nat.le_of_not_lt ht)]
    rw [hg]
    have : (args' ++ Array.replicate (fn.ntmps - args'.size) undef).getD t undef = undef := by
     rw [Array.getD_eq_getD_getElem?, Array.getElem?_append_right (by omega)]
     simp only [Array.getElem?_replicate]
     split <;> rfl
    rw [this]
    exact .t [] #[] .nil
  have hst : StP G fn.ntmps ρ w _ { tmps := args' ++ Array.replicate (fn.ntmps - args'.size) undef, defers := [] } w :=
   ⟨ρ, aI args, h, Ex.refl G ρ, H, he, Kp.refl G w, by simp; omega, rfl, hF args h v h1 hr H.isFresh⟩
  refine wp_mono (bLm K hP.mixed c _ _ _ _ _ hst) fun e a' w' hq => ?_
  have hfin : StP G fn.ntmps ρ w (fun env h' => ∃ h2, aQ C fn env h' = some (v, h2) ∧ Le h2 h1) a' w' → a'.defers = [] ∧ ∃ v', (results fn a'.tmps).run C.P w' = .ok v' w' ∧ kV G ρ w v h1 (.returned v') w' := by
   rintro ⟨ρ', env, h', e1, e2, e3, e4, e5, e6, h2, e7, e8⟩
   obtain ⟨rfl, v', r1, r2⟩ := aKv e2 e3 e7
   exact ⟨e6, v', r1, ρ', v', rfl, e1, r2, e8 _ _ _ e2, e4⟩
  cases e with
  | normal => exact hfin hq
  | ret => exact hfin hq
  | exit id => obtain ⟨ρ', env, h', e1, e2, e3, e4, e5, e6, e7⟩ := hq; exact e7.elim
  | goto l => exact hq.elim
  | panic ch => exact hq.elim
  | outgrown => exact hq.elim
end
end Go.Dd

namespace Go.Dd
open Go.RowKit (Below)
def Fw (ro : Option Nat) : Fence := { Fence.wide with round := ro }
theorem aQu {ro : Option Nat} {n : Nat} {P : Program} {f : FuncId} {args : Array Value} {w : World} {R : Ending → World → Prop} (h : Calls P f args w R) : CallsIn (Fw ro) n P f args w R := by
 have e : CallsIn Fence.wide n P f args w R := callsIn_wide.2 h
 exact e
theorem stepsIn_fw {ro : Option Nat} {P : Program} {m m' : Machine} : StepsIn (Machine.fenced P (Fw ro)) P m m' ↔ Steps P m m' := by
 exact stepsIn_wide (P := P)
def fV (o : Oper) : Bool := match o.op with
 | .defer _ => false
 | _ => true
section
variable {ro : Option Nat} {n : Nat} {P : Program} {Q : Exit → Act → World → Prop}
theorem bTr {o : Oper} {ρ : Operand → Value} (h : fV o = true) : o.semAt ro ρ = execOp ρ o := by
 refine Oper.semAt_eq ro ρ o fun c e => ?_
 unfold fV at h
 rw [e] at h
 cases h
theorem dGh {o : Oper} {a : Act} {w : World} {K : Act → World → Prop} (hd : fV o = true) (h : o.wp P a w K Q) : o.wpIn (Fw ro) n P a w K Q := by
 refine ⟨fun _ _ => trivial, ?_⟩
 show o.uponIn (Fw ro) n P a K Q ((o.semAt ro a.eval).run P w)
 rw [bTr hd]
 unfold Oper.wp at h
 generalize (execOp a.eval o).run P w = r at h
 cases r with
 | ok x w' =>
  cases x <;> first
   | exact h
   | exact h.elim
   | exact ⟨fun e => (by cases e), aQu h⟩
   | exact ⟨fun e => (by cases e), fun c cs _ => (let ⟨v, w2, r, s⟩ := h c cs; ⟨v, w2, r, stepsIn_fw.2 s⟩)⟩
 | halt x w' => cases x <;> exact h
theorem aIj {ops : Array Oper} {i : Nat} {K K' : Act → World → Prop} {a : Act} {w : World} (hd : ∀ o ∈ ops.toList, fV o = true) (hQ : ¬ LetsOut Q) (hK : ∀ a w, K a w → K' a w) (h : wpOp P ops Q i K a w) : wpOpIn (Fw ro) n P ops Q i K' a w := by
 unfold wpOp at h
 unfold wpOpIn
 cases ho : ops[i]? with
 | none => rw [ho] at h; exact hK _ _ h
 | some o =>
  rw [ho] at h
  dsimp only at h ⊢
  have hm : o ∈ ops.toList := by
   have := Array.mem_of_getElem? ho
   exact Array.mem_toList_iff.2 this
  split
  ·rename_i hw
   rw [if_pos hw] at h
   rcases h with h | h
   ·exact Oper.wpIn_mono hK (dGh (hd o hm) h)
   ·exact absurd h.2 hQ
  ·rename_i hw
   rw [if_neg hw] at h
   exact ⟨fun _ _ => trivial, hK _ _ h⟩
theorem aMm {ops : Array Oper} (hd : ∀ o ∈ ops.toList, fV o = true) (hQ : ¬ LetsOut Q) : ∀ (l : List Nat) (a : Act) (w : World), wpOps P ops Q l a w → wpOpsIn (Fw ro) n P ops Q l a w
 | [], a, w, h => h
 | i :: l, a, w, h => by
  rw [wpOps_cons] at h
  rw [wpOpsIn_cons]
  exact aIj hd hQ (aMm hd hQ l) h
theorem aMq {ops : Array Oper} {md : Region.Mode} (hd : ∀ o ∈ ops.toList, fV o = true) (hQ : ¬ LetsOut Q) : ∀ (fuel : Nat) (listed : Array Bool) (a : Act) (w : World), wpAny P md ops Q fuel listed a w → wpAnyIn (Fw ro) n P md ops Q fuel listed a w
 | 0, listed, a, w, h => h
 | fuel + 1, listed, a, w, h => ⟨h.1, fun i hi => aIj hd hQ (aMq hd hQ fuel _) (h.2 i hi)⟩
def eG : Code → Bool
 | .skip => true
 | .region _ ops _ => ops.toList.all fV
 | .seq x y => eG x && eG y
 | .cond _ x y => eG x && eG y
 | .block _ x => eG x
 | .loop x => eG x
 | .exit _ => true
 | .ret => true
 | _ => false
end
section
variable {C : Cfg} {G : Gd} {rec : FuncId → List DV → Hp → aG} {nt n : Nat}
theorem bVc {DD : List Deferred} {ρ : Ren} {w0 : World} {X : Nat → K} {kr k : K} {r : DV × Hp} : ¬ LetsOut (QQ DD G nt ρ w0 X kr k r) := fun ⟨_, _, h⟩ => h
theorem aXl {ro : Option Nat} {N : Nat} {DD : List Deferred} (K : OkC C rec) (hm : C.P.follows .mixedOrders = true) {ρ : Ren} {w0 : World} {r : DV × Hp} : ∀ (c : Code), eG c = true → ∀ (X : Nat → Dd.K) (kr k : Dd.K) (a : Act) (w : World),
  St DD G nt ρ w0 (aM C rec nt n c X kr k) r a w → c.wpIn (Fw ro) N C.P (QQ DD G nt ρ w0 X kr k r) a w := by
 intro c
 induction c with
 | skip => intro _ X kr k a w h; exact wpIn_skip h
 | region id ops dr =>
  intro hpc X kr k a w h
  have hd : ∀ o ∈ ops.toList, fV o = true := List.all_eq_true.1 hpc
  obtain ⟨ρ', env, hp, h1, h2, h3, h4, h5, h6, h7⟩ := h
  change (Bool.rec (motive := fun _ => Dd.K) (gY C rec nt ops ops.toList k) (Bool.rec (motive := fun _ => Dd.K) cT (iN C rec nt ops k) (eW C.P ops)) dr) env hp = some r at h7
  cases dr with
  | true =>
   dsimp only at h7
   cases hok : eW C.P ops with
   | false => rw [hok] at h7; cases h7
   | true =>
    rw [hok] at h7
    exact wpIn_region_any hm (aMq hd bVc _ _ _ _ (aNm K hok h7 h2 h3 h5 h6 fun ρ2 env2 h2' a2 w2 e1 e2 e3 e4 e5 e6 e7 => ⟨ρ2, env2, h2', h1.trans e1, e2, e3, h4.trans e4, e5, e6, e7⟩))
  | false =>
   simp only [cond_false] at h7
   obtain ⟨env', h', hr, hk⟩ := nX ops.toList k env hp r h7
   refine wpIn_region ?_
   have := aEu (Q := QQ DD G nt ρ w0 X kr k r) K ops.toList 0 ρ' env hp a w (by simp) hr h2 h3 h5 h6 fun ρ2 a2 w2 e1 e2 e3 e4 e5 e6 => ⟨ρ2, env', h', h1.trans e1, e2, e3, h4.trans e4, e5, e6, hk⟩
   rw [List.range_eq_range']
   exact aMm hd bVc _ _ _ (by simpa using this)
 | seq x y ihx ihy =>
  intro hpc X kr k a w h
  simp only [eG, Bool.and_eq_true] at hpc
  refine wpIn_seq (wpIn_mono (ihx hpc.1 X kr (aM C rec nt n y X kr k) a w h) fun e a' w' hq => ?_)
  cases e with
  | normal => exact ihy hpc.2 X kr k a' w' hq
  | exit id => exact hq
  | ret => exact hq
  | goto l => exact hq
  | panic ch => exact hq
  | outgrown => exact hq
 | cond c x y ihx ihy =>
  intro hpc X kr k a w h
  simp only [eG, Bool.and_eq_true] at hpc
  obtain ⟨ρ', env, hp, h1, h2, h3, h4, h5, h6, h7⟩ := h
  change aX (opr env c) (aM C rec nt n x X kr k env hp) (aM C rec nt n y X kr k env hp) = some r at h7
  have hc := aU h3 c
  unfold aX at h7
  split at h7 <;> (try (cases h7; done))
  ·rename_i hcb
   rw [hcb] at hc
   generalize hcv : a.eval c = cv at hc
   cases hc
   exact wpIn_cond_true hcv (ihx hpc.1 X kr k a w ⟨ρ', env, hp, h1, h2, h3, h4, h5, h6, h7⟩)
  ·rename_i hcb
   rw [hcb] at hc
   generalize hcv : a.eval c = cv at hc
   cases hc
   exact wpIn_cond_false hcv (ihy hpc.2 X kr k a w ⟨ρ', env, hp, h1, h2, h3, h4, h5, h6, h7⟩)
 | block id x ih =>
  intro hpc X kr k a w h
  refine wpIn_block (wpIn_mono (ih hpc (fun j => bif Nat.beq j id then k else X j) kr k a w h) fun e a' w' hq => ?_)
  cases e with
  | normal => exact hq
  | exit id' =>
   simp only [QQ] at hq
   simp only [Exit.inBlock, QQ]
   split
   ·rename_i e
    subst e
    have hb : Nat.beq id' id' = true := Nat.beq_refl id'
    rw [hb] at hq
    exact hq
   ·rename_i e
    have : Nat.beq id' id = false := by
     cases hb : Nat.beq id' id with
     | false => rfl
     | true => exact absurd (Nat.eq_of_beq_eq_true hb) e
    rw [this] at hq
    exact hq
  | ret => exact hq
  | goto l => exact hq
  | panic ch => exact hq
  | outgrown => exact hq
 | loop x ih =>
  intro hpc X kr k a w h
  have key : ∀ (m : Nat) (a : Act) (w : World), St DD G nt ρ w0 (aL (fun kk => aM C rec nt n x X kr kk) m) r a w → Code.roundsIn (Fw ro) N C.P x (QQ DD G nt ρ w0 X kr k r) m a w := by
   intro m
   induction m with
   | zero =>
    rintro a w ⟨ρ', env, hp, h1, h2, h3, h4, h5, h6, h7⟩
    cases h7
   | succ m ihm =>
    intro a w hs
    rw [roundsIn_succ]
    refine wpIn_mono (ih hpc X kr (aL (fun kk => aM C rec nt n x X kr kk) m) a w hs) fun e a' w' hq => ?_
    cases e with
    | normal => exact ihm a' w' hq
    | exit id => exact hq
    | ret => exact hq
    | goto l => exact hq
    | panic ch => exact hq
    | outgrown => exact hq
  exact wpIn_loop_rounds n (key n a w h)
 | exit id => intro _ X kr k a w h; exact wpIn_exit h
 | ret => intro _ X kr k a w h; exact wpIn_ret h
 | _ => intro hpc; cases hpc
end
end Go.Dd

namespace Go.Dd
open Go.RowKit (Below)
section
variable {G G' : Gd} {ρ : Ren} {h : Hp} {w : World}
theorem HR.earlyO (H : HR G ρ h w) {b : Pos} (hb : ρ b = none) (hlt : b.toNat < h.next.toNat) (ob : Obj) :
  HR ⟨G.B, fun k => G.X k ∨ k = w.heap.size, G.N, G.W, G.ok⟩ (mS ρ b ⟨w.heap.size, 0, 0, none⟩) h (w.alloc ob) := by
 have hext : Ext ρ (mS ρ b ⟨w.heap.size, 0, 0, none⟩) := by
  intro x L hx
  by_cases e : x = b
  ·subst e; rw [hb] at hx; cases hx
  ·rw [aS _ _ e]; exact hx
 have hrow : h.bl.get b = none := by
  cases hr : h.bl.get b with
  | none => rfl
  | some o => obtain ⟨L, hL⟩ := H.dom b o hr; rw [hb] at hL; cases hL
 have hne : ∀ x o, h.bl.get x = some o → x ≠ b := fun x o hx e => by subst e; rw [hrow] at hx; cases hx
 have hcl : ∀ {x a}, Claims (mS ρ b ⟨w.heap.size, 0, 0, none⟩) h x a → Claims ρ h x a := by
  rintro x a ⟨k, l, L, h1, h2, h3⟩
  rw [aS _ _ (hne x _ h1)] at h2
  exact ⟨k, l, L, h1, h2, h3⟩
 have hblt : ∀ {x a}, Claims ρ h x a → a.block < w.heap.size := fun hc => by
  obtain ⟨v, hv⟩ := H.lt_cell hc
  exact eE hv
 refine { gl := fun k hk => by rw [Below.heap_alloc _ _ _ (Nat.lt_of_lt_of_le hk H.sz.1)]; exact H.gl k hk, sz := ⟨by have := H.sz.1; simp; omega, fun k hk => ?_⟩, nx := H.nx, ro := fun x a h1 h2 => H.ro x a (hcl h1) h2, dom := ?_, lt := ?_, cell := ?_, spare := ?_, free := ?_, inj := ?_, ex := ?_, grone := H.grone, itr := ?_, itj := ?_ }
 ·rcases hk with hk | hk
  ·have := H.sz.2 k hk; simp; omega
  ·simp; omega
 ·intro x o hx
  obtain ⟨L, hL⟩ := H.dom x o hx
  exact ⟨L, hext _ _ hL⟩
 ·intro x L hx
  by_cases e : x = b
  ·subst e; exact hlt
  ·rw [aS _ _ e] at hx; exact H.lt x L hx
 ·intro x k l L i v hx hL hi hv
  rw [aS _ _ (hne x _ hx)] at hL
  obtain ⟨v', h5, h6⟩ := H.cell x k l L i v hx hL hi hv
  exact ⟨v', by rw [eA (eE h5)]; exact h5, h6.mono hext⟩
 ·intro x l L es j hx hL hj
  rw [aS _ _ (hne x _ hx)] at hL
  obtain ⟨v', h5⟩ := H.spare x l L es j hx hL hj
  exact ⟨v', by rw [eA (eE h5)]; exact h5⟩
 ·intro x a hc hr
  have hlt' := hblt (hcl hc)
  obtain ⟨h3, h4, h5⟩ := H.free x a (hcl hc) hr
  refine ⟨by rw [gA (by omega)]; exact h3, h4, ?_⟩
  rintro (hk | hk)
  ·exact h5 hk
  ·omega
 ·intro x x' a hc hc' hr
  exact H.inj x x' a (hcl hc) (hcl hc') hr
 ·intro x l L hx hL
  have : x ≠ b := by rcases hx with hx | hx <;> exact hne x _ hx
  rw [aS _ _ this] at hL
  exact H.ex x l L hx hL
 ·intro x o L h0 hx hL
  rw [aS _ _ (hne x _ hx)] at hL
  obtain ⟨⟨h1, h1'⟩, h2, bs, h3, h4⟩ := H.itr x o L h0 hx hL
  have hlt' : L.bl < w.heap.size := by
   rcases Nat.lt_or_ge L.bl w.heap.size with h | h
   ·exact h
   ·simp [Array.getElem?_eq_none h] at h3
  refine ⟨⟨h1, ?_⟩, h2, bs, by rw [Below.heap_alloc _ _ _ hlt']; exact h3, h4.mono hext⟩
  rintro (hk | hk)
  ·exact h1' hk
  ·omega
 ·intro x o x' o' L L' h0 h0' hx hx' hL hL' he
  rw [aS _ _ (hne x _ hx)] at hL
  rw [aS _ _ (hne x' _ hx')] at hL'
  exact H.itj x o x' o' L L' h0 h0' hx hx' hL hL' he
theorem aMy {w : World} {l : Nat} {o o' : Obj} (hl : w.heap[l]? = some o) (ho : o.isCells = false) (ho' : o'.isCells = false) (a : Addr) : (w.putObj l o').cell? a = w.cell? a := by
 by_cases e : a.block = l
 ·have h1 : (w.putObj l o').heap[a.block]? = some o' := by rw [e]; exact World.putObj_heap_same (Array.getElem?_eq_some_iff.1 hl).1
  have h2 : w.heap[a.block]? = some o := by rw [e]; exact hl
  unfold World.cell?
  rw [h1, h2]
  cases o <;> cases ho <;> cases o' <;> cases ho' <;> rfl
 ·unfold World.cell?
  rw [World.putObj_heap_other e]
theorem aUs {w : World} {l : Nat} {o' : Obj} {a : Addr} (e : a.block ≠ l) : (w.putObj l o').frozen? a = w.frozen? a := by
 unfold World.frozen?
 rw [World.putObj_heap_other e]
theorem HR.putX (H : HR G ρ h w) {l : Nat} {o o' : Obj} (hB : G.B ≤ l) (hX : G.X l) (hl : w.heap[l]? = some o) (ho : o.isCells = false) (ho' : o'.isCells = false) : HR G ρ h (w.putObj l o') where
 gl := fun k hk => by rw [World.putObj_heap_other (by omega)]; exact H.gl k hk
 sz := by
  have e : (w.putObj l o').heap.size = w.heap.size := by simp [World.putObj]
  rw [e]
  exact H.sz
 nx := H.nx
 ro := H.ro
 dom := H.dom
 lt := H.lt
 cell := fun b k L i v v' h1 h2 h3 h4 => by
  obtain ⟨x, h5, h6⟩ := H.cell b k L i v v' h1 h2 h3 h4
  exact ⟨x, by rw [aMy hl ho ho']; exact h5, h6⟩
 spare := fun b k L es j h1 h2 h3 => by
  obtain ⟨x, h5⟩ := H.spare b k L es j h1 h2 h3
  exact ⟨x, by rw [aMy hl ho ho']; exact h5⟩
 free := fun b a h1 h2 => by
  obtain ⟨h3, h4, h5⟩ := H.free b a h1 h2
  exact ⟨by rw [aUs (by intro e; rw [e] at h5; exact h5 hX)]; exact h3, h4, h5⟩
 inj := H.inj
 ex := H.ex
 grone := H.grone
 itr := fun b o2 L h0 h1 h2 => by
  obtain ⟨⟨h3, h4⟩, h5, x, h6, h7⟩ := H.itr b o2 L h0 h1 h2
  exact ⟨⟨h3, h4⟩, h5, x, by rw [World.putObj_heap_other (by intro e; rw [e] at h4; exact h4 hX)]; exact h6, h7⟩
 itj := H.itj
theorem Kp.putX {w0 : World} (k : Kp G w0 w) {l : Nat} {o o' : Obj} (hO : Own G l) (hs : ∀ k, G.X k → k < w0.heap.size) (hB : G.B ≤ w0.heap.size) (hl : w.heap[l]? = some o) : Kp G w0 (w.putObj l o') where
 low := k.low.grown (grownBy_putObj' w l o') (Nat.le_trans hB k.low.size) (fun j e => by cases e; exact hO.1)
 ex := fun j hj => by rw [World.putObj_heap_other (by intro e; subst e; exact hO.2 hj)]; exact k.ex j hj
end
end Go.Dd

namespace Go.Dd
open Go.RowKit (Below)
structure ItC where
 gf : FuncId
 nt : Nat
 pre : Code
 b0 : Nat
 test : Code
 b1 : Nat
 rid : Nat
 front : List Oper
 y : Oper
 back : List Oper
 after : Code
 post : Code
 step : Code
 yd : Tmp
 yt : Tmp
 yx : Tmp
def ItC.ops (I : ItC) : Array Oper := (I.front ++ I.y :: I.back).toArray
def ItC.round (I : ItC) : Code := .seq I.test (.seq (.block I.b1 (.seq (.seq (.region I.rid I.ops false) I.after) I.post)) I.step)
def ItC.code (I : ItC) : Code := .seq I.pre (.block I.b0 (.loop I.round))
def lA : Nat → K := fun _ => cT
def ylB (v : DV) (b : Pos) : Bool := match v with
 | .yl b' => b' == b
 | _ => false
section
variable (C : Cfg) (rec : FuncId → List DV → Hp → aG) (n : Nat) (I : ItC)
noncomputable def sQ (b : Bool) (kr k : K) (e1 : bC) : Hp → aG := fun h =>
 cnd (dI I.nt (some I.yd)) (gY C rec I.nt I.ops I.back (aM C rec I.nt n I.after lA kr k) (bN e1 (some I.yd) (.b b)) h)
noncomputable def aKi (nt : Nat) (p : Tmp) (x y : Code) (env : bC) (X : Nat → K) (kr kk : K) : K := fun e1 h1 =>
 cnd (dI nt (some p)) (aM C rec nt n x lA cT (aM C rec nt n y
   (fun i _ h2 => sQ C rec n I false (fun _ h3 => X i env h3) cT e1 h2)
   (fun _ h2 => sQ C rec n I false (fun _ h3 => kr env h3) cT e1 h2)
   (fun _ h2 => sQ C rec n I true cT (aM C rec I.nt n I.post lA cT (aM C rec I.nt n I.step lA cT kk)) e1 h2))
  (bN env (some p) (e1 I.yx)) h1)
noncomputable def oE (nt : Nat) (g : Operand) (p : Tmp) (x y : Code) (X : Nat → K) (kr k : K) : K := fun env h =>
 match opr env g with
 | .f gf [] cap => cnd (Nat.beq gf I.gf) (aM C rec I.nt n I.pre lA cT
   (aL (fun kk => aM C rec I.nt n I.test (fun j => bif Nat.beq j I.b0 then (fun _ h => k env h) else cT) cT
    (gY C rec I.nt I.ops I.front (fun e1 h1 => cnd (ylB (e1 I.yt) h.next) (aKi C rec n I nt p x y env X kr kk e1 h1)))) n)
   (aI (.yl h.next :: cap)) (resv 2 h))
 | _ => none
end
structure ItOk (P : Program) (I : ItC) : Prop where
 pre : eG I.pre = true
 test : eG I.test = true
 after : eG I.after = true
 post : eG I.post = true
 step : eG I.step = true
 ops : ∀ o ∈ I.ops.toList, fV o = true
 dst : I.y.dst = some I.yd
 guard : I.y.guard = none
 op : ∃ tys, I.y.op = .call ⟨.value (.tmp I.yt), #[.tmp I.yx], tys⟩
 fn : ∃ fn, P.funcs[I.gf]? = some fn ∧ fn.body = some I.code ∧ fn.ntmps = I.nt ∧ fn.results = #[] ∧ (fn.name == "runtime.NumGoroutine") = false
theorem aLk {ρ : Ren} {args : List DV} {args' : Array Value} (hargs : VRs ρ args args'.toList) (nt : Nat) (ds : List Deferred) : EnvR ρ (aI args) { tmps := args' ++ Array.replicate (nt - args'.size) undef, defers := ds } := by
 intro t
 unfold aI
 have hlen := hargs.length
 simp only [Array.length_toList] at hlen
 by_cases ht : t < args.length
 ·have hg : args[t]? = some args[t] := by simp [ht]
  obtain ⟨v', h2, h3⟩ := hargs.get t _ hg
  simp only [Array.getElem?_toList] at h2
  rw [show args.getD t aR = args[t] by simp [List.getD, hg]]
  have : (args' ++ Array.replicate (nt - args'.size) undef).getD t undef = v' := by
   simp [Array.getElem?_append_left (show t < args'.size by omega), h2]
  rw [this]
  exact h3
 ·have hg : args.getD t aR = aR := by simp [List.getD, List.getElem?_eq_none (Nat.le_of_not_lt ht)]
  rw [hg]
  have : (args' ++ Array.replicate (nt - args'.size) undef).getD t undef = undef := by
   rw [Array.getD_eq_getD_getElem?, Array.getElem?_append_right (by omega)]
   simp only [Array.getElem?_replicate]
   split <;> rfl
  rw [this]
  exact .t [] #[] .nil
def GD (G : Gd) (D : Nat) : Gd := ⟨G.B, fun k => G.X k ∨ k = D, G.N, G.W, G.ok⟩
theorem Ex.ofGD {G : Gd} {D : Nat} {ρ ρ' : Ren} (h : Ex (GD G D) ρ ρ') : Ex G ρ ρ' := ⟨h.ext, h.new⟩
theorem Kp.ofGD {G : Gd} {D : Nat} {w w' : World} (h : Kp (GD G D) w w') : Kp G w w' := ⟨h.low, fun k hk => h.ex k (.inl hk)⟩
section
variable {C : Cfg} {G : Gd} {rec : FuncId → List DV → Hp → aG} {n : Nat} {I : ItC} {N : Nat}
def StM (DD : List Deferred) (G : Gd) (nt : Nat) (ρ : Ren) (w0 : World) (k : K) (r : DV × Hp) (a : Act) (w : World) : Prop :=
 ∃ D ρ' env h, Ex G ρ ρ' ∧ HR (GD G D) ρ' h w ∧ EnvR ρ' env a ∧ Kp G w0 w ∧ nt ≤ a.tmps.size ∧ a.defers = { target := .collected D, args := #[] } :: DD ∧ Own G D ∧ w.heap[D]? = some (.deferred (some [])) ∧ k env h = some r
def QM (DD : List Deferred) (G : Gd) (nt : Nat) (ρ : Ren) (w0 : World) (X : Nat → K) (kr k : K) (r : DV × Hp) : Exit → Act → World → Prop
 | .normal, a, w => StM DD G nt ρ w0 k r a w
 | .exit id, a, w => StM DD G nt ρ w0 (X id) r a w
 | .ret, a, w => StM DD G nt ρ w0 kr r a w
 | _, _, _ => False
structure Iv (G : Gd) (ρ : Ren) (w0 : World) (D l : Nat) (rc : Loop) (ρ' : Ren) (h : Hp) (W : World) : Prop where
 ex : Ex G ρ ρ'
 hr : HR (GD (GD G D) l) ρ' h W
 kp : Kp G w0 W
 hl : W.heap[l]? = some (.loop rc)
 hD : W.heap[D]? = some (.deferred (some []))
def SS (G : Gd) (ρ : Ren) (w0 : World) (D l : Nat) (rc : Loop) (ds : List Deferred) (nt : Nat) (K : K) (r : DV × Hp) (a : Act) (W : World) : Prop :=
 ∃ ρ' env h, Iv G ρ w0 D l rc ρ' h W ∧ EnvR ρ' env a ∧ nt ≤ a.tmps.size ∧ a.defers = ds ∧ K env h = some r
def QS (G : Gd) (ρ : Ren) (w0 : World) (D l : Nat) (rc : Loop) (ds : List Deferred) (nt : Nat) (X : Nat → K) (kr k : K) (r : DV × Hp) : Exit → Act → World → Prop
 | .normal, a, w => SS G ρ w0 D l rc ds nt k r a w
 | .exit id, a, w => SS G ρ w0 D l rc ds nt (X id) r a w
 | .ret, a, w => SS G ρ w0 D l rc ds nt kr r a w
 | _, _, _ => False
theorem Iv.step {ρ : Ren} {w0 : World} {D l : Nat} {rc : Loop} {ρ' ρ2 : Ren} {h h2 : Hp} {W W2 : World} (v : Iv G ρ w0 D l rc ρ' h W) (e : Ex (GD (GD G D) l) ρ' ρ2) (H : HR (GD (GD G D) l) ρ2 h2 W2) (k : Kp (GD (GD G D) l) W W2) : Iv G ρ w0 D l rc ρ2 h2 W2 where
 ex := v.ex.trans e.ofGD.ofGD
 hr := H
 kp := v.kp.trans k.ofGD.ofGD
 hl := by rw [k.ex l (.inr rfl)]; exact v.hl
 hD := by rw [k.ex D (.inl (.inr rfl))]; exact v.hD
theorem kZ {ro : Option Nat} (K : OkC C rec) (hm : C.P.follows .mixedOrders = true) {ρ : Ren} {w0 : World} {D l : Nat} {rc : Loop} {ds : List Deferred} {nt : Nat} {X : Nat → Dd.K} {kr k : Dd.K} {r : DV × Hp} {a : Act} {W : World} (c : Code) (hc : eG c = true)
  (h : SS G ρ w0 D l rc ds nt (aM C rec nt n c X kr k) r a W) : c.wpIn (Fw ro) N C.P (QS G ρ w0 D l rc ds nt X kr k r) a W := by
 obtain ⟨ρ', env, hp, v, he, hnt, hd, hk⟩ := h
 refine wpIn_mono (aXl (DD := ds) (G := GD (GD G D) l) (ρ := ρ') (w0 := W) K hm c hc X kr k a W ⟨ρ', env, hp, Ex.refl _ _, v.hr, he, Kp.refl _ _, hnt, hd, hk⟩) fun e a' w' hq => ?_
 cases e with
 | normal => obtain ⟨ρ2, env2, h2, e1, e2, e3, e4, e5, e6, e7⟩ := hq; exact ⟨ρ2, env2, h2, v.step e1 e2 e4, e3, e5, e6, e7⟩
 | exit id => obtain ⟨ρ2, env2, h2, e1, e2, e3, e4, e5, e6, e7⟩ := hq; exact ⟨ρ2, env2, h2, v.step e1 e2 e4, e3, e5, e6, e7⟩
 | ret => obtain ⟨ρ2, env2, h2, e1, e2, e3, e4, e5, e6, e7⟩ := hq; exact ⟨ρ2, env2, h2, v.step e1 e2 e4, e3, e5, e6, e7⟩
 | goto l => exact hq
 | panic ch => exact hq
 | outgrown => exact hq
theorem bYj {G : Gd} {ro : Option Nat} (K : OkC C rec) {nt : Nat} {DD : List Deferred} {ops : Array Oper} {Q : Exit → Act → World → Prop} {env' : bC} {h' : Hp} (hops : ∀ o ∈ ops.toList, fV o = true) (hQo : ¬ LetsOut Q) (rest : List Nat) : ∀ (l : List Oper) (i : Nat) (ρ : Ren) (env : bC) (h : Hp) (a : Act) (w : World),
  (∀ j : Nat, j < l.length → l[j]? = ops[i + j]?) → zL C rec nt ops l env h env' h' → HR G ρ h w → EnvR ρ env a → nt ≤ a.tmps.size → a.defers = DD →
  (∀ ρ' a' w', Ex G ρ ρ' → HR G ρ' h' w' → EnvR ρ' env' a' → Kp G w w' → nt ≤ a'.tmps.size → a'.defers = DD → wpOpsIn (Fw ro) N C.P ops Q rest a' w') → wpOpsIn (Fw ro) N C.P ops Q (List.range' i l.length ++ rest) a w
 | [], i, ρ, env, h, a, w, _, hr, H, he, hnt, hd, hQ => by
  obtain ⟨rfl, rfl⟩ := hr
  exact hQ ρ a w (Ex.refl G ρ) H he (Kp.refl G w) hnt hd
 | o :: os, i, ρ, env, h, a, w, hl, hr, H, he, hnt, hd, hQ => by
  obtain ⟨hf, v, h1, hs, hr'⟩ := hr
  have hi : ops[i]? = some o := by simpa using (hl 0 (by simp)).symm
  simp only [List.length_cons, List.range'_succ, List.cons_append]
  rw [wpOpsIn_cons]
  refine aIj (K := fun a w => wpOpsIn (Fw ro) N C.P ops Q (List.range' (i + 1) os.length ++ rest) a w) hops hQo (fun _ _ h => h) (wX (wU K H he hs) rfl hi H fun ρ' w' v' h2 h3 h4 h5 => ?_)
  refine bYj (DD := DD) K hops hQo rest os (i + 1) ρ' _ h1 _ w' (fun j hj => ?_) hr' h4 (he.put h2.ext h3 hf hnt) (by rw [lS]; exact hnt) (by rw [iQ]; exact hd) fun ρ2 a2 w2 e1 e2 e3 e4 e5 e6 => ?_
  ·have := hl (j + 1) (by simpa using hj)
   simpa [Nat.add_assoc, Nat.add_comm 1 j] using this
  ·exact hQ ρ2 a2 w2 (h2.trans e1) e2 e3 (h5.trans e4) e5 e6
theorem aSc {ro : Option Nat} (K : OkC C rec) {ρ : Ren} {w0 : World} {D l : Nat} {rc : Loop} {ds : List Deferred} {nt : Nat} {k : Dd.K} {r : DV × Hp} {a : Act} {W : World} {ops : Array Oper} {Q : Exit → Act → World → Prop} (hops : ∀ o ∈ ops.toList, fV o = true) (L : List Oper) (i : Nat) (hL : ∀ j : Nat, j < L.length → L[j]? = ops[i + j]?)
  (hQ : ¬ LetsOut Q) (h : SS G ρ w0 D l rc ds nt (gY C rec nt ops L k) r a W) (rest : List Nat) (hn : ∀ a W, SS G ρ w0 D l rc ds nt k r a W → wpOpsIn (Fw ro) N C.P ops Q rest a W) : wpOpsIn (Fw ro) N C.P ops Q (List.range' i L.length ++ rest) a W := by
 obtain ⟨ρ', env, hp, v, he, hnt, hd, hk⟩ := h
 obtain ⟨env', h', hr, hk'⟩ := nX L k env hp r hk
 exact bYj (G := GD (GD G D) l) (DD := ds) K hops hQ rest L i ρ' env hp a W hL hr v.hr he hnt hd fun ρ2 a2 w2 e1 e2 e3 e4 e5 e6 => hn a2 w2 ⟨ρ2, env', h', v.step e1 e2 e4, e3, e5, e6, hk'⟩
end
end Go.Dd

namespace Go.Dd
open Go.RowKit (Below)
theorem bDy {P : Program} {o : Oper} {a : Act} {W : World} {t x p : Tmp} {tys : Array TypeId} {l : Nat} {rc : Loop} (ho : o.op = .call ⟨.value (.tmp t), #[.tmp x], tys⟩) (ht : a.eval (.tmp t) = .func (.yield l) #[] #[])
  (hl : W.heap[l]? = some (.loop rc)) (hp : rc.params = #[p]) : (execOp a.eval o).run P W = .ok (.round l rc.fn (rc.tmps.setIfInBounds p (a.eval (.tmp x))) rc.assign rc.body) W := by
 have hy := run_yield (P := P) (args := #[a.eval (.tmp x)]) hl (by rw [hp]; rfl)
 rw [hp] at hy
 unfold execOp
 rw [ho]
 simp only [resolve, ht, Deferred.ofValue, Sem.run_bind, Sem.run_pure, Result.andThen, List.map_toArray, List.map_cons, List.map_nil]
 simp only [Array.map, List.map] at *
 simpa [invoke] using hy
section
variable {C : Cfg} {G : Gd} {rec : FuncId → List DV → Hp → aG} {n : Nat} {I : ItC} {N : Nat}
def oW (f : FuncId) (tmps : Array Value) (p : Tmp) (x y : Code) (D : Nat) (st : LoopState) (pe : Option Code) : Loop := { state := st, pending := pe, fn := f, tmps := tmps, params := #[p], assign := x, body := y, defers := D }
theorem Iv.put {ρ : Ren} {w0 : World} {D l : Nat} {rc : Loop} {ρ' : Ren} {h : Hp} {W : World} (v : Iv G ρ w0 D l rc ρ' h W) (rc' : Loop) (hD : D ≠ l) (hO : Own G l) (hs : ∀ k, G.X k → k < w0.heap.size) (hB : G.B ≤ w0.heap.size) : Iv G ρ w0 D l rc' ρ' h (W.putObj l (.loop rc')) where
 ex := v.ex
 hr := v.hr.putX hO.1 (.inr rfl) v.hl rfl rfl
 kp := v.kp.putX hO hs hB v.hl
 hl := World.putObj_heap_same (Array.getElem?_eq_some_iff.1 v.hl).1
 hD := by rw [World.putObj_heap_other hD]; exact v.hD
def QI (G : Gd) (ρ : Ren) (w0 : World) (D l nt : Nat) (rc : LoopState → Option Code → Loop) (env : bC) (X : Nat → K) (kr k : K) (r : DV × Hp) : Exit → Act → World → Prop
 | .normal, a, w => SS G ρ w0 D l (rc .ready none) [] nt (fun _ h => k env h) r a w
 | .ret, a, w => ∃ c J, ((c = .ret ∧ J = kr) ∨ ∃ i, c = .exit i ∧ J = X i) ∧ SS G ρ w0 D l (rc .done (some c)) [] nt (fun _ h => J env h) r a w
 | _, _, _ => False
theorem ItC.ops_size (I : ItC) : I.ops.size = I.front.length + (I.back.length + 1) := by simp [ItC.ops]
theorem ItC.ops_front (I : ItC) (j : Nat) (h : j < I.front.length) : I.front[j]? = I.ops[0 + j]? := by
 simp [ItC.ops, List.getElem?_append_left h]
theorem ItC.ops_y (I : ItC) : I.ops[I.front.length]? = some I.y := by simp [ItC.ops]
theorem ItC.ops_back (I : ItC) (j : Nat) (h : j < I.back.length) : I.back[j]? = I.ops[I.front.length + 1 + j]? := by
 simp only [ItC.ops, List.getElem?_toArray]
 rw [List.getElem?_append_right (by omega), show I.front.length + 1 + j - I.front.length = j + 1 by omega, List.getElem?_cons_succ]
theorem ItC.ops_range (I : ItC) : List.range I.ops.size = List.range' 0 I.front.length ++ I.front.length :: (List.range' (I.front.length + 1) I.back.length ++ []) := by
 rw [I.ops_size, List.range_eq_range', ← List.range'_append_1, List.append_nil, Nat.zero_add, List.range'_succ]
section
variable {ρ : Ren} {w0 : World} {D l : Nat} {nt : Nat} {p : Tmp} {x y : Code} {f0 : FuncId} {a0 : Act} {env : bC} {X : Nat → Dd.K} {kr k : Dd.K} {r : DV × Hp} {b : Pos}
theorem bFx (K : OkC C rec) (hm : C.P.follows .mixedOrders = true) (iOk : ItOk C.P I) {rc : LoopState → Option Code → Loop} {kk : Dd.K} {Qr : Exit → Act → World → Prop} (hQr : ¬ LetsOut Qr)
  (ih : ∀ a W, SS G ρ w0 D l (rc .ready none) [] I.nt kk r a W → Qr .normal a W) {a : Act} {W : World}
  (h : SS G ρ w0 D l (rc .ready none) [] I.nt (gY C rec I.nt I.ops I.back (aM C rec I.nt n I.after lA cT (aM C rec I.nt n I.post lA cT (aM C rec I.nt n I.step lA cT kk)))) r a W) :
  wpOpsIn (Fw none) N C.P I.ops (Exit.then (I.after.wpIn (Fw none) N C.P (Exit.then (I.post.wpIn (Fw none) N C.P (Exit.inBlock I.b1 (Exit.then (I.step.wpIn (Fw none) N C.P Qr) Qr))) (Exit.inBlock I.b1 (Exit.then (I.step.wpIn (Fw none) N C.P Qr) Qr)))) (Exit.then (I.post.wpIn (Fw none) N C.P (Exit.inBlock I.b1 (Exit.then (I.step.wpIn (Fw none) N C.P Qr) Qr))) (Exit.inBlock I.b1 (Exit.then (I.step.wpIn (Fw none) N C.P Qr) Qr))))
   (List.range' (I.front.length + 1) I.back.length ++ []) a W := by
 refine aSc K iOk.ops I.back (I.front.length + 1) (fun j hj => I.ops_back j hj) ?_ h [] fun a1 W1 h1 => ?_
 ·rintro ⟨a, w, q⟩
  exact hQr ⟨a, w, q⟩
 show I.after.wpIn (Fw none) N C.P _ a1 W1
 refine wpIn_mono (kZ K hm I.after iOk.after h1) fun e a2 W2 hq => ?_
 cases e with
 | normal =>
  show I.post.wpIn (Fw none) N C.P _ a2 W2
  refine wpIn_mono (kZ K hm I.post iOk.post hq) fun e a3 W3 hq => ?_
  cases e with
  | normal =>
   show I.step.wpIn (Fw none) N C.P Qr a3 W3
   refine wpIn_mono (kZ K hm I.step iOk.step hq) fun e a4 W4 hq => ?_
   cases e with
   | normal => exact ih a4 W4 hq
   | exit id => obtain ⟨_, _, _, _, _, _, _, q⟩ := hq; cases q
   | ret => obtain ⟨_, _, _, _, _, _, _, q⟩ := hq; cases q
   | goto l => exact hq.elim
   | panic ch => exact hq.elim
   | outgrown => exact hq.elim
  | exit id => obtain ⟨_, _, _, _, _, _, _, q⟩ := hq; cases q
  | ret => obtain ⟨_, _, _, _, _, _, _, q⟩ := hq; cases q
  | goto l => exact hq.elim
  | panic ch => exact hq.elim
  | outgrown => exact hq.elim
 | exit id => obtain ⟨_, _, _, _, _, _, _, q⟩ := hq; cases q
 | ret => obtain ⟨_, _, _, _, _, _, _, q⟩ := hq; cases q
 | goto l => exact hq.elim
 | panic ch => exact hq.elim
 | outgrown => exact hq.elim
theorem zJ (K : OkC C rec) (hm : C.P.follows .mixedOrders = true) (iOk : ItOk C.P I) {rc : Loop} {J : Dd.K} {Qr : Exit → Act → World → Prop} (hQr : ¬ LetsOut Qr)
  (ih : ∀ a W, SS G ρ w0 D l rc [] I.nt J r a W → Qr .ret a W) {a : Act} {W : World}
  (h : SS G ρ w0 D l rc [] I.nt (gY C rec I.nt I.ops I.back (aM C rec I.nt n I.after lA J cT)) r a W) :
  wpOpsIn (Fw none) N C.P I.ops (Exit.then (I.after.wpIn (Fw none) N C.P (Exit.then (I.post.wpIn (Fw none) N C.P (Exit.inBlock I.b1 (Exit.then (I.step.wpIn (Fw none) N C.P Qr) Qr))) (Exit.inBlock I.b1 (Exit.then (I.step.wpIn (Fw none) N C.P Qr) Qr)))) (Exit.then (I.post.wpIn (Fw none) N C.P (Exit.inBlock I.b1 (Exit.then (I.step.wpIn (Fw none) N C.P Qr) Qr))) (Exit.inBlock I.b1 (Exit.then (I.step.wpIn (Fw none) N C.P Qr) Qr))))
   (List.range' (I.front.length + 1) I.back.length ++ []) a W := by
 refine aSc K iOk.ops I.back (I.front.length + 1) (fun j hj => I.ops_back j hj) ?_ h [] fun a1 W1 h1 => ?_
 ·rintro ⟨a, w, q⟩
  exact hQr ⟨a, w, q⟩
 show I.after.wpIn (Fw none) N C.P _ a1 W1
 refine wpIn_mono (kZ K hm I.after iOk.after h1) fun e a2 W2 hq => ?_
 cases e with
 | normal => obtain ⟨_, _, _, _, _, _, _, q⟩ := hq; cases q
 | exit id => obtain ⟨_, _, _, _, _, _, _, q⟩ := hq; cases q
 | ret => exact ih a2 W2 hq
 | goto l => exact hq.elim
 | panic ch => exact hq.elim
 | outgrown => exact hq.elim
end
end
end Go.Dd

namespace Go.Dd
open Go.RowKit (Below)
section
variable {C : Cfg} {G : Gd} {rec : FuncId → List DV → Hp → aG} {n : Nat} {I : ItC} {N : Nat}
variable {ρ : Ren} {w0 : World} {D l : Nat} {nt : Nat} {p : Tmp} {x y : Code} {f0 : FuncId} {a0 : Act} {env : bC} {X : Nat → Dd.K} {kr k : Dd.K} {r : DV × Hp} {b : Pos}
noncomputable def aLs (C : Cfg) (rec : FuncId → List DV → Hp → aG) (n : Nat) (I : ItC) (nt : Nat) (p : Tmp) (x y : Code) (env : bC) (X : Nat → K) (kr k : K) (b : Pos) (kk : K) : K :=
 aM C rec I.nt n I.test (fun j => bif Nat.beq j I.b0 then (fun _ h => k env h) else cT) cT
  (gY C rec I.nt I.ops I.front (fun e1 h1 => cnd (ylB (e1 I.yt) b) (aKi C rec n I nt p x y env X kr kk e1 h1)))
theorem cQw {v : DV} {b : Pos} (h : ylB v b = true) : v = .yl b := by
 unfold ylB at h
 split at h
 ·rename_i b'
  have : b' = b := by simpa using h
  rw [this]
 ·cases h
theorem lW {c : Bool} {q : aG} {z : DV × Hp} (h : cnd c q = some z) : c = true ∧ q = some z := by
 cases c with
 | false => cases h
 | true => exact ⟨rfl, h⟩
theorem Iv.base {rc : Loop} {ρ' : Ren} {h : Hp} {W : World} (v : Iv G ρ w0 D l rc ρ' h W) : Iv G ρ' w0 D l rc ρ' h W := ⟨Ex.refl _ _, v.hr, v.kp, v.hl, v.hD⟩
theorem Iv.up {rc : Loop} {ρ' ρ2 : Ren} {h : Hp} {W : World} (v : Iv G ρ' w0 D l rc ρ2 h W) (e : Ex G ρ ρ') : Iv G ρ w0 D l rc ρ2 h W := ⟨e.trans v.ex, v.hr, v.kp, v.hl, v.hD⟩
theorem SS.out {rc : Loop} {ds : List Deferred} {nt : Nat} {a : Act} {W : World} (h : SS G ρ w0 D l rc ds nt cT r a W) : False := by
 obtain ⟨_, _, _, _, _, _, _, q⟩ := h
 cases q
theorem cLl (K : OkC C rec) (hm : C.P.follows .mixedOrders = true) (iOk : ItOk C.P I) (hx : eG x = true) (hy : eG y = true) (hDl : D ≠ l) (hOl : Own G l) (hs : ∀ k, G.X k → k < w0.heap.size) (hB : G.B ≤ w0.heap.size)
  (hb : ρ b = some ⟨l, 0, 0, none⟩) (he0 : EnvR ρ env a0) (hnt0 : nt ≤ a0.tmps.size) :
  ∀ (m : Nat) (a : Act) (W : World), SS G ρ w0 D l (oW f0 a0.tmps p x y D .ready none) [] I.nt (aL (aLs C rec n I nt p x y env X kr k b) m) r a W →
   Code.roundsIn (Fw none) N C.P I.round (Exit.inBlock I.b0 (QI G ρ w0 D l I.nt (oW f0 a0.tmps p x y D) env X kr k r)) m a W := by
 intro m
 induction m with
 | zero => intro a W h; exact h.out.elim
 | succ m ih =>
  intro a W h
  rw [roundsIn_succ]
  change SS G ρ w0 D l _ [] I.nt (aLs C rec n I nt p x y env X kr k b (aL (aLs C rec n I nt p x y env X kr k b) m)) r a W at h
  refine wpIn_seq (wpIn_mono (kZ K hm I.test iOk.test h) fun e a1 W1 hq => ?_)
  cases e with
  | exit id =>
   obtain ⟨ρ', e', h', v, h2, h3, h4, h5⟩ := hq
   dsimp only at h5
   show Exit.inBlock I.b0 (QI G ρ w0 D l I.nt (oW f0 a0.tmps p x y D) env X kr k r) (.exit id) a1 W1
   cases hid : Nat.beq id I.b0 with
   | false => rw [hid] at h5; cases h5
   | true =>
    rw [hid] at h5
    have e0 : id = I.b0 := Nat.eq_of_beq_eq_true hid
    unfold Exit.inBlock
    simp only
    rw [if_pos e0]
    exact ⟨ρ', e', h', v, h2, h3, h4, h5⟩
  | ret => exact (SS.out hq).elim
  | goto l => exact hq.elim
  | panic ch => exact hq.elim
  | outgrown => exact hq.elim
  | normal =>
   have hQr : ¬ LetsOut (Exit.then (Code.roundsIn (Fw none) N C.P I.round (Exit.inBlock I.b0 (QI G ρ w0 D l I.nt (oW f0 a0.tmps p x y D) env X kr k r)) m) (Exit.inBlock I.b0 (QI G ρ w0 D l I.nt (oW f0 a0.tmps p x y D) env X kr k r))) := fun ⟨_, _, q⟩ => q
   show (Code.seq _ _).wpIn (Fw none) N C.P _ a1 W1
   refine wpIn_seq (wpIn_block (wpIn_seq (wpIn_seq (wpIn_region ?_))))
   rw [I.ops_range]
   refine aSc K iOk.ops I.front 0 (fun j hj => I.ops_front j hj) ?_ hq _ fun a2 W2 h2 => ?_
   ·rintro ⟨_, _, q⟩
    exact q
   obtain ⟨ρ', e1, h1, v, he, hnt, hd, hk⟩ := h2
   obtain ⟨hyl, hk⟩ := lW hk
   obtain ⟨hfp, hk⟩ := lW hk
   have hyv := he I.yt
   rw [cQw hyl] at hyv
   obtain ⟨L, hL, hyv'⟩ : ∃ L, ρ' b = some L ∧ a2.tmps.getD I.yt undef = .func (.yield L.bl) #[] #[] := by
    generalize hz : a2.tmps.getD I.yt undef = z at hyv
    cases hyv with
    | yl _ L h => exact ⟨L, h, rfl⟩
   rw [v.ex.ext _ _ hb] at hL
   cases hL
   obtain ⟨tys, hop⟩ := iOk.op
   have hrun := bDy (P := C.P) (a := a2) (W := W2) hop hyv' v.hl rfl
   rw [wpOpsIn_cons]
   unfold wpOpIn
   rw [I.ops_y]
   have hw : Region.wanted I.y (yielded I.ops a2.tmps) = true := by simp [Region.wanted, iOk.guard]
   simp only [hw, if_true]
   refine ⟨fun _ _ => trivial, ?_⟩
   show I.y.uponIn (Fw none) N C.P a2 _ _ ((execOp a2.eval I.y).run C.P W2)
   rw [hrun]
   refine ⟨fun e => (by cases e), roundIn_of_wpIn (F := Fw none) trivial ?_⟩
   have put : ∀ (rc' : Loop) {ρ1 ρ2 : Ren} {h2 : Hp} {W3 : World} {rc : Loop}, Iv G ρ1 w0 D l rc ρ2 h2 W3 → Iv G ρ1 w0 D l rc' ρ2 h2 (W3.putObj l (.loop rc')) := fun rc' _ _ _ _ _ v => v.put rc' hDl hOl hs hB
   have hass : SS G ρ' w0 D l (oW f0 a0.tmps p x y D .ready none) [] nt (aM C rec nt n x lA cT (aM C rec nt n y
     (fun i _ h2 => sQ C rec n I false (fun _ h3 => X i env h3) cT e1 h2)
     (fun _ h2 => sQ C rec n I false (fun _ h3 => kr env h3) cT e1 h2)
     (fun _ h2 => sQ C rec n I true cT (aM C rec I.nt n I.post lA cT (aM C rec I.nt n I.step lA cT (aL (aLs C rec n I nt p x y env X kr k b) m))) e1 h2))) r
     { tmps := a0.tmps.setIfInBounds p (a2.eval (.tmp I.yx)), defers := [] } W2 :=
    ⟨ρ', bN env (some p) (e1 I.yx), h1, v.base, (he0.mono v.ex.ext).put (fun _ _ h => h) (he I.yx) hfp hnt0, by simpa using hnt0, rfl, hk⟩
   refine wpIn_mono (kZ (ro := some l) K hm x hx hass) fun e a3 W3 hq => ?_
   cases e with
   | exit id => exact (SS.out hq).elim
   | ret => exact (SS.out hq).elim
   | goto l => exact hq.elim
   | panic ch => exact hq.elim
   | outgrown => exact hq.elim
   | normal =>
    obtain ⟨ρ3, e3, h3, v3, he3, hnt3, hd3, hk3⟩ := hq
    refine ⟨_, run_beginRound v3.hl rfl, ?_⟩
    have v4 := put (oW f0 a0.tmps p x y D .busy none) v3
    have key : ∀ (bb : Bool) (kr' k' : Dd.K) {ρ5 : Ren} {h5 : Hp} {W5 : World} {rc : Loop}, Iv G ρ w0 D l rc ρ5 h5 W5 → Ext ρ' ρ5 → sQ C rec n I bb kr' k' e1 h5 = some r →
      SS G ρ w0 D l rc [] I.nt (gY C rec I.nt I.ops I.back (aM C rec I.nt n I.after lA kr' k')) r (a2.put (some I.yd) (.bool bb)) W5 := by
     intro bb kr' k' ρ5 h5 W5 rc v5 hext hbk
     obtain ⟨hf5, hk5⟩ := lW hbk
     exact ⟨ρ5, _, h5, v5, he.put hext (.b bb) hf5 hnt, by rw [lS]; exact hnt, by rw [iQ]; exact hd, hk5⟩
    refine wpIn_mono (kZ (ro := some l) K hm y hy ⟨ρ3, e3, h3, v4, he3, hnt3, hd3, hk3⟩) fun e a5 W5 hq => ?_
    cases e with
    | normal =>
     obtain ⟨ρ5, e5, h5, v5, he5, hnt5, hd5, hk5⟩ := hq
     refine ⟨_, _, run_endRound none v5.hl, ?_⟩
     show wpOpsIn (Fw none) N C.P I.ops _ _ (a2.put I.y.dst (.bool true)) _
     rw [iOk.dst]
     exact bFx K hm iOk hQr (fun a W h => ih a W h) (key true _ _ ((put (oW f0 a0.tmps p x y D .ready none) v5).up v.ex) v5.ex.ext hk5)
    | exit i =>
     obtain ⟨ρ5, e5, h5, v5, he5, hnt5, hd5, hk5⟩ := hq
     refine ⟨_, _, run_endRound (some (.exit i)) v5.hl, ?_⟩
     show wpOpsIn (Fw none) N C.P I.ops _ _ (a2.put I.y.dst (.bool false)) _
     rw [iOk.dst]
     exact zJ K hm iOk hQr (fun a W h => ⟨_, X i, .inr ⟨i, rfl, rfl⟩, h⟩) (key false _ _ ((put (oW f0 a0.tmps p x y D .done (some (.exit i))) v5).up v.ex) v5.ex.ext hk5)
    | ret =>
     obtain ⟨ρ5, e5, h5, v5, he5, hnt5, hd5, hk5⟩ := hq
     refine ⟨_, _, run_endRound (some .ret) v5.hl, ?_⟩
     show wpOpsIn (Fw none) N C.P I.ops _ _ (a2.put I.y.dst (.bool false)) _
     rw [iOk.dst]
     exact zJ K hm iOk hQr (fun a W h => ⟨_, kr, .inl ⟨rfl, rfl⟩, h⟩) (key false _ _ ((put (oW f0 a0.tmps p x y D .done (some .ret)) v5).up v.ex) v5.ex.ext hk5)
    | goto l => exact hq.elim
    | panic ch => exact hq.elim
    | outgrown => exact hq.elim
end
end Go.Dd

namespace Go.Dd
open Go.RowKit (Below)
section
variable {C : Cfg} {G : Gd} {rec : FuncId → List DV → Hp → aG} {n : Nat} {I : ItC} {N : Nat}
theorem aFc {P : Program} {fn : Func} (h : fn.results = #[]) (tmps : Array Value) (w : World) : ∃ v, (results fn tmps).run P w = .ok v w := by
 rw [qJ, h]
 exact ⟨.tuple #[], by simp [go_sem]⟩
theorem bUh (K : OkC C rec) (hm : C.P.follows .mixedOrders = true) (iOk : ItOk C.P I) {DD : List Deferred} {nt : Nat} {ρ : Ren} {w0 : World} {g : Operand} {p : Tmp} {x y : Code} (hx : eG x = true) (hy : eG y = true)
  {X : Nat → Dd.K} {kr k : Dd.K} {r : DV × Hp} {a : Act} {w : World} (h : St DD G nt ρ w0 (oE C rec n I nt g p x y X kr k) r a w) :
  (Code.rangeFunc g #[p] x y).wpIn (Fw none) N C.P (QM DD G nt ρ w0 X kr k r) a w := by
 obtain ⟨ρ1, env, h0, e1, H, he, kp, hnt, hd, hk⟩ := h
 unfold oE at hk
 split at hk <;> (try (cases hk; done))
 rename_i gf cap hg
 obtain ⟨hgf, hk2⟩ := lW hk
 clear hk
 have hgf' : gf = I.gf := Nat.eq_of_beq_eq_true hgf
 subst hgf'
 have hv := aU he g
 rw [hg] at hv
 obtain ⟨lb, hlb, hge⟩ : ∃ lb, VRs ρ1 cap lb.toList ∧ a.eval g = .func (.func I.gf) #[] lb := by
  generalize a.eval g = z at hv
  cases hv with
  | f _ _ _ x' y' h1 h2 =>
   refine ⟨y', h2, ?_⟩
   have : x' = #[] := by
    obtain ⟨q⟩ := x'
    cases h1
    rfl
   rw [this]
 obtain ⟨fnI, hf, hb, hntI, hres, hname⟩ := iOk.fn
 refine wpIn_rangeFunc ?_
 intro fn _
 obtain ⟨W1, hW1⟩ : ∃ W1, (w.alloc (.deferred (some []))).alloc (.loop (oW fn a.tmps p x y w.heap.size .ready none)) = W1 := ⟨_, rfl⟩
 have hL1 : W1.heap[w.heap.size + 1]? = some (.loop (oW fn a.tmps p x y w.heap.size .ready none)) := by
  rw [← hW1]
  have := World.alloc_heap_new (w.alloc (.deferred (some []))) (.loop (oW fn a.tmps p x y w.heap.size .ready none))
  rwa [World.size_alloc] at this
 have hD1 : W1.heap[w.heap.size]? = some (.deferred (some [])) := by
  rw [← hW1]
  exact (Below.heap_alloc _ _ _ (by simp)).trans (World.alloc_heap_new w _)
 obtain ⟨iargs, hia⟩ : ∃ iargs : Array Value, #[Value.func (.yield (w.heap.size + 1)) #[] #[]] ++ lb = iargs := ⟨_, rfl⟩
 refine ⟨w.heap.size + 1, [{ target := .collected w.heap.size, args := #[] }], W1, { target := .fn (.func I.gf) lb, args := #[Value.func (.yield (w.heap.size + 1)) #[] #[]] }, W1, I.gf,
  iargs, W1, ?_, ?_, fun _ _ => trivial, ?_, fun e => (by cases e), ?_⟩
 ·rw [← hW1]
  exact run_enterLoop_outer _ _ _ _ _
 ·simp only [resolve, hge]
  simp [go_sem]
 ·have hn : ¬ fnI.name = "runtime.NumGoroutine" := by simpa using hname
  unfold invoke
  simp only
  rw [hia]
  unfold callFunc
  simp [hf, hn, hb]
 ·
  have hno : ∀ b : Pos, h0.next.toNat ≤ b.toNat → ρ1 b = none := fun b hb => by
   cases e : ρ1 b with
   | none => rfl
   | some L => have := H.lt b L e; omega
  obtain ⟨n1, n2⟩ := sU 2 h0
  have hN2 : (resv 2 h0).next.toNat = h0.next.toNat + 2 := by rw [n1, dY]
  have hsucc := dQh h0.next
  have H1 := H.reserve 2
  have H2 := H1.earlyO (b := h0.next.succ) (hno _ (by omega)) (by omega) (.deferred (some []))
  have hne : h0.next ≠ h0.next.succ := fun e => by have := congrArg Pos.toNat e; omega
  have H3 := H2.earlyO (b := h0.next) (by rw [aS _ _ hne]; exact hno _ (Nat.le_refl _)) (by omega) (.loop (oW fn a.tmps p x y w.heap.size .ready none))
  rw [hW1] at H3
  obtain ⟨ρ2, hρ2⟩ : ∃ ρ2, mS (mS ρ1 h0.next.succ ⟨w.heap.size, 0, 0, none⟩) h0.next ⟨(w.alloc (.deferred (some []))).heap.size, 0, 0, none⟩ = ρ2 := ⟨_, rfl⟩
  rw [hρ2] at H3
  have hb2 : ρ2 h0.next = some ⟨w.heap.size + 1, 0, 0, none⟩ := by rw [← hρ2, bX, World.size_alloc]
  have ex2 : Ex G ρ1 ρ2 := by
   refine ⟨fun b L hL => ?_, fun b L hL => ?_⟩
   ·have h1 : b ≠ h0.next := fun e => by rw [e, hno _ (Nat.le_refl _)] at hL; cases hL
    have h2 : b ≠ h0.next.succ := fun e => by rw [e, hno _ (by omega)] at hL; cases hL
    rw [← hρ2, aS _ _ h1, aS _ _ h2]
    exact hL
   ·have hx := H.nx
    by_cases h1 : b = h0.next
    ·exact .inr (by rw [h1]; exact hx)
    ·by_cases h2 : b = h0.next.succ
     ·exact .inr (by rw [h2]; omega)
     ·rw [← hρ2, aS _ _ h1, aS _ _ h2] at hL
      exact .inl hL
  have H4 : HR (GD (GD G w.heap.size) (w.heap.size + 1)) ρ2 (resv 2 h0) W1 := H3.weak rfl (fun k hk => by rw [World.size_alloc]; exact hk) (by have := H.nx; show G.N ≤ (resv 2 h0).next.toNat; omega) rfl
  have kp1 : Kp G w W1 := by
   rw [← hW1]
   refine (dS H.sz _).trans (dS ⟨?_, fun k hk => ?_⟩ _)
   ·have := H.sz.1; simp; omega
   ·have := H.sz.2 k hk; simp; omega
  have hOD : Own G w.heap.size := ⟨H.sz.1, fun hX => Nat.lt_irrefl _ (H.sz.2 _ hX)⟩
  have hOl : Own G (w.heap.size + 1) := ⟨by have := H.sz.1; omega, fun hX => by have := H.sz.2 _ hX; omega⟩
  have hbody : I.code.wpIn (Fw none) (N - 1) C.P (QI G ρ2 w w.heap.size (w.heap.size + 1) I.nt (oW fn a.tmps p x y w.heap.size) env X kr k r)
    { tmps := iargs ++ Array.replicate (fnI.ntmps - iargs.size) undef, defers := [] } W1 := by
   have hargs : VRs ρ2 (.yl h0.next :: cap) iargs.toList := by
    rw [← hia]
    have := VRs.cons (ρ := ρ2) _ _ _ _ (.yl h0.next _ hb2) (hlb.mono ex2.ext)
    simpa using this
   have hss : SS G ρ2 w w.heap.size (w.heap.size + 1) (oW fn a.tmps p x y w.heap.size .ready none) [] I.nt
     (aM C rec I.nt n I.pre lA cT (aL (aLs C rec n I nt p x y env X kr k h0.next) n)) r
     { tmps := iargs ++ Array.replicate (fnI.ntmps - iargs.size) undef, defers := [] } W1 :=
    ⟨ρ2, _, _, ⟨Ex.refl _ _, H4, kp1, hL1, hD1⟩, aLk hargs _ _, by rw [hntI]; simp; omega, rfl, hk2⟩
   refine wpIn_seq (wpIn_mono (kZ K hm I.pre iOk.pre hss) fun e a1 W2 hq => ?_)
   cases e with
   | exit id => exact (SS.out hq).elim
   | ret => exact (SS.out hq).elim
   | goto l => exact hq.elim
   | panic ch => exact hq.elim
   | outgrown => exact hq.elim
   | normal =>
    show (Code.block I.b0 (.loop I.round)).wpIn (Fw none) (N - 1) C.P _ a1 W2
    exact wpIn_block (wpIn_loop_rounds n (cLl K hm iOk hx hy (by omega) hOl H.sz.2 H.sz.1 hb2 (he.mono ex2.ext) hnt n a1 W2 hq))
  refine callsIn_of_wp hf hb trivial (wpIn_mono hbody fun e a' W' hq => ?_)
  have fin : ∀ (rc : Loop) (J : Dd.K), rc.state ≠ .busy → SS G ρ2 w w.heap.size (w.heap.size + 1) rc [] I.nt (fun _ h => J env h) r a' W' →
    a'.defers = [] ∧ (Instr.endLoop (w.heap.size + 1)).run C.P W' = .ok rc.pending (W'.putObj (w.heap.size + 1) (.loop { rc with state := .exhausted })) ∧
    StM DD G nt ρ w0 J r { a with defers := [{ target := .collected w.heap.size, args := #[] }] ++ a.defers } (W'.putObj (w.heap.size + 1) (.loop { rc with state := .exhausted })) := by
   rintro rc J hst ⟨ρ', e', h', v, _, _, hd', hk'⟩
   have v' := v.put { rc with state := .exhausted } (by omega) hOl H.sz.2 H.sz.1
   refine ⟨hd', run_endLoop v.hl hst, w.heap.size, ρ', env, h', e1.trans (ex2.trans v.ex), v'.hr.weak rfl (fun k hk => .inl hk) (Nat.le_refl _) rfl, he.mono (ex2.trans v.ex).ext, kp.trans v'.kp, hnt, ?_, hOD, v'.hD, hk'⟩
   rw [← hd]
   rfl
  obtain ⟨vv, hvv⟩ := aFc (P := C.P) hres a'.tmps W'
  cases e with
  | normal =>
   obtain ⟨q1, q2, q3⟩ := fin _ k (by intro e; cases e) hq
   exact ⟨q1, vv, hvv, _, _, q2, q3⟩
  | ret =>
   obtain ⟨c, J, hcj, hss⟩ := hq
   obtain ⟨q1, q2, q3⟩ := fin _ J (by intro e; cases e) hss
   refine ⟨q1, vv, hvv, _, _, q2, ?_⟩
   rcases hcj with ⟨rfl, rfl⟩ | ⟨i, rfl, rfl⟩
   ·exact wpIn_ret q3
   ·exact wpIn_exit q3
  | exit id => exact hq.elim
  | goto l => exact hq.elim
  | panic ch => exact hq.elim
  | outgrown => exact hq.elim
end
end Go.Dd

namespace Go.Dd
open Go.RowKit (Below)
noncomputable def cWr (ps : Array Tmp) (k : Tmp → K) : K := match ps.toList with
 | [p] => k p
 | _ => cT
section
variable (C : Cfg) (rec : FuncId → List DV → Hp → aG) (nt n : Nat) (I : ItC)
noncomputable def pD (c : Code) : (Nat → K) → K → K → K :=
 Code.rec (motive := fun _ => (Nat → K) → K → K → K)
  (fun _ _ k => k)
  (fun _ ops dr _ _ k => Bool.rec (motive := fun _ => K) (gY C rec nt ops ops.toList k) (Bool.rec (motive := fun _ => K) cT (iN C rec nt ops k) (eW C.P ops)) dr)
  (fun _ _ iha ihb X kr k => iha X kr (ihb X kr k))
  (fun c _ _ iha ihb X kr k => fun env h => aX (opr env c) (iha X kr k env h) (ihb X kr k env h))
  (fun id _ ih X kr k => ih (fun j => bif Nat.beq j id then k else X j) kr k)
  (fun _ ih X kr _ => aL (fun kk => ih X kr kk) n)
  (fun g ps x y _ _ X kr k => cWr ps fun p => oE C rec n I nt g p x y X kr k)
  (fun id X _ _ => X id)
  (fun _ _ _ _ _ => cT)
  (fun _ _ _ _ => cT)
  (fun _ _ _ _ => cT)
  (fun _ kr _ => kr)
  (fun _ _ _ _ => cT) c
noncomputable def jS (f : FuncId) (args : List DV) (h : Hp) : aG :=
 match C.P.funcs[f]? with
 | some fn => match fn.body with
  | some c => pD C rec fn.ntmps n I c (fun _ => cT) (aQ C fn) (aQ C fn) (aI args) h
  | none => none
 | none => none
end
def gO : Code → Bool
 | .skip => true
 | .region _ ops _ => ops.toList.all fV
 | .seq x y => gO x && gO y
 | .cond _ x y => gO x && gO y
 | .block _ x => gO x
 | .loop x => gO x
 | .rangeFunc _ _ x y => eG x && eG y
 | .exit _ => true
 | .ret => true
 | _ => false
def GDs (G : Gd) (Ds : List Nat) : Gd := ⟨G.B, fun k => G.X k ∨ k ∈ Ds, G.N, G.W, G.ok⟩
def mkD (D : Nat) : Deferred := { target := .collected D, args := #[] }
theorem Ex.ofGDs {G : Gd} {Ds : List Nat} {ρ ρ' : Ren} (h : Ex (GDs G Ds) ρ ρ') : Ex G ρ ρ' := ⟨h.ext, h.new⟩
theorem Kp.ofGDs {G : Gd} {Ds : List Nat} {w w' : World} (h : Kp (GDs G Ds) w w') : Kp G w w' := ⟨h.low, fun k hk => h.ex k (.inl hk)⟩
section
variable {C : Cfg} {G : Gd} {rec : FuncId → List DV → Hp → aG} {nt n : Nat} {I : ItC}
def StL (G : Gd) (nt : Nat) (ρ : Ren) (w0 : World) (k : K) (r : DV × Hp) (a : Act) (w : World) : Prop :=
 ∃ Ds ρ' env h, Ex G ρ ρ' ∧ HR (GDs G Ds) ρ' h w ∧ EnvR ρ' env a ∧ Kp G w0 w ∧ nt ≤ a.tmps.size ∧ a.defers = Ds.map mkD ∧ Ds.Nodup ∧ (∀ D ∈ Ds, Own G D ∧ w.heap[D]? = some (.deferred (some []))) ∧ k env h = some r
def QL (G : Gd) (nt : Nat) (ρ : Ren) (w0 : World) (X : Nat → K) (kr k : K) (r : DV × Hp) : Exit → Act → World → Prop
 | .normal, a, w => StL G nt ρ w0 k r a w
 | .exit id, a, w => StL G nt ρ w0 (X id) r a w
 | .ret, a, w => StL G nt ρ w0 kr r a w
 | _, _, _ => False
theorem bMj {N : Nat} (K : OkC C rec) (hm : C.P.follows .mixedOrders = true) (iOk : ItOk C.P I) {ρ : Ren} {w0 : World} {r : DV × Hp} : ∀ (c : Code), gO c = true → ∀ (X : Nat → Dd.K) (kr k : Dd.K) (a : Act) (w : World),
  StL G nt ρ w0 (pD C rec nt n I c X kr k) r a w → c.wpIn (Fw none) N C.P (QL G nt ρ w0 X kr k r) a w := by
 have plain : ∀ (c : Code), eG c = true → ∀ (X : Nat → Dd.K) (kr k : Dd.K) (a : Act) (w : World), StL G nt ρ w0 (aM C rec nt n c X kr k) r a w → c.wpIn (Fw none) N C.P (QL G nt ρ w0 X kr k r) a w := by
  rintro c hc X kr k a w ⟨Ds, ρ', env, h, e1, e2, e3, e4, e5, e6, e7, e8, e9⟩
  have back : ∀ (J : Dd.K) (a' : Act) (w' : World), St (Ds.map mkD) (GDs G Ds) nt ρ' w J r a' w' → StL G nt ρ w0 J r a' w' := by
   rintro J a' w' ⟨ρ2, env2, h2, q1, q2, q3, q4, q5, q6, q7⟩
   exact ⟨Ds, ρ2, env2, h2, e1.trans q1.ofGDs, q2, q3, e4.trans q4.ofGDs, q5, q6, e7, fun D hD => ⟨(e8 D hD).1, by rw [q4.ex D (.inr hD)]; exact (e8 D hD).2⟩, q7⟩
  refine wpIn_mono (aXl (DD := Ds.map mkD) (G := GDs G Ds) (ρ := ρ') (w0 := w) K hm c hc X kr k a w ⟨ρ', env, h, Ex.refl _ _, e2, e3, Kp.refl _ _, e5, e6, e9⟩) fun e a' w' hq => ?_
  cases e with
  | normal => exact back _ _ _ hq
  | exit id => exact back _ _ _ hq
  | ret => exact back _ _ _ hq
  | goto l => exact hq
  | panic ch => exact hq
  | outgrown => exact hq
 intro c
 induction c with
 | skip => intro _ X kr k a w h; exact wpIn_skip h
 | region id ops dr => intro hpc X kr k a w h; exact plain (.region id ops dr) hpc X kr k a w h
 | seq x y ihx ihy =>
  intro hpc X kr k a w h
  simp only [gO, Bool.and_eq_true] at hpc
  refine wpIn_seq (wpIn_mono (ihx hpc.1 X kr (pD C rec nt n I y X kr k) a w h) fun e a' w' hq => ?_)
  cases e with
  | normal => exact ihy hpc.2 X kr k a' w' hq
  | exit id => exact hq
  | ret => exact hq
  | goto l => exact hq
  | panic ch => exact hq
  | outgrown => exact hq
 | cond c x y ihx ihy =>
  intro hpc X kr k a w h
  simp only [gO, Bool.and_eq_true] at hpc
  obtain ⟨Ds, ρ', env, hp, h1, h2, h3, h4, h5, h6, h8, h9, h7⟩ := h
  change aX (opr env c) (pD C rec nt n I x X kr k env hp) (pD C rec nt n I y X kr k env hp) = some r at h7
  have hc := aU h3 c
  unfold aX at h7
  split at h7 <;> (try (cases h7; done))
  ·rename_i hcb
   rw [hcb] at hc
   generalize hcv : a.eval c = cv at hc
   cases hc
   exact wpIn_cond_true hcv (ihx hpc.1 X kr k a w ⟨Ds, ρ', env, hp, h1, h2, h3, h4, h5, h6, h8, h9, h7⟩)
  ·rename_i hcb
   rw [hcb] at hc
   generalize hcv : a.eval c = cv at hc
   cases hc
   exact wpIn_cond_false hcv (ihy hpc.2 X kr k a w ⟨Ds, ρ', env, hp, h1, h2, h3, h4, h5, h6, h8, h9, h7⟩)
 | block id x ih =>
  intro hpc X kr k a w h
  refine wpIn_block (wpIn_mono (ih hpc (fun j => bif Nat.beq j id then k else X j) kr k a w h) fun e a' w' hq => ?_)
  cases e with
  | normal => exact hq
  | exit id' =>
   simp only [QL] at hq
   simp only [Exit.inBlock, QL]
   split
   ·rename_i e
    subst e
    have hb : Nat.beq id' id' = true := Nat.beq_refl id'
    rw [hb] at hq
    exact hq
   ·rename_i e
    have : Nat.beq id' id = false := by
     cases hb : Nat.beq id' id with
     | false => rfl
     | true => exact absurd (Nat.eq_of_beq_eq_true hb) e
    rw [this] at hq
    exact hq
  | ret => exact hq
  | goto l => exact hq
  | panic ch => exact hq
  | outgrown => exact hq
 | loop x ih =>
  intro hpc X kr k a w h
  have key : ∀ (m : Nat) (a : Act) (w : World), StL G nt ρ w0 (aL (fun kk => pD C rec nt n I x X kr kk) m) r a w → Code.roundsIn (Fw none) N C.P x (QL G nt ρ w0 X kr k r) m a w := by
   intro m
   induction m with
   | zero =>
    rintro a w ⟨Ds, ρ', env, hp, h1, h2, h3, h4, h5, h6, h8, h9, h7⟩
    cases h7
   | succ m ihm =>
    intro a w hs
    rw [roundsIn_succ]
    refine wpIn_mono (ih hpc X kr (aL (fun kk => pD C rec nt n I x X kr kk) m) a w hs) fun e a' w' hq => ?_
    cases e with
    | normal => exact ihm a' w' hq
    | exit id => exact hq
    | ret => exact hq
    | goto l => exact hq
    | panic ch => exact hq
    | outgrown => exact hq
  exact wpIn_loop_rounds n (key n a w h)
 | rangeFunc g ps x y ihx ihy =>
  intro hpc X kr k a w h
  simp only [gO, Bool.and_eq_true] at hpc
  obtain ⟨Ds, ρ', env, hp, h1, h2, h3, h4, h5, h6, h8, h9, h7⟩ := h
  change cWr ps (fun p => oE C rec n I nt g p x y X kr k) env hp = some r at h7
  obtain ⟨p, hps, h7⟩ : ∃ p, ps = #[p] ∧ oE C rec n I nt g p x y X kr k env hp = some r := by
   unfold cWr at h7
   obtain ⟨l⟩ := ps
   match l, h7 with
   | [p], h7 => exact ⟨p, rfl, h7⟩
   | [], h7 => cases h7
   | _ :: _ :: _, h7 => cases h7
  subst hps
  have back : ∀ (J : Dd.K) (a' : Act) (w' : World), StM (Ds.map mkD) (GDs G Ds) nt ρ' w J r a' w' → StL G nt ρ w0 J r a' w' := by
   rintro J a' w' ⟨D, ρ2, env2, h2, q1, q2, q3, q4, q5, q6, q7, q8, q9⟩
   have hn : D ∉ Ds := fun hD => q7.2 (.inr hD)
   refine ⟨D :: Ds, ρ2, env2, h2, h1.trans q1.ofGDs, q2.weak rfl (fun k hk => ?_) (Nat.le_refl _) rfl, q3, h4.trans q4.ofGDs, q5, q6, List.nodup_cons.2 ⟨hn, h8⟩, fun E hE => ?_, q9⟩
   ·rcases hk with hk | hk
    ·exact .inl (.inl hk)
    ·rcases List.mem_cons.1 hk with rfl | hk
     ·exact .inr rfl
     ·exact .inl (.inr hk)
   ·rcases List.mem_cons.1 hE with rfl | hE
    ·exact ⟨⟨q7.1, fun hX => q7.2 (.inl hX)⟩, q8⟩
    ·exact ⟨(h9 E hE).1, by rw [q4.ex E (.inr hE)]; exact (h9 E hE).2⟩
  refine wpIn_mono (bUh (DD := Ds.map mkD) (G := GDs G Ds) (ρ := ρ') (w0 := w) K hm iOk hpc.1 hpc.2 ⟨ρ', env, hp, Ex.refl _ _, h2, h3, Kp.refl _ _, h5, h6, h7⟩) fun e a' w' hq => ?_
  cases e with
  | normal => exact back _ _ _ hq
  | exit id => exact back _ _ _ hq
  | ret => exact back _ _ _ hq
  | goto l => exact hq
  | panic ch => exact hq
  | outgrown => exact hq
 | exit id => intro _ X kr k a w h; exact wpIn_exit h
 | ret => intro _ X kr k a w h; exact wpIn_ret h
 | _ => intro hpc; cases hpc
theorem aZi {N : Nat} {fn : Func} {ρ : Ren} {w0 : World} {v : DV} {h1 : Hp} {a : Act} : ∀ (Ds : List Nat) (w : World), (∃ ρ' env h, Ex G ρ ρ' ∧ HR (GDs G Ds) ρ' h w ∧ EnvR ρ' env a ∧ Kp G w0 w ∧ aQ C fn env h = some (v, h1)) →
  G.B ≤ w0.heap.size → (∀ k, G.X k → k < w0.heap.size) → Ds.Nodup → (∀ D ∈ Ds, Own G D ∧ w.heap[D]? = some (.deferred (some []))) →
  LeavesInM (Fw none) N C.P fn a.tmps (kV G ρ w0 v h1) (Ds.map mkD) .returning w
 | [], w, ⟨ρ', env, h, e1, e2, e3, e4, e5⟩, _, _, _, _ => by
  obtain ⟨rfl, v', r1, r2⟩ := aKv e2 e3 e5
  exact ⟨v', r1, ρ', v', rfl, e1, r2, e2.weak rfl (fun k hk => .inl hk) (Nat.le_refl _) rfl, e4⟩
 | D :: Ds, w, ⟨ρ', env, h, e1, e2, e3, e4, e5⟩, hB, hs, hnd, hD => by
  obtain ⟨o1, o2⟩ := hD D (by simp)
  have hnd' := List.nodup_cons.1 hnd
  refine ⟨by simp, .inl ⟨D, _, rfl, run_takeDeferred o2, ?_⟩⟩
  refine aZi Ds _ ⟨ρ', env, h, e1, (e2.putX (l := D) (o := .deferred (some [])) (o' := .deferred none) o1.1 (.inr (by simp)) o2 rfl rfl).weak rfl (fun k hk => ?_) (Nat.le_refl _) rfl, e3, e4.putX o1 hs hB o2, e5⟩ hB hs hnd'.2 fun E hE => ?_
  ·rcases hk with hk | hk
   ·exact .inl hk
   ·exact .inr (List.mem_cons_of_mem _ hk)
  ·have hne : E ≠ D := fun e => hnd'.1 (by rw [← e]; exact hE)
   exact ⟨(hD E (List.mem_cons_of_mem _ hE)).1, by rw [World.putObj_heap_other hne]; exact (hD E (List.mem_cons_of_mem _ hE)).2⟩
theorem bLu (K : OkC C rec) (hP : POk C.P) (iOk : ItOk C.P I) (n : Nat) (f : FuncId) (hc : ∀ fn c, C.P.funcs[f]? = some fn → fn.body = some c → gO c = true) : gF C.P G f (jS C rec n I f) := by
 intro args h v h1 hr ρ w args' H hargs
 unfold jS at hr
 split at hr <;> (try (cases hr; done))
 rename_i fn hf
 split at hr <;> (try (cases hr; done))
 rename_i c hb
 refine .inl ⟨?_, ?_⟩
 ·unfold callFunc
  have hn : ¬ fn.name = "runtime.NumGoroutine" := by simpa using hP.names f fn hf
  simp [hf, hn, hb]
 ·refine (callsIn_wide (n := 3)).1 ?_
  show CallsIn (Fw none) 3 C.P f args' w _
  refine callsIn_of_wp_marks hf hb trivial ?_
  have he := aLk hargs fn.ntmps []
  have hst : StL G fn.ntmps ρ w (pD C rec fn.ntmps n I c (fun _ => cT) (aQ C fn) (aQ C fn)) (v, h1) { tmps := args' ++ Array.replicate (fn.ntmps - args'.size) undef, defers := [] } w :=
   ⟨[], ρ, aI args, h, Ex.refl G ρ, H.weak rfl (fun k hk => by rcases hk with hk | hk; exact hk; cases hk) (Nat.le_refl _) rfl, he, Kp.refl G w, by simp; omega, rfl, List.nodup_nil, (by simp), hr⟩
  refine wpIn_mono (bMj K hP.mixed iOk c (hc fn c hf hb) _ _ _ _ _ hst) fun e a' w' hq => ?_
  have hfin : StL G fn.ntmps ρ w (aQ C fn) (v, h1) a' w' → LeavesInM (Fw none) 3 C.P fn a'.tmps (kV G ρ w v h1) a'.defers .returning w' := by
   rintro ⟨Ds, ρ', env, h', e1, e2, e3, e4, e5, e6, e7, e8, e9⟩
   rw [e6]
   exact aZi Ds w' ⟨ρ', env, h', e1, e2, e3, e4, e9⟩ H.sz.1 H.sz.2 e7 e8
  cases e with
  | normal => exact hfin hq
  | ret => exact hfin hq
  | exit id =>
   obtain ⟨Ds, ρ', env, h', e1, e2, e3, e4, e5, e6, e7, e8, e9⟩ := hq
   cases e9
  | goto l => exact hq.elim
  | panic ch => exact hq.elim
  | outgrown => exact hq.elim
end
end Go.Dd

namespace Go.Dd
noncomputable section
def WT.get (t : WT) : Nat → Int :=
 WT.rec (motive := fun _ => Nat → Int) (fun _ => .ofNat 0)
  (fun _ v _ ihl ihr k => bif Nat.beq k 0 then v else bif Nat.beq (Nat.mod k 2) 1 then ihl (Nat.div k 2) else ihr (Nat.div (Nat.sub k 1) 2)) t
def dRg (x : Int) (fuel : Nat) : Nat → WT → WT :=
 Nat.rec (motive := fun _ => Nat → WT → WT) (fun _ t => t)
  (fun _ ih k t => WT.rec (motive := fun _ => WT)
   (bif Nat.beq k 0 then .n .e x .e else bif Nat.beq (Nat.mod k 2) 1 then .n (ih (Nat.div k 2) .e) (.ofNat 0) .e else .n .e (.ofNat 0) (ih (Nat.div (Nat.sub k 1) 2) .e))
   (fun l v r _ _ => bif Nat.beq k 0 then .n l x r else bif Nat.beq (Nat.mod k 2) 1 then .n (ih (Nat.div k 2) l) v r else .n l v (ih (Nat.div (Nat.sub k 1) 2) r)) t) fuel
def WT.set (t : WT) (k : Nat) (x : Int) : WT := dRg x 24 k t
theorem WT.get_e (k : Nat) : WT.e.get k = 0 := rfl
theorem dQz (l : WT) (v : Int) (r : WT) (k : Nat) : (WT.n l v r).get k = if k = 0 then v else if k % 2 = 1 then l.get (k / 2) else r.get ((k - 1) / 2) := by
 show (bif Nat.beq k 0 then v else bif Nat.beq (Nat.mod k 2) 1 then l.get (Nat.div k 2) else r.get (Nat.div (Nat.sub k 1) 2)) = _
 cases h0 : Nat.beq k 0 with
 | true => have := Nat.eq_of_beq_eq_true h0; subst this; rfl
 | false =>
  have n0 : k ≠ 0 := by intro e; subst e; cases h0
  rw [if_neg n0]
  cases h1 : Nat.beq (Nat.mod k 2) 1 with
  | true => have : k % 2 = 1 := Nat.eq_of_beq_eq_true h1; rw [if_pos this]; rfl
  | false =>
   have n1 : k % 2 ≠ 1 := by intro e; have e' : Nat.mod k 2 = 1 := e; rw [e'] at h1; cases h1
   rw [if_neg n1]; rfl
theorem dRx (x : Int) (f k : Nat) (t : WT) : dRg x (f + 1) k t = match t with
  | .e => if k = 0 then .n .e x .e else if k % 2 = 1 then .n (dRg x f (k / 2) .e) 0 .e else .n .e 0 (dRg x f ((k - 1) / 2) .e)
  | .n l v r => if k = 0 then .n l x r else if k % 2 = 1 then .n (dRg x f (k / 2) l) v r else .n l v (dRg x f ((k - 1) / 2) r) := by
 have hb : ∀ {α : Type} (a b c : α), (bif Nat.beq k 0 then a else bif Nat.beq (Nat.mod k 2) 1 then b else c) = if k = 0 then a else if k % 2 = 1 then b else c := by
  intro α a b c
  cases h0 : Nat.beq k 0 with
  | true => have := Nat.eq_of_beq_eq_true h0; subst this; rfl
  | false =>
   have n0 : k ≠ 0 := by intro e; subst e; cases h0
   rw [if_neg n0]
   cases h1 : Nat.beq (Nat.mod k 2) 1 with
   | true => have : k % 2 = 1 := Nat.eq_of_beq_eq_true h1; rw [if_pos this]; rfl
   | false =>
    have n1 : k % 2 ≠ 1 := by intro e; have e' : Nat.mod k 2 = 1 := e; rw [e'] at h1; cases h1
    rw [if_neg n1]; rfl
 cases t with
 | e => exact hb _ _ _
 | n l v r => exact hb _ _ _
theorem dRr (x : Int) : ∀ (f k : Nat) (t : WT) (j : Nat), k + 1 < 2 ^ f → (dRg x f k t).get j = if j = k then x else t.get j
 | 0, k, t, j, h => by simp at h
 | f + 1, k, t, j, h => by
  have h2 : 2 ^ (f + 1) = 2 * 2 ^ f := by rw [Nat.pow_succ]; omega
  have ih := fun k t j (h : k + 1 < 2 ^ f) => dRr x f k t j h
  rw [dRx]
  cases t with
  | e =>
   simp only
   split
   ·subst_vars
    rw [dQz]
    split
    ·rfl
    ·simp [WT.get_e]
   ·split
    ·rw [dQz]
     split
     ·subst_vars; rw [if_neg (by omega)]; rfl
     ·split
      ·rw [ih _ _ _ (by omega), WT.get_e, WT.get_e]
       by_cases hj : j = k
       ·rw [if_pos hj, if_pos (by omega)]
       ·rw [if_neg hj, if_neg (by omega)]
      ·rw [WT.get_e, if_neg (by omega)]; rfl
    ·rw [dQz]
     split
     ·subst_vars; rw [if_neg (by omega)]; rfl
     ·split
      ·rw [WT.get_e, if_neg (by omega)]; rfl
      ·rw [ih _ _ _ (by omega), WT.get_e, WT.get_e]
       by_cases hj : j = k
       ·rw [if_pos hj, if_pos (by omega)]
       ·rw [if_neg hj, if_neg (by omega)]
  | n l v r =>
   simp only
   split
   ·subst_vars
    rw [dQz, dQz]
    split
    ·rfl
    ·rfl
   ·split
    ·rw [dQz, dQz]
     split
     ·subst_vars; rw [if_neg (by omega)]
     ·split
      ·rw [ih _ _ _ (by omega)]
       by_cases hj : j = k
       ·rw [if_pos hj, if_pos (by omega)]
       ·rw [if_neg hj, if_neg (by omega)]
      ·rw [if_neg (by omega)]
    ·rw [dQz, dQz]
     split
     ·subst_vars; rw [if_neg (by omega)]
     ·split
      ·rw [if_neg (by omega)]
      ·rw [ih _ _ _ (by omega)]
       by_cases hj : j = k
       ·rw [if_pos hj, if_pos (by omega)]
       ·rw [if_neg hj, if_neg (by omega)]
theorem WT.get_set (t : WT) (k : Nat) (x : Int) (j : Nat) (h : k < 16000000) : (t.set k x).get j = if j = k then x else t.get j :=
 dRr x 24 k t j (by omega)
def iL (n : Nat) (t : WT) : List DV := (List.range n).map fun i => .i .i64 (t.get i)
def wN (g : Bool) : Ob → Ob → Prop
 | .big n t, o => if g then o = .big n t else o = .row .ex (iL n t)
 | .mi t, o => if g then o = .mi t else ∃ es, o = .mp es ∧ ∀ a : Int, fL (.int .i64) (.i .i64 a) es = some (if 0 ≤ a ∧ t.get a.toNat ≠ 0 then some (.b true) else none)
 | o, o' => o' = o
structure Sim (g : Bool) (h h' : Hp) : Prop where
 next : h'.next = h.next
 get : ∀ b o, h.bl.get b = some o → ∃ o', h'.bl.get b = some o' ∧ wN g o o'
def SimR (g : Bool) (r r' : aG) : Prop := ∀ v h, r = some (v, h) → ∃ h', r' = some (v, h') ∧ Sim g h h'
def SimP (g : Bool) (p p' : Hp → aG) : Prop := ∀ h h', Sim g h h' → SimR g (p h) (p' h')
variable {h h' : Hp} {g : Bool}
theorem Sim.row (S : Sim g h h') {b : Pos} {k : Kind} {l : List DV} (hb : h.bl.get b = some (.row k l)) : h'.bl.get b = some (.row k l) := by
 obtain ⟨o', h1, h2⟩ := S.get b _ hb
 rw [h1, show o' = .row k l from h2]
theorem Sim.it (S : Sim g h h') {b : Pos} {s : List Nat} {p : Nat} (hb : h.bl.get b = some (.it s p)) : h'.bl.get b = some (.it s p) := by
 obtain ⟨o', h1, h2⟩ := S.get b _ hb
 rw [h1, show o' = .it s p from h2]
theorem Sim.mp (S : Sim g h h') {b : Pos} {es : List (DV × DV)} (hb : h.bl.get b = some (.mp es)) : h'.bl.get b = some (.mp es) := by
 obtain ⟨o', h1, h2⟩ := S.get b _ hb
 rw [h1, show o' = .mp es from h2]
theorem Sim.set (S : Sim g h h') {o o' : Ob} (hr : wN g o o') (b n : Pos) : Sim g ⟨n, Tr.set o b h.bl⟩ ⟨n, Tr.set o' b h'.bl⟩ := by
 refine ⟨rfl, fun x ob hx => ?_⟩
 by_cases e : x = b
 ·subst e
  simp only [dQg, aT] at hx ⊢
  subst hx
  exact ⟨o', rfl, hr⟩
 ·simp only [dQf _ _ _ _ e] at hx ⊢
  exact S.get x ob hx
theorem Sim.setR (S : Sim g h h') (k : Kind) (l : List DV) (b n : Pos) : Sim g ⟨n, Tr.set (.row k l) b h.bl⟩ ⟨n, Tr.set (.row k l) b h'.bl⟩ := S.set (show wN g (.row k l) (.row k l) from rfl) b n
theorem Sim.setM (S : Sim g h h') (es : List (DV × DV)) (b n : Pos) : Sim g ⟨n, Tr.set (.mp es) b h.bl⟩ ⟨n, Tr.set (.mp es) b h'.bl⟩ := S.set (show wN g (.mp es) (.mp es) from rfl) b n
theorem Sim.setI (S : Sim g h h') (s : List Nat) (p : Nat) (b n : Pos) : Sim g ⟨n, Tr.set (.it s p) b h.bl⟩ ⟨n, Tr.set (.it s p) b h'.bl⟩ := S.set (show wN g (.it s p) (.it s p) from rfl) b n
theorem Sim.new (S : Sim g h h') {o o' : Ob} (hr : wN g o o') : Sim g ⟨h.next.succ, Tr.set o h.next h.bl⟩ ⟨h'.next.succ, Tr.set o' h'.next h'.bl⟩ := by
 rw [S.next]; exact S.set hr _ _
theorem SimR.none (r : aG) : SimR g none r := fun v h e => by cases e
theorem SimR.some (S : Sim g h h') (v : DV) : SimR g (some (v, h)) (some (v, h')) := fun u k e => by
 simp only [aT, bF] at e
 obtain ⟨rfl, rfl⟩ := e
 exact ⟨h', rfl, S⟩
theorem dQj {F : Hp → aG} (hF : PureP F) : SimP g F F := fun h h' S v k e => by
 obtain ⟨rfl, h2⟩ := hF h v k e
 exact ⟨h', h2 h', S⟩
theorem Sim.rowOf (S : Sim g h h') {b : Pos} {l : List DV} (hb : rowOf b h = some l) : rowOf b h' = some l := by
 unfold Dd.rowOf at hb ⊢
 split at hb <;> (try (cases hb; done))
 rename_i k l0 h0
 rw [S.row h0]; exact hb
theorem Sim.cellsAt (S : Sim g h h') {b : Pos} {o n : Nat} {cs : List DV} (hb : cellsAt b o n h = some cs) : cellsAt b o n h' = some cs := by
 unfold Dd.cellsAt at hb ⊢
 split at hb <;> (try (cases hb; done))
 rename_i l h0
 rw [S.rowOf h0]; exact hb
theorem Sim.cellD (S : Sim g h h') {b : Pos} {o : Nat} {v : DV} (hb : cellD b o h = some v) : cellD b o h' = some v := by
 unfold Dd.cellD at hb ⊢
 split at hb <;> (try (cases hb; done))
 rename_i l h0
 rw [S.rowOf h0]; exact hb
theorem Sim.storeAt (S : Sim g h h') {b : Pos} {o : Nat} {vs : List DV} {k : Hp} (hb : cP b o vs h = some k) : ∃ k', cP b o vs h' = some k' ∧ Sim g k k' := by
 unfold cP at hb ⊢
 split at hb <;> (try (cases hb; done))
 rename_i kd l h0
 rw [S.row h0]
 dsimp only
 split at hb <;> (try (cases hb; done))
 rename_i hw
 rw [if_pos hw]
 split at hb <;> (try (cases hb; done))
 rename_i l' hp
 simp only [aT] at hb
 subst hb
 try simp only [hp]
 exact ⟨_, rfl, by rw [S.next]; exact S.set (show wN g (.row kd l') (.row kd l') from rfl) _ _⟩
theorem aIp (cs : List DV) : SimP g (cJ cs) (cJ cs) := fun h h' S v k e => by
 simp only [cJ, aT, bF] at e ⊢
 obtain ⟨rfl, rfl⟩ := e
 exact ⟨_, ⟨by rw [S.next], rfl⟩, S.new rfl⟩
theorem aCk (b : Pos) (cs : List DV) : SimP g (nA b cs) (nA b cs) := fun h h' S v k e => by
 simp only [nA, aT, bF] at e ⊢
 obtain ⟨rfl, rfl⟩ := e
 exact ⟨_, ⟨rfl, rfl⟩, by rw [S.next]; first | exact S.setR _ _ _ _ | exact S.setM _ _ _ | exact S.setI _ _ _ _⟩
theorem cCk (x : DV) : SimP g (dB x) (dB x) := by
 unfold dB
 cases dD x with
 | none => exact fun h h' S => SimR.none _
 | some cs => exact aIp cs
theorem bCs (b : Pos) (x : DV) : SimP g (yI b x) (yI b x) := by
 unfold yI
 cases dD x with
 | none => exact fun h h' S => SimR.none _
 | some cs => exact aCk b cs
theorem lY (x : DV) : SimP g (aA x) (aA x) := fun h h' S v k e => by
 unfold aA at e ⊢
 split at e <;> (try (cases e; done))
 split at e <;> (try (cases e; done))
 rename_i hc
 simp only [aT, bF] at e
 obtain ⟨rfl, rfl⟩ := e
 simp only [S.cellD hc]
 exact ⟨_, rfl, S⟩
theorem mG (n : Nat) (x : DV) : SimP g (aK n x) (aK n x) := fun h h' S v k e => by
 unfold aK at e ⊢
 split at e <;> (try (cases e; done))
 split at e <;> (try (cases e; done))
 rename_i hc
 simp only [aT, bF] at e
 obtain ⟨rfl, rfl⟩ := e
 simp only [S.cellsAt hc]
 exact ⟨_, rfl, S⟩
theorem lN (n : Nat) (x y : DV) : SimP g (aH n x y) (aH n x y) := fun h h' S v k e => by
 unfold aH at e ⊢
 split at e <;> (try (cases e; done))
 rename_i b o cs hc
 try rw [hc]
 try dsimp only
 split at e <;> (try (cases e; done))
 rename_i hn
 rw [if_pos hn]
 split at e <;> (try (cases e; done))
 rename_i k0 hs
 simp only [aT, bF] at e
 obtain ⟨rfl, rfl⟩ := e
 obtain ⟨k', h1, h2⟩ := S.storeAt hs
 try simp only [h1]
 exact ⟨_, rfl, h2⟩
theorem bDr (size : Nat) (x : DV) (lo hi : Option DV) : SimP g (dN size x lo hi) (dN size x lo hi) := fun h h' S v k e => by
 unfold dN at e ⊢
 split at e <;> (try (cases e; done))
 ·split at e <;> (try (cases e; done))
  rename_i en he
  try simp only [he]
  split at e <;> (try (cases e; done))
  rename_i s hs
  try simp only [hs]
  split at e <;> (try (cases e; done))
  ·rename_i l0 hb
   rw [S.row hb]
   simp only [aT, bF] at e
   obtain ⟨rfl, rfl⟩ := e
   exact ⟨_, rfl, S⟩
  ·rename_i l0 hb
   rw [S.row hb]
   simp only [aT, bF] at e
   obtain ⟨rfl, rfl⟩ := e
   exact ⟨_, rfl, S⟩
  ·rename_i k0 l0 n1 n2 hb
   rw [S.row hb]
   cases k0 with
   | ro => exact absurd rfl n1
   | ex => exact absurd rfl n2
   | gr es =>
    dsimp only
    split at e
    ·rename_i hcs
     simp only [aT, bF] at e
     obtain ⟨rfl, rfl⟩ := e
     rw [if_pos hcs]
     exact ⟨_, rfl, S⟩
    ·rename_i hcs
     simp only [aT, bF] at e
     obtain ⟨rfl, rfl⟩ := e
     rw [if_neg hcs]
     exact ⟨_, rfl, S⟩
   | sp =>
    dsimp only
    split at e
    ·rename_i hcs
     simp only [aT, bF] at e
     obtain ⟨rfl, rfl⟩ := e
     rw [if_pos hcs]
     exact ⟨_, rfl, S⟩
    ·rename_i hcs
     simp only [aT, bF] at e
     obtain ⟨rfl, rfl⟩ := e
     rw [if_neg hcs]
     exact ⟨_, rfl, S⟩
 all_goals
  split at e <;> (try (cases e; done))
  rename_i en he
  try simp only [he]
  split at e <;> (try (cases e; done))
  rename_i s hs
  try simp only [hs]
  simp only [aT, bF] at e
  obtain ⟨rfl, rfl⟩ := e
  exact ⟨_, rfl, S⟩
theorem aSa (x : DV) (lo : Option DV) (hi mx : DV) : SimP g (oT x lo hi mx) (oT x lo hi mx) := fun h h' S v k e => by
 unfold oT at e ⊢
 split at e <;> (try (cases e; done))
 all_goals
  split at e <;> (try (cases e; done))
 ·rename_i m e1
  try simp only [e1]
  split at e <;> (try (cases e; done))
  rename_i n e2
  try simp only [e2]
  simp only [aT, bF] at e
  obtain ⟨rfl, rfl⟩ := e
  exact ⟨_, rfl, S⟩
 ·rename_i m e1
  try simp only [e1]
  split at e <;> (try (cases e; done))
  rename_i n e2
  try simp only [e2]
  simp only [aT, bF] at e
  obtain ⟨rfl, rfl⟩ := e
  exact ⟨_, rfl, S⟩
 ·rename_i n1 n2 e1 e2
  try simp only [e1, e2]
  simp only [aT, bF] at e
  obtain ⟨rfl, rfl⟩ := e
  exact ⟨_, rfl, S⟩
 ·rename_i n1 n2 e1 e2
  try simp only [e1, e2]
  simp only [aT, bF] at e
  obtain ⟨rfl, rfl⟩ := e
  exact ⟨_, rfl, S⟩
theorem bEt (x : DV) : SimP g (eY x) (eY x) := fun h h' S v k e => by
 unfold eY at e ⊢
 split at e <;> (try (cases e; done))
 ·simp only [aT, bF] at e
  obtain ⟨rfl, rfl⟩ := e
  exact ⟨_, rfl, S⟩
 ·split at e <;> (try (cases e; done))
  rename_i cs hc
  simp only [S.cellsAt hc]
  split at e <;> (try (cases e; done))
  rename_i l hl
  try simp only [hl]
  simp only [aT, bF] at e
  obtain ⟨rfl, rfl⟩ := e
  exact ⟨_, rfl, S⟩
theorem aAh (z : List DV) (n : Nat) (ps : List (Nat × Nat × DV)) : SimP g (aN z n ps) (aN z n ps) := fun h h' S v k e => by
 unfold aN at e ⊢
 split at e <;> (try (cases e; done))
 rename_i cs hf
 try simp only [hf]
 simp only [aT, bF] at e ⊢
 obtain ⟨rfl, rfl⟩ := e
 exact ⟨_, ⟨by rw [S.next], rfl⟩, S.new rfl⟩
theorem tY (b : Pos) (z : List DV) (n : Nat) (ps : List (Nat × Nat × DV)) : SimP g (cG b z n ps) (cG b z n ps) := fun h h' S v k e => by
 unfold cG at e ⊢
 split at e <;> (try (cases e; done))
 rename_i cs hf
 try simp only [hf]
 simp only [aT, bF] at e ⊢
 obtain ⟨rfl, rfl⟩ := e
 exact ⟨_, ⟨rfl, rfl⟩, by rw [S.next]; first | exact S.setR _ _ _ _ | exact S.setM _ _ _ | exact S.setI _ _ _ _⟩
theorem aNa : SimP g dU dU := fun h h' S v k e => by
 simp only [dU, aT, bF] at e ⊢
 obtain ⟨rfl, rfl⟩ := e
 exact ⟨_, ⟨by rw [S.next], rfl⟩, S.new rfl⟩
theorem Sim.entries (S : Sim g h h') {x : DV} {es : List (DV × DV)} (he : iI x h = some es) : iI x h' = some es := by
 unfold iI at he ⊢
 split at he <;> (try (cases he; done))
 ·exact he
 ·split at he <;> (try (cases he; done))
  rename_i hb
  rw [S.mp hb]; exact he
theorem aBh (d : TypeDesc) (z : DV) (ok : Bool) (x key : DV) : SimP g (eD d z ok x key) (eD d z ok x key) := fun h h' S v k e => by
 unfold eD at e ⊢
 split at e <;> (try (cases e; done))
 rename_i es he
 simp only [S.entries he]
 split at e <;> (try (cases e; done))
 all_goals
  rename_i hf
  try simp only [hf]
  simp only [aT, bF] at e
  obtain ⟨rfl, rfl⟩ := e
  exact ⟨_, rfl, S⟩
theorem xR (d : TypeDesc) (x key y : DV) : SimP g (dQ d x key y) (dQ d x key y) := fun h h' S v k e => by
 unfold dQ at e ⊢
 split at e <;> (try (cases e; done))
 split at e <;> (try (cases e; done))
 rename_i b _ es hb
 rw [S.mp hb]
 dsimp only
 split at e <;> (try (cases e; done))
 rename_i hf
 try simp only [hf]
 simp only [aT, bF] at e
 obtain ⟨rfl, rfl⟩ := e
 exact ⟨_, rfl, by rw [S.next]; first | exact S.setR _ _ _ _ | exact S.setM _ _ _ | exact S.setI _ _ _ _⟩
theorem aEx (d : TypeDesc) (z x key : DV) : SimP g (iU d z x key) (iU d z x key) := fun h h' S v k e => by
 unfold iU at e ⊢
 split at e <;> (try (cases e; done))
 split at e <;> (try (cases e; done))
 rename_i b _ es hb
 rw [S.mp hb]
 dsimp only
 split at e <;> (try (cases e; done))
 all_goals
  rename_i hf
  try simp only [hf]
  simp only [aT, bF] at e
  obtain ⟨rfl, rfl⟩ := e
  exact ⟨_, rfl, by rw [S.next]; first | exact S.setR _ _ _ _ | exact S.setM _ _ _ | exact S.setI _ _ _ _⟩
theorem xZ (x s y : DV) : SimP g (fR x s y) (fR x s y) := fun h h' S v k e => by
 unfold fR at e ⊢
 split at e <;> (try (cases e; done))
 split at e <;> (try (cases e; done))
 rename_i es hb
 rw [S.mp hb]
 dsimp only
 split at e <;> (try (cases e; done))
 rename_i hf
 try simp only [hf]
 simp only [aT, bF] at e
 obtain ⟨rfl, rfl⟩ := e
 exact ⟨_, rfl, by rw [S.next]; first | exact S.setR _ _ _ _ | exact S.setM _ _ _ | exact S.setI _ _ _ _⟩
theorem aBz (size bytes : Nat) (z : List DV) (n c : DV) : SimP g (bR size bytes z n c) (bR size bytes z n c) := fun h h' S v k e => by
 unfold bR at e ⊢
 split at e <;> (try (cases e; done))
 split at e <;> (try (cases e; done))
 rename_i hc
 rw [if_pos hc]
 simp only [aT, bF] at e ⊢
 obtain ⟨rfl, rfl⟩ := e
 exact ⟨_, ⟨by rw [S.next], rfl⟩, S.new rfl⟩
theorem bDo (z : List DV) (x : DV) : SimP g (kS z x) (kS z x) := fun h h' S v k e => by
 unfold kS at e ⊢
 split at e <;> (try (cases e; done))
 ·simp only [aT, bF] at e
  obtain ⟨rfl, rfl⟩ := e
  exact ⟨_, rfl, S⟩
 ·simp only [aT, bF] at e
  obtain ⟨rfl, rfl⟩ := e
  exact ⟨_, rfl, S⟩
 ·split at e
  ·rename_i hn
   simp only [aT, bF] at e
   obtain ⟨rfl, rfl⟩ := e
   simp only [hn, if_true]
   exact ⟨_, rfl, S⟩
  ·rename_i hn
   rw [if_neg hn]
   split at e <;> (try (cases e; done))
   rename_i k0 hs
   simp only [aT, bF] at e
   obtain ⟨rfl, rfl⟩ := e
   obtain ⟨k', h1, h2⟩ := S.storeAt hs
   try simp only [h1]
   exact ⟨_, rfl, h2⟩
theorem Sim.src (S : Sim g h h') {size : Nat} {x : DV} {r : Nat × List DV} (hs : kW size x h = some r) : kW size x h' = some r := by
 unfold kW at hs ⊢
 split at hs <;> (try (cases hs; done))
 ·exact hs
 ·exact hs
 ·split at hs <;> (try (cases hs; done))
  rename_i hc
  simp only [S.cellsAt hc]; exact hs
 ·split at hs <;> (try (cases hs; done))
  rename_i hc
  simp only [S.cellsAt hc]; exact hs
 ·exact hs
theorem aSz (size bytes : Nat) (s x : DV) : SimP g (bK size bytes s x) (bK size bytes s x) := fun h h' S v k e => by
 unfold bK at e ⊢
 split at e <;> (try (cases e; done))
 rename_i n new hs
 simp only [S.src hs]
 split at e <;> (try (cases e; done))
 ·split at e
  ·rename_i hn
   rw [if_pos hn]
   simp only [aT, bF] at e
   obtain ⟨rfl, rfl⟩ := e
   exact ⟨_, rfl, S⟩
  ·rename_i hn
   rw [if_neg hn]
   split at e <;> (try (cases e; done))
   rename_i hr
   rw [if_pos hr]
   simp only [aT, bF] at e ⊢
   obtain ⟨rfl, rfl⟩ := e
   exact ⟨_, ⟨by rw [S.next], rfl⟩, S.new rfl⟩
 ·split at e <;> (try (cases e; done))
  rename_i hn
  rw [if_pos hn]
  simp only [aT, bF] at e
  obtain ⟨rfl, rfl⟩ := e
  exact ⟨_, rfl, S⟩
 ·rename_i b o len cap
  split at e
  ·rename_i hle
   rw [if_pos hle]
   split at e <;> (try (cases e; done))
   rename_i k0 hst
   simp only [aT, bF] at e
   obtain ⟨rfl, rfl⟩ := e
   obtain ⟨k', h1, h2⟩ := S.storeAt hst
   try simp only [h1]
   exact ⟨_, rfl, h2⟩
  ·rename_i hle
   rw [if_neg hle]
   split at e <;> (try (cases e; done))
   rename_i k0 l old hb hold
   rw [S.row hb, S.cellsAt hold]
   dsimp only
   split at e <;> (try (cases e; done))
   rename_i hroom
   rw [if_pos hroom]
   split at e <;> (try (cases e; done))
   ·simp only [aT, bF] at e ⊢
    obtain ⟨rfl, rfl⟩ := e
    exact ⟨_, ⟨by rw [S.next], rfl⟩, S.new rfl⟩
   ·simp only [aT, bF] at e ⊢
    obtain ⟨rfl, rfl⟩ := e
    exact ⟨_, ⟨by rw [S.next], rfl⟩, S.new rfl⟩
   ·split at e <;> (try (cases e; done))
    rename_i hes
    rw [if_pos hes]
    simp only [aT, bF] at e ⊢
    obtain ⟨rfl, rfl⟩ := e
    refine ⟨_, ⟨by rw [S.next], rfl⟩, ?_⟩
    have S1 : Sim g ⟨h.next, Tr.set (.row .sp (bS o l)) b h.bl⟩ ⟨h'.next, Tr.set (.row .sp (bS o l)) b h'.bl⟩ := by
     rw [S.next]; exact S.set (show wN g (.row .sp (bS o l)) (.row .sp (bS o l)) from rfl) _ _
    exact S1.new rfl
 ·rename_i b o len cap
  split at e
  ·rename_i hn
   rw [if_pos hn]
   split at e <;> (try (cases e; done))
   rename_i hc
   rw [if_pos hc]
   simp only [aT, bF] at e
   obtain ⟨rfl, rfl⟩ := e
   exact ⟨_, rfl, S⟩
  ·rename_i hn
   rw [if_neg hn]
   split at e <;> (try (cases e; done))
   rename_i hc
   rw [if_neg hc]
   split at e <;> (try (cases e; done))
   rename_i old hold
   simp only [S.cellsAt hold]
   split at e <;> (try (cases e; done))
   rename_i hr
   rw [if_pos hr]
   simp only [aT, bF] at e ⊢
   obtain ⟨rfl, rfl⟩ := e
   exact ⟨_, ⟨by rw [S.next], rfl⟩, S.new rfl⟩
theorem bSm (size : Nat) (x y : DV) : SimP g (rB size x y) (rB size x y) := fun h h' S v k e => by
 unfold rB at e ⊢
 split at e <;> (try (cases e; done))
 split at e <;> (try (cases e; done))
 rename_i n new hs
 simp only [S.src hs]
 split at e <;> (try (cases e; done))
 rename_i hn
 rw [if_pos hn]
 split at e <;> (try (cases e; done))
 rename_i k0 hst
 simp only [aT, bF] at e
 obtain ⟨rfl, rfl⟩ := e
 obtain ⟨k', h1, h2⟩ := S.storeAt hst
 try simp only [h1]
 exact ⟨_, rfl, h2⟩
theorem aTv (x : DV) : SimP g (oI x) (oI x) := fun h h' S v k e => by
 unfold oI at e ⊢
 split at e <;> (try (cases e; done))
 simp only [aT, bF] at e ⊢
 obtain ⟨rfl, rfl⟩ := e
 exact ⟨_, ⟨by rw [S.next], rfl⟩, S.new rfl⟩
theorem bGd (x : DV) : SimP g (uH x) (uH x) := fun h h' S v k e => by
 unfold uH at e ⊢
 split at e <;> (try (cases e; done))
 simp only [aT, bF] at e ⊢
 obtain ⟨rfl, rfl⟩ := e
 exact ⟨_, ⟨by rw [S.next], rfl⟩, S.new rfl⟩
theorem bXw (x : DV) : SimP g (aCx x) (aCx x) := fun h h' S v k e => by
 unfold aCx at e ⊢
 split at e <;> (try (cases e; done))
 split at e <;> (try (cases e; done))
 rename_i b _ l pos hb
 rw [S.it hb]
 dsimp only
 split at e
 ·rename_i c hc
  try simp only [hc]
  split at e <;> (try (cases e; done))
  rename_i hlt
  rw [if_pos hlt]
  simp only [aT, bF] at e ⊢
  obtain ⟨rfl, rfl⟩ := e
  exact ⟨_, ⟨rfl, rfl⟩, by rw [S.next]; first | exact S.setR _ _ _ _ | exact S.setM _ _ _ | exact S.setI _ _ _ _⟩
 ·rename_i hc
  try simp only [hc]
  simp only [aT, bF] at e ⊢
  obtain ⟨rfl, rfl⟩ := e
  exact ⟨_, ⟨rfl, rfl⟩, S⟩
end
end Go.Dd

namespace Go.Dd
theorem SimP.none {gg : Bool} (p : Hp → aG) : SimP gg (fun _ => Option.none) p := fun h h' S => SimR.none _
theorem SimP.val {gg : Bool} (v : DV) : SimP gg (fun h => some (v, h)) (fun h => some (v, h)) := fun h h' S => SimR.some S v
section
variable {gg : Bool} {P : Program} {I2 I1 : FuncId → Option (List DV → Hp → aG)} {rec2 rec1 : FuncId → List DV → Hp → aG}
theorem aOe (b : Builtin) (ts : List TypeId) (args : List DV) : SimP gg (kO ⟨P, I2⟩ b ts args) (kO ⟨P, I1⟩ b ts args) := by
 unfold kO
 cases b <;> try exact SimP.none _
 case len =>
  match ts, args with
  | [t], [x] =>
   dsimp only
   cases P.underlying t with
   | none => exact SimP.none _
   | some d => cases d <;> first | exact SimP.none _ | exact dQj (aCr x) | exact dQj (nS x)
  | [], _ => exact SimP.none _
  | [_], [] => exact SimP.none _
  | [_], _ :: _ :: _ => exact SimP.none _
  | _ :: _ :: _, _ => exact SimP.none _
 case min =>
  show SimP gg (sZ args) (sZ args)
  unfold sZ
  match args with
  | [x, y] => exact dQj (aNo x y)
  | [] => exact SimP.none _
  | [_] => exact SimP.none _
  | _ :: _ :: _ :: _ => exact SimP.none _
 case max =>
  show SimP gg (uO args) (uO args)
  unfold uO
  match args with
  | [x, y] => exact dQj (aLr x y)
  | [] => exact SimP.none _
  | [_] => exact SimP.none _
  | _ :: _ :: _ :: _ => exact SimP.none _
 case clear =>
  match ts, args with
  | [t], [x] =>
   dsimp only
   cases P.underlying t with
   | none => exact SimP.none _
   | some d =>
    cases d <;> try exact SimP.none _
    rename_i e
    dsimp only
    cases P.info? e with
    | none => exact SimP.none _
    | some i =>
     dsimp only
     cases i.zero with
     | none => exact SimP.none _
     | some z =>
      dsimp only
      by_cases h0 : 0 < z.cells.size
      ·simp only [h0, if_true]; exact bDo _ _
      ·simp only [h0, if_false]; exact SimP.none _
  | [], _ => exact SimP.none _
  | [_], [] => exact SimP.none _
  | [_], _ :: _ :: _ => exact SimP.none _
  | _ :: _ :: _, _ => exact SimP.none _
 case append =>
  match ts, args with
  | [t, u], [s, x] =>
   dsimp only
   have hmain : ∀ e, SimP gg (fun h => match P.info? e with
     | some i => match i.zero with
      | some z => if 0 < i.size ∧ 0 < i.bytes ∧ z.cells.size = i.size then bK i.size i.bytes s x h else none
      | none => none
     | none => none) (fun h => match P.info? e with
     | some i => match i.zero with
      | some z => if 0 < i.size ∧ 0 < i.bytes ∧ z.cells.size = i.size then bK i.size i.bytes s x h else none
      | none => none
     | none => none) := by
    intro e
    cases P.info? e with
    | none => exact SimP.none _
    | some i =>
     dsimp only
     cases i.zero with
     | none => exact SimP.none _
     | some z =>
      dsimp only
      split
      ·exact aSz _ _ _ _
      ·exact SimP.none _
   cases P.underlying t with
   | none => exact SimP.none _
   | some d =>
    cases d <;> try exact SimP.none _
    rename_i e
    cases P.underlying u with
    | none => exact SimP.none _
    | some d2 => cases d2 <;> first | exact SimP.none _ | exact hmain e
  | [], _ => exact SimP.none _
  | [_], _ => exact SimP.none _
  | [_, _], [] => exact SimP.none _
  | [_, _], [_] => exact SimP.none _
  | [_, _], _ :: _ :: _ :: _ => exact SimP.none _
  | _ :: _ :: _ :: _, _ => exact SimP.none _
 case copy =>
  match ts, args with
  | [t, u], [x, y] =>
   dsimp only
   cases P.underlying t with
   | none => exact SimP.none _
   | some d =>
    cases d <;> try exact SimP.none _
    rename_i e
    dsimp only
    cases P.info? e with
    | none => exact SimP.none _
    | some i =>
     dsimp only
     by_cases h0 : 0 < i.size
     ·simp only [h0, if_true]; exact bSm _ _ _
     ·simp only [h0, if_false]; exact SimP.none _
  | [], _ => exact SimP.none _
  | [_], _ => exact SimP.none _
  | [_, _], [] => exact SimP.none _
  | [_, _], [_] => exact SimP.none _
  | [_, _], _ :: _ :: _ :: _ => exact SimP.none _
  | _ :: _ :: _ :: _, _ => exact SimP.none _
theorem aCv (HC : ∀ g args, SimP gg (cA ⟨P, I2⟩ rec2 g args) (cA ⟨P, I1⟩ rec1 g args)) (o : Oper) (env : bC) : SimP gg (jR ⟨P, I2⟩ rec2 o env) (jR ⟨P, I1⟩ rec1 o env) := by
 obtain ⟨dst, op, ty, pos, after, guard⟩ := o
 unfold jR
 cases op <;> (try dsimp only) <;> try exact SimP.none _
 case move x => exact SimP.val _
 case assign x => exact SimP.val _
 case pick c x y => exact dQj (aDt _ _ _)
 case alloc t =>
  cases P.info? t with
  | none => exact SimP.none _
  | some i =>
   try dsimp only
   cases i.zero with
   | none => exact SimP.none _
   | some z => exact aIp _
 case box t x => exact cCk _
 case build t ps =>
  cases P.underlying t with
  | none => exact SimP.none _
  | some d =>
   cases d <;> (try dsimp only) <;> try exact SimP.none _
   case array n e =>
    cases P.info? t with
    | none => exact SimP.none _
    | some i =>
     try dsimp only
     split
     ·exact dQj (mR _ _)
     ·exact SimP.none _
   rename_i fs
   cases P.info? t with
   | none => exact SimP.none _
   | some i =>
    try dsimp only
    cases i.zero with
    | none => exact SimP.none _
    | some z =>
     try dsimp only
     generalize fs.toList.mapM (fun f => (P.info? f.type).map fun fi => (f.offset, fi.size)) = pl
     cases pl with
     | none => exact SimP.none _
     | some pl =>
      try dsimp only
      generalize ps.toList.mapM (fun (q : Nat × Operand) => (pl[q.1]?).map fun s => (s.1, s.2, opr env q.2)) = l
      cases l with
      | none => exact SimP.none _
      | some l => exact dQj (mR _ _)
 case buildSlice t n ps =>
  cases P.underlying t with
  | none => exact SimP.none _
  | some d =>
   cases d <;> (try dsimp only) <;> try exact SimP.none _
   rename_i e
   cases P.info? e with
   | none => exact SimP.none _
   | some i =>
    try dsimp only
    cases i.zero with
    | none => exact SimP.none _
    | some z =>
     try dsimp only
     split
     ·exact aAh _ _ _
     ·exact SimP.none _
 case load t x =>
  cases P.underlying t with
  | none => exact SimP.none _
  | some d =>
   cases P.info? t with
   | none => exact SimP.none _
   | some i =>
    try dsimp only
    cases jT d with
    | true => exact mG _ _
    | false => exact lY _
 case store t x y =>
  cases P.info? t with
  | none => exact SimP.none _
  | some i => exact lN _ _ _
 case nilCheck x => exact dQj (aOf _)
 case binOp op t x y yt =>
  cases P.underlying t with
  | none => exact SimP.none _
  | some d => cases d <;> first | exact dQj (aMj _ _ _ _) | exact dQj (aMk _ _ _ _ _) | exact dQj (aMl _ _ _ _)
 case unOp op t x => exact dQj (aYj _ _)
 case convert src dst x =>
  cases P.underlying src with
  | none => exact SimP.none _
  | some d =>
   cases P.underlying dst with
   | none => cases d <;> exact SimP.none _
   | some d2 =>
    cases d2 <;> cases d <;> (try dsimp only) <;> first | exact SimP.none _ | exact dQj (qA _ _) | exact dQj (qB _) | skip
    all_goals
     rename_i e
     cases P.underlying e with
     | none => exact SimP.none _
     | some d3 =>
      cases d3 <;> (try dsimp only) <;> try exact SimP.none _
      rename_i k
      cases k <;> first | exact SimP.none _ | exact bEt _ | exact aTv _
 case makeInterface t x =>
  cases P.underlying t with
  | none => exact SimP.none _
  | some d => cases d <;> first | exact SimP.none _ | exact SimP.val _
 case makeFunc fn first cap =>
  cases fn <;> first | exact SimP.none _ | exact SimP.val _
 case slice t x lo hi mx =>
  cases P.underlying t with
  | none => exact SimP.none _
  | some d =>
   cases mx with
   | none =>
    cases d <;> (try dsimp only) <;> first | exact SimP.none _ | exact dQj (nH _ _ _) | skip
    rename_i e
    cases P.info? e with
    | none => exact SimP.none _
    | some i => exact bDr _ _ _ _
   | some m =>
    cases d <;> (try dsimp only) <;> try exact SimP.none _
    rename_i e
    cases P.info? e with
    | none => exact SimP.none _
    | some i =>
     cases hi with
     | none => exact SimP.none _
     | some hv => exact aSa _ _ _ _
 case fieldAddr t x f =>
  cases P.underlying t with
  | none => exact SimP.none _
  | some d =>
   cases d <;> (try dsimp only) <;> try exact SimP.none _
   rename_i fs
   cases fs[f]? with
   | none => exact SimP.none _
   | some fl =>
    try dsimp only
    cases P.info? fl.type with
    | none => exact SimP.none _
    | some i =>
     try dsimp only
     split
     ·exact SimP.none _
     ·exact dQj (zC _ _)
 case field t x f =>
  cases P.underlying t with
  | none => exact SimP.none _
  | some d =>
   cases d <;> (try dsimp only) <;> try exact SimP.none _
   rename_i fs
   cases fs[f]? with
   | none => exact SimP.none _
   | some fl =>
    try dsimp only
    cases P.underlying fl.type with
    | none => exact SimP.none _
    | some d2 =>
     cases P.info? fl.type with
     | none => exact SimP.none _
     | some i =>
      try dsimp only
      cases jT d2 with
      | true => exact dQj (aBg _ _ _)
      | false => exact dQj (yB _ _)
 case indexAddr t x ix =>
  cases P.underlying t with
  | none => exact SimP.none _
  | some d =>
   cases d <;> (try dsimp only) <;> try exact SimP.none _
   ·rename_i e
    cases P.info? e with
    | none => exact SimP.none _
    | some i => exact dQj (nI _ _ _)
   ·rename_i n e
    cases P.info? e with
    | none => exact SimP.none _
    | some i => exact dQj (pC _ _ _ _)
 case index t x ix =>
  cases P.underlying t with
  | none => exact SimP.none _
  | some d => cases d <;> first | exact SimP.none _ | exact dQj (uX _ _)
 case extract x i => exact dQj (rL _ _)
 case range t x =>
  cases P.underlying t with
  | none => exact SimP.none _
  | some d => cases d <;> first | exact SimP.none _ | exact bGd _
 case next x str =>
  cases str with
  | true => simp only [if_true]; exact bXw _
  | false => simp only [Bool.false_eq_true, if_false]; exact SimP.none _
 case makeMap t r => cases r <;> first | exact SimP.none _ | exact aNa
 case lookup t x k ok =>
  cases P.underlying t with
  | none => exact SimP.none _
  | some d =>
   cases d <;> (try dsimp only) <;> try exact SimP.none _
   rename_i kt et
   cases P.underlying kt with
   | none => exact SimP.none _
   | some d2 =>
    cases P.info? et with
    | none => exact SimP.none _
    | some i =>
     try dsimp only
     cases i.zero with
     | none => exact SimP.none _
     | some z =>
      try dsimp only
      cases iM d2 with
      | true => exact aBh _ _ _ _ _
      | false =>
       simp only [cond_false]
       cases tL P d2 && bFh d2 (opr env k) with
       | true => exact aBh _ _ _ _ _
       | false => exact SimP.none _
 case mapUpdate t m k x =>
  cases P.underlying t with
  | none => exact SimP.none _
  | some d =>
   cases d <;> (try dsimp only) <;> try exact SimP.none _
   rename_i kt et
   cases P.underlying kt with
   | none => exact SimP.none _
   | some d2 =>
    try dsimp only
    cases iM d2 with
    | true => exact xR _ _ _ _
    | false => exact SimP.none _
 case insert t m k x =>
  cases P.underlying t with
  | none => exact SimP.none _
  | some d =>
   cases d <;> (try dsimp only) <;> try exact SimP.none _
   rename_i kt et
   cases P.underlying kt with
   | none => exact SimP.none _
   | some d2 =>
    try dsimp only
    cases iM d2 with
    | true => exact xR _ _ _ _
    | false => exact SimP.none _
 case mapEntry t m k =>
  cases P.underlying t with
  | none => exact SimP.none _
  | some d =>
   cases d <;> (try dsimp only) <;> try exact SimP.none _
   rename_i kt et
   cases P.underlying kt with
   | none => exact SimP.none _
   | some d2 =>
    cases P.info? et with
    | none => exact SimP.none _
    | some i =>
     try dsimp only
     cases i.zero with
     | none => exact SimP.none _
     | some z =>
      try dsimp only
      cases iM d2 with
      | true => exact aEx _ _ _ _
      | false => exact SimP.none _
 case entryStore t m s x => exact xZ _ _ _
 case makeSlice t n c =>
  cases P.underlying t with
  | none => exact SimP.none _
  | some d =>
   cases d <;> (try dsimp only) <;> try exact SimP.none _
   rename_i e
   cases P.info? e with
   | none => exact SimP.none _
   | some i =>
    try dsimp only
    cases i.zero with
    | none => exact SimP.none _
    | some z =>
     try dsimp only
     split
     ·exact aBz _ _ _ _ _
     ·exact SimP.none _
 case call c =>
  obtain ⟨callee, args, ats⟩ := c
  cases callee with
  | value f =>
   try dsimp only
   unfold jF
   cases opr env f <;> first | exact SimP.none _ | exact HC _ _
  | invoke r m =>
   try dsimp only
   unfold aUj
   cases opr env r <;> (try dsimp only) <;> try exact SimP.none _
   rename_i t v
   cases bPj P t m with
   | none => exact SimP.none _
   | some f => exact HC _ _
  | builtin b => exact aOe _ _ _
theorem lM (HC : ∀ g args, SimP gg (cA ⟨P, I2⟩ rec2 g args) (cA ⟨P, I1⟩ rec1 g args)) (all : Array Oper) (o : Oper) (env : bC) :
  SimP gg (bJ ⟨P, I2⟩ rec2 all o env) (bJ ⟨P, I1⟩ rec1 all o env) := by
 unfold bJ
 cases o.guard with
 | none => exact aCv HC o env
 | some g =>
  obtain ⟨j, want⟩ := g
  dsimp only
  unfold gD
  cases aXq all j env <;> try exact SimP.none _
  ·rename_i x
   dsimp only
   split
   ·exact aCv HC o env
   ·exact SimP.val _
  ·rename_i vs
   cases vs with
   | nil => exact SimP.val _
   | cons a b => exact SimP.none _
def SimK (gg : Bool) (k k' : K) : Prop := ∀ env, SimP gg (k env) (k' env)
theorem dQn {r r' : aG} {k k' : DV → Hp → aG} (h : SimR gg r r') (hk : ∀ v, SimP gg (k v) (k' v)) : SimR gg (bnd r k) (bnd r' k') := by
 intro v h1 e
 obtain ⟨u, h0, e1, e2⟩ := cY e
 obtain ⟨h0', f1, S⟩ := h u h0 e1
 obtain ⟨h1', g1, S1⟩ := hk u h0 h0' S v h1 e2
 exact ⟨h1', by rw [f1]; exact g1, S1⟩
theorem dRh {b b' : Bool} {r r' : aG} (hb : b = true → b' = true) (h : SimR gg r r') : SimR gg (cnd b r) (cnd b' r') := by
 cases b with
 | false => exact fun v k e => by cases e
 | true => rw [hb rfl]; exact h
theorem rY (HC : ∀ g args, SimP gg (cA ⟨P, I2⟩ rec2 g args) (cA ⟨P, I1⟩ rec1 g args)) (nt : Nat) (all : Array Oper) {k k' : K} (hk : SimK gg k k') :
  ∀ l : List Oper, SimK gg (gY ⟨P, I2⟩ rec2 nt all l k) (gY ⟨P, I1⟩ rec1 nt all l k')
 | [] => hk
 | o :: l => fun env h h' S => by
  change SimR gg (cnd (dI nt o.dst) (bnd (bJ ⟨P, I2⟩ rec2 all o env h) fun v h1 => gY ⟨P, I2⟩ rec2 nt all l k (bN env o.dst v) h1))
   (cnd (dI nt o.dst) (bnd (bJ ⟨P, I1⟩ rec1 all o env h') fun v h1 => gY ⟨P, I1⟩ rec1 nt all l k' (bN env o.dst v) h1))
  exact dRh id (dQn (lM HC all o env h h' S) fun v => rY HC nt all hk l _)
theorem aCj {gg : Bool} (b : Pos) : SimP gg (kL b) (kL b) := by
 intro h h' S v k e
 simp only [kL, aT, bF] at e ⊢
 obtain ⟨rfl, rfl⟩ := e
 exact ⟨_, ⟨rfl, rfl⟩, by rw [S.next]; first | exact S.setR _ _ _ _ | exact S.setM _ _ _ | exact S.setI _ _ _ _⟩
theorem dAz (o : Oper) (b : Pos) (env : bC) : SimP gg (eC ⟨P, I2⟩ o b env) (eC ⟨P, I1⟩ o b env) := by
 obtain ⟨dst, op, ty, pos, after, guard⟩ := o
 unfold eC
 cases op <;> (try dsimp only) <;> try exact SimP.none _
 case alloc t =>
  cases P.info? t with
  | none => exact SimP.none _
  | some i =>
   dsimp only
   cases i.zero with
   | none => exact SimP.none _
   | some z => exact aCk _ _
 case makeMap t r => cases r with
  | none => exact aCj _
  | some _ => exact SimP.none _
 case box t x => exact bCs _ _
 case buildSlice t n ps =>
  cases P.underlying t with
  | none => exact SimP.none _
  | some d =>
   cases d <;> (try dsimp only) <;> try exact SimP.none _
   rename_i e
   cases P.info? e with
   | none => exact SimP.none _
   | some i =>
    dsimp only
    cases i.zero with
    | none => exact SimP.none _
    | some z =>
     dsimp only
     split
     ·exact tY _ _ _ _
     ·exact SimP.none _
theorem SimR.same {r r' : aG} (h : SimR gg r r') {v : DV} (hs : bI r v = true) : bI r' v = true := by
 unfold bI at hs ⊢
 split at hs
 ·rename_i x k
  obtain ⟨k', e, _⟩ := h x k rfl
  rw [e]; exact hs
 ·cases hs
inductive SimHs (gg : Bool) : List (Option Nat × Hp) → List (Option Nat × Hp) → Prop
 | nil : SimHs gg [] []
 | cons {j : Option Nat} {h h' : Hp} {l l' : List (Option Nat × Hp)} (S : Sim gg h h') (T : SimHs gg l l') : SimHs gg ((j, h) :: l) ((j, h') :: l')
theorem vL (m : Array Nat) (i : Nat) (v : DV) {look look' : Hp → aG} (hl : SimP gg look look') : ∀ (dirty : Bool) {hs hs' : List (Option Nat × Hp)}, SimHs gg hs hs' →
  eS m i v look dirty hs = true → eS m i v look' dirty hs' = true
 | dirty, _, _, .nil, h => h
 | dirty, _, _, .cons (j := j) S T, h => by
  unfold eS at h ⊢
  rw [Bool.and_eq_true] at h ⊢
  refine ⟨?_, ?_⟩
  ·have h1 := h.1
   cases dirty with
   | true => exact SimR.same (hl _ _ S) h1
   | false => exact h1
  ·have h2 := h.2
   cases j with
   | none => exact h2
   | some j =>
    dsimp only at h2 ⊢
    cases ho : gM m j i with
    | true => rfl
    | false =>
     rw [ho] at h2
     exact vL m i v hl true T h2
inductive SimSeen (gg : Bool) : List Seen → List Seen → Prop
 | nil : SimSeen gg [] []
 | cons {i : Nat} {look look' : Hp → aG} {v : DV} {l l' : List Seen} (S : SimP gg look look') (T : SimSeen gg l l') : SimSeen gg (⟨i, look, v⟩ :: l) (⟨i, look', v⟩ :: l')
theorem SimSeen.all {m : Array Nat} {i : Nat} {h h' : Hp} (S : Sim gg h h') : ∀ {l l' : List Seen}, SimSeen gg l l' →
  l.all (fun q => gM m q.at_ i || bI (q.look h) q.v) = true → l'.all (fun q => gM m q.at_ i || bI (q.look h') q.v) = true
 | _, _, .nil, e => e
 | _, _, .cons (i := i0) (v := v) S1 T, e => by
  rw [List.all_cons, Bool.and_eq_true] at e ⊢
  refine ⟨?_, SimSeen.all S T e.2⟩
  have h1 := e.1
  rw [Bool.or_eq_true] at h1 ⊢
  exact h1.imp id fun hs => SimR.same (S1 _ _ S) hs
theorem nV (HC : ∀ g args, SimP gg (cA ⟨P, I2⟩ rec2 g args) (cA ⟨P, I1⟩ rec1 g args)) (nt : Nat) (all : Array Oper) (m : Array Nat) (p0 : Pos) {k k' : K} (hk : SimK gg k k') :
  ∀ (l : List Oper) (i c : Nat) (dirty : Bool) {rd rd' : List Seen} {hs hs' : List (Option Nat × Hp)}, SimSeen gg rd rd' → SimHs gg hs hs' →
   SimK gg (eQ ⟨P, I2⟩ rec2 nt all m p0 l k i c dirty rd hs) (eQ ⟨P, I1⟩ rec1 nt all m p0 l k' i c dirty rd' hs')
 | [], i, c, dirty, rd, rd', hs, hs', R, T => hk
 | o :: l, i, c, dirty, rd, rd', hs, hs', R, T => fun env h h' S => by
  change SimR gg (cnd (dI nt o.dst) (
   match bV P o.op with
   | .pure => bnd (bJ ⟨P, I2⟩ rec2 all o env h) fun v h' => eQ ⟨P, I2⟩ rec2 nt all m p0 l k (i + 1) c dirty rd hs (bN env o.dst v) h'
   | .reads => bnd (bJ ⟨P, I2⟩ rec2 all o env h) fun v h' =>
     cnd (eS m i v (bJ ⟨P, I2⟩ rec2 all o env) dirty hs) (eQ ⟨P, I2⟩ rec2 nt all m p0 l k (i + 1) c dirty (⟨i, bJ ⟨P, I2⟩ rec2 all o env, v⟩ :: rd) hs (bN env o.dst v) h')
   | .makes => bnd (eC ⟨P, I2⟩ o (cK c p0) env h) fun v h' => eQ ⟨P, I2⟩ rec2 nt all m p0 l k (i + 1) (c + 1) true rd hs (bN env o.dst v) h'
   | .acts => bnd (bJ ⟨P, I2⟩ rec2 all o env h) fun v h' =>
     cnd (rd.all (fun q => gM m q.at_ i || bI (q.look h') q.v)) (eQ ⟨P, I2⟩ rec2 nt all m p0 l k (i + 1) c false rd ((some i, h') :: hs) (bN env o.dst v) h')))
   (cnd (dI nt o.dst) (
   match bV P o.op with
   | .pure => bnd (bJ ⟨P, I1⟩ rec1 all o env h') fun v h' => eQ ⟨P, I1⟩ rec1 nt all m p0 l k' (i + 1) c dirty rd' hs' (bN env o.dst v) h'
   | .reads => bnd (bJ ⟨P, I1⟩ rec1 all o env h') fun v h' =>
     cnd (eS m i v (bJ ⟨P, I1⟩ rec1 all o env) dirty hs') (eQ ⟨P, I1⟩ rec1 nt all m p0 l k' (i + 1) c dirty (⟨i, bJ ⟨P, I1⟩ rec1 all o env, v⟩ :: rd') hs' (bN env o.dst v) h')
   | .makes => bnd (eC ⟨P, I1⟩ o (cK c p0) env h') fun v h' => eQ ⟨P, I1⟩ rec1 nt all m p0 l k' (i + 1) (c + 1) true rd' hs' (bN env o.dst v) h'
   | .acts => bnd (bJ ⟨P, I1⟩ rec1 all o env h') fun v h' =>
     cnd (rd'.all (fun q => gM m q.at_ i || bI (q.look h') q.v)) (eQ ⟨P, I1⟩ rec1 nt all m p0 l k' (i + 1) c false rd' ((some i, h') :: hs') (bN env o.dst v) h')))
  refine dRh id ?_
  cases bV P o.op with
  | pure => exact dQn (lM HC all o env h h' S) fun v => nV HC nt all m p0 hk l _ _ _ R T _
  | reads =>
   exact dQn (lM HC all o env h h' S) fun v h1 h1' S1 => dRh (vL m i v (lM HC all o env) dirty T)
    (nV HC nt all m p0 hk l _ _ _ (.cons (lM HC all o env) R) T _ _ _ S1)
  | makes => exact dQn (dAz o _ env h h' S) fun v => nV HC nt all m p0 hk l _ _ _ R T _
  | acts =>
   exact dQn (lM HC all o env h h' S) fun v h1 h1' S1 => dRh (SimSeen.all S1 R)
    (nV HC nt all m p0 hk l _ _ _ R (.cons S1 T) _ _ _ S1)
theorem Sim.resv {gg : Bool} {h h' : Hp} (S : Sim gg h h') (k : Nat) : Sim gg (resv k h) (resv k h') := by
 cases k with
 | zero => exact S
 | succ k => exact ⟨by show cK (k + 1) h'.next = cK (k + 1) h.next; rw [S.next], S.get⟩
theorem bUc (HC : ∀ g args, SimP gg (cA ⟨P, I2⟩ rec2 g args) (cA ⟨P, I1⟩ rec1 g args)) (nt : Nat) (ops : Array Oper) {k k' : K} (hk : SimK gg k k') :
  SimK gg (iN ⟨P, I2⟩ rec2 nt ops k) (iN ⟨P, I1⟩ rec1 nt ops k') := fun env h h' S => by
 unfold iN
 rw [S.next]
 exact nV HC nt ops _ _ hk _ _ _ _ .nil (.cons (S.resv _) .nil) env _ _ (S.resv _)
theorem aJe {c : DV} {a b a' b' : aG} (ha : SimR gg a a') (hb : SimR gg b b') : SimR gg (aX c a b) (aX c a' b') := by
 unfold aX
 cases c <;> try exact SimR.none _
 rename_i x
 cases x
 ·exact hb
 ·exact ha
theorem sE {b b' : K → K} (hb : ∀ k k', SimK gg k k' → SimK gg (b k) (b' k')) : ∀ (n d : Nat), SimK gg (aL b n) (aL b' (n + d))
 | 0, d => fun env h h' S v k e => by cases e
 | n + 1, d => by
  rw [show n + 1 + d = (n + d) + 1 from by omega]
  exact hb _ _ (sE hb n d)
theorem gH (HC : ∀ g args, SimP gg (cA ⟨P, I2⟩ rec2 g args) (cA ⟨P, I1⟩ rec1 g args)) (nt n d : Nat) : ∀ (c : Code) (X X' : Nat → K) (kr kr' k k' : K), (∀ j, SimK gg (X j) (X' j)) → SimK gg kr kr' → SimK gg k k' →
  SimK gg (aM ⟨P, I2⟩ rec2 nt n c X kr k) (aM ⟨P, I1⟩ rec1 nt (n + d) c X' kr' k') := by
 intro c
 have hfail : ∀ k', SimK gg cT k' := fun k' env h h' S v k e => by cases e
 induction c with
 | skip => intro X X' kr kr' k k' hX hr hk; exact hk
 | region id ops dr =>
  intro X X' kr kr' k k' hX hr hk
  change SimK gg (Bool.rec (motive := fun _ => K) (gY ⟨P, I2⟩ rec2 nt ops ops.toList k) (Bool.rec (motive := fun _ => K) cT (iN ⟨P, I2⟩ rec2 nt ops k) (eW P ops)) dr)
   (Bool.rec (motive := fun _ => K) (gY ⟨P, I1⟩ rec1 nt ops ops.toList k') (Bool.rec (motive := fun _ => K) cT (iN ⟨P, I1⟩ rec1 nt ops k') (eW P ops)) dr)
  cases dr with
  | false => exact rY HC nt ops hk _
  | true =>
   cases eW P ops with
   | false => exact hfail _
   | true => exact bUc HC nt ops hk
 | seq x y ihx ihy => intro X X' kr kr' k k' hX hr hk; exact ihx _ _ _ _ _ _ hX hr (ihy _ _ _ _ _ _ hX hr hk)
 | cond c x y ihx ihy =>
  intro X X' kr kr' k k' hX hr hk env h h' S
  exact aJe (ihx _ _ _ _ _ _ hX hr hk env h h' S) (ihy _ _ _ _ _ _ hX hr hk env h h' S)
 | block id x ih =>
  intro X X' kr kr' k k' hX hr hk
  refine ih _ _ _ _ _ _ (fun j => ?_) hr hk
  cases hj : Nat.beq j id with
  | true => exact hk
  | false => exact hX j
 | loop x ih =>
  intro X X' kr kr' k k' hX hr hk
  exact sE (fun k k' hk => ih _ _ _ _ _ _ hX hr hk) n d
 | rangeFunc f ps x y ihx ihy => intro X X' kr kr' k k' hX hr hk; exact hfail _
 | exit id => intro X X' kr kr' k k' hX hr hk; exact hX id
 | scope x ih => intro X X' kr kr' k k' hX hr hk; exact ih _ _ _ _ _ _ hX hr hk
 | label l => intro X X' kr kr' k k' hX hr hk; exact hk
 | goto l => intro X X' kr kr' k k' hX hr hk; exact hfail _
 | ret => intro X X' kr kr' k k' hX hr hk; exact hr
 | refuse why => intro X X' kr kr' k k' hX hr hk; exact hfail _
theorem bFa {h h' : Hp} (S : Sim gg h h') (t : TypeId) (x : DV) {k k' : DV → aG} (hk : ∀ v, SimR gg (k v) (k' v)) : SimR gg (aDs ⟨P, I2⟩ t x h k) (aDs ⟨P, I1⟩ t x h' k') := by
 unfold aDs
 dsimp only
 cases P.underlying t with
 | none => exact SimR.none _
 | some d =>
  cases P.info? t with
  | none => exact SimR.none _
  | some i =>
   dsimp only
   refine dQn ?_ fun v _ _ _ => hk v
   cases jT d with
   | true => exact mG _ _ h h' S
   | false => exact lY _ h h' S
theorem uC {h h' : Hp} (S : Sim gg h h') (env : bC) : ∀ (l : List ResultVar) (k k' : List DV → aG), (∀ vs, SimR gg (k vs) (k' vs)) → SimR gg (bCp ⟨P, I2⟩ env h l k) (bCp ⟨P, I1⟩ env h' l k')
 | [], k, k', hk => hk []
 | .tmp t :: l, k, k', hk => uC S env l _ _ fun vs => hk _
 | .cell a t :: l, k, k', hk => bFa S t (env a) fun v => uC S env l _ _ fun vs => hk _
theorem sO (fn : Func) : SimK gg (aQ ⟨P, I2⟩ fn) (aQ ⟨P, I1⟩ fn) := fun env h h' S => by
 unfold aQ
 refine uC S env _ _ _ fun vs => ?_
 unfold bLz
 match vs with
 | [v] => exact SimR.some S _
 | [] => exact SimR.some S _
 | _ :: _ :: _ => exact SimR.some S _
theorem oF (HC : ∀ g args, SimP gg (cA ⟨P, I2⟩ rec2 g args) (cA ⟨P, I1⟩ rec1 g args)) (n d : Nat) (f : FuncId) (args : List DV) :
  SimP gg (aF ⟨P, I2⟩ rec2 n f args) (aF ⟨P, I1⟩ rec1 (n + d) f args) := by
 intro h h' S
 unfold aF
 dsimp only
 cases P.funcs[f]? with
 | none => exact SimR.none _
 | some fn =>
  dsimp only
  cases fn.body with
  | none => exact SimR.none _
  | some c => exact gH HC fn.ntmps n d c _ _ _ _ _ _ (fun _ _ _ _ _ _ _ e => by cases e) (sO fn) (sO fn) _ h h' S
end
theorem bRz {gg : Bool} {P : Program} {I2 I1 : FuncId → Option (List DV → Hp → aG)} (d : Nat) (h0 : ∀ g, I2 g = none → I1 g = none)
  (hI : ∀ g F, I2 g = some F → ∀ n args, SimP gg (F args) (cA ⟨P, I1⟩ (mZ ⟨P, I1⟩ (n + d)) g args)) : ∀ (n : Nat) (f : FuncId) (args : List DV), SimP gg (mZ ⟨P, I2⟩ n f args) (mZ ⟨P, I1⟩ (n + d) f args)
 | 0, f, args => fun h h' S v k e => by cases e
 | n + 1, f, args => by
  rw [show n + 1 + d = (n + d) + 1 from by omega]
  refine oF (fun g az => ?_) n d f args
  unfold cA
  dsimp only
  cases hg : I2 g with
  | none =>
   rw [h0 g hg]
   exact bRz d h0 hI n g az
  | some F =>
   have := hI g F hg n az
   unfold cA at this
   exact this
end Go.Dd

namespace Go.Dd
section
variable {gg : Bool} {P : Program} {I2 I1 : FuncId → Option (List DV → Hp → aG)} {rec2 rec1 : FuncId → List DV → Hp → aG}
theorem oN {c : Bool} {q q' : aG} (h : SimR gg q q') : SimR gg (cnd c q) (cnd c q') := by
 cases c with
 | false => exact SimR.none _
 | true => exact h
theorem dQl (k' : K) : SimK gg cT k' := fun env h h' S v k e => by cases e
theorem aBc (HC : ∀ g args, SimP gg (cA ⟨P, I2⟩ rec2 g args) (cA ⟨P, I1⟩ rec1 g args)) (n d : Nat) (I : ItC) (b : Bool) {kr kr' k k' : K} (hr : SimK gg kr kr') (hk : SimK gg k k') (e1 : bC) :
  SimP gg (sQ ⟨P, I2⟩ rec2 n I b kr k e1) (sQ ⟨P, I1⟩ rec1 (n + d) I b kr' k' e1) := fun h h' S =>
 oN (rY HC I.nt I.ops (gH HC I.nt n d I.after _ _ _ _ _ _ (fun _ => dQl _) hr hk) _ _ h h' S)
theorem bDt (HC : ∀ g args, SimP gg (cA ⟨P, I2⟩ rec2 g args) (cA ⟨P, I1⟩ rec1 g args)) (n d : Nat) (I : ItC) (nt : Nat) (p : Tmp) (x y : Code) (env : bC) {X X' : Nat → K} {kr kr' kk kk' : K} (hX : ∀ j, SimK gg (X j) (X' j)) (hr : SimK gg kr kr') (hk : SimK gg kk kk') :
  SimK gg (aKi ⟨P, I2⟩ rec2 n I nt p x y env X kr kk) (aKi ⟨P, I1⟩ rec1 (n + d) I nt p x y env X' kr' kk') := fun e1 h h' S =>
 oN (gH HC nt n d x _ _ _ _ _ _ (fun _ => dQl _) (dQl _)
  (gH HC nt n d y _ _ _ _ _ _ (fun i _ => aBc HC n d I false (fun _ => hX i env) (dQl _) e1) (fun _ => aBc HC n d I false (fun _ => hr env) (dQl _) e1)
   (fun _ => aBc HC n d I true (dQl _) (gH HC I.nt n d I.post _ _ _ _ _ _ (fun _ => dQl _) (dQl _) (gH HC I.nt n d I.step _ _ _ _ _ _ (fun _ => dQl _) (dQl _) hk)) e1)) _ h h' S)
theorem aPv (HC : ∀ g args, SimP gg (cA ⟨P, I2⟩ rec2 g args) (cA ⟨P, I1⟩ rec1 g args)) (n d : Nat) (I : ItC) (nt : Nat) (g : Operand) (p : Tmp) (x y : Code) {X X' : Nat → K} {kr kr' k k' : K} (hX : ∀ j, SimK gg (X j) (X' j)) (hr : SimK gg kr kr') (hk : SimK gg k k') :
  SimK gg (oE ⟨P, I2⟩ rec2 n I nt g p x y X kr k) (oE ⟨P, I1⟩ rec1 (n + d) I nt g p x y X' kr' k') := by
 intro env h h' S
 unfold oE
 cases opr env g with
 | f gf first cap =>
  cases first with
  | cons _ _ => exact SimR.none _
  | nil =>
   refine oN ?_
   rw [S.next]
   refine gH HC I.nt n d I.pre _ _ _ _ _ _ (fun _ => dQl _) (dQl _) (sE (fun kk kk' hkk => ?_) n d) _ _ _ (S.resv 2)
   refine gH HC I.nt n d I.test _ _ _ _ _ _ (fun j => ?_) (dQl _) (rY HC I.nt I.ops ?_ I.front)
   ·cases Nat.beq j I.b0 with
    | true => exact fun _ => hk env
    | false => exact dQl _
   ·intro e1 h1 h1' S1
    exact oN (c := ylB (e1 I.yt) h.next) (bDt HC n d I nt p x y env hX hr hkk e1 h1 h1' S1)
 | _ => exact SimR.none _
theorem bFi (HC : ∀ g args, SimP gg (cA ⟨P, I2⟩ rec2 g args) (cA ⟨P, I1⟩ rec1 g args)) (nt n d : Nat) (I : ItC) : ∀ (c : Code) (X X' : Nat → K) (kr kr' k k' : K), (∀ j, SimK gg (X j) (X' j)) → SimK gg kr kr' → SimK gg k k' →
  SimK gg (pD ⟨P, I2⟩ rec2 nt n I c X kr k) (pD ⟨P, I1⟩ rec1 nt (n + d) I c X' kr' k') := by
 intro c
 induction c with
 | skip => intro X X' kr kr' k k' hX hr hk; exact hk
 | region id ops dr => intro X X' kr kr' k k' hX hr hk; exact gH HC nt n d (.region id ops dr) _ _ _ _ _ _ hX hr hk
 | seq x y ihx ihy => intro X X' kr kr' k k' hX hr hk; exact ihx _ _ _ _ _ _ hX hr (ihy _ _ _ _ _ _ hX hr hk)
 | cond c x y ihx ihy =>
  intro X X' kr kr' k k' hX hr hk env h h' S
  exact aJe (ihx _ _ _ _ _ _ hX hr hk env h h' S) (ihy _ _ _ _ _ _ hX hr hk env h h' S)
 | block id x ih =>
  intro X X' kr kr' k k' hX hr hk
  refine ih _ _ _ _ _ _ (fun j => ?_) hr hk
  cases hj : Nat.beq j id with
  | true => exact hk
  | false => exact hX j
 | loop x ih =>
  intro X X' kr kr' k k' hX hr hk
  exact sE (fun k k' hk => ih _ _ _ _ _ _ hX hr hk) n d
 | rangeFunc g ps x y ihx ihy =>
  intro X X' kr kr' k k' hX hr hk
  obtain ⟨l⟩ := ps
  match l with
  | [p] => exact aPv HC n d I nt g p x y hX hr hk
  | [] => exact dQl _
  | _ :: _ :: _ => exact dQl _
 | exit id => intro X X' kr kr' k k' hX hr hk; exact hX id
 | ret => intro X X' kr kr' k k' hX hr hk; exact hr
 | _ => intros; exact dQl _
theorem bFo (HC : ∀ g args, SimP gg (cA ⟨P, I2⟩ rec2 g args) (cA ⟨P, I1⟩ rec1 g args)) (n d : Nat) (I : ItC) (f : FuncId) (args : List DV) :
  SimP gg (jS ⟨P, I2⟩ rec2 n I f args) (jS ⟨P, I1⟩ rec1 (n + d) I f args) := by
 intro h h' S
 unfold jS
 dsimp only
 cases P.funcs[f]? with
 | none => exact SimR.none _
 | some fn =>
  dsimp only
  cases fn.body with
  | none => exact SimR.none _
  | some c => exact bFi HC fn.ntmps n d I c _ _ _ _ _ _ (fun _ => dQl _) (sO fn) (sO fn) _ h h' S
end
end Go.Dd

namespace Go.Dd
noncomputable def fnR (C : Cfg) (I : ItC) (q : FuncId → Bool) (n : Nat) : FuncId → List DV → Hp → aG :=
 Nat.rec (motive := fun _ => FuncId → List DV → Hp → aG) (fun _ _ _ => none) (fun m ih f => bif q f then jS C ih m I f else aF C ih m f) n
theorem bSn {C : Cfg} {I : ItC} {q : FuncId → Bool} (hP : POk C.P) (hI : ∀ G g F, C.I g = some F → gF C.P G g F) (iOk : ItOk C.P I) (hq : ∀ f, q f = true → ∀ fn c, C.P.funcs[f]? = some fn → fn.body = some c → gO c = true) :
  ∀ (n : Nat) (G : Gd) (f : FuncId), gF C.P G f (fnR C I q n f)
 | 0, G, f => fun args h v h1 hr => by cases hr
 | n + 1, G, f => by
  show gF C.P G f (bif q f then jS C (fnR C I q n) n I f else aF C (fnR C I q n) n f)
  have K : OkC C (fnR C I q n) := ⟨hI, fun G g => bSn hP hI iOk hq n G g⟩
  cases hf : q f with
  | true => exact bLu K hP iOk n f (hq f hf)
  | false => exact rF K hP n f
theorem aGq {gg : Bool} {P : Program} {I2 I1 : FuncId → Option (List DV → Hp → aG)} {I : ItC} {q : FuncId → Bool} (d : Nat) (h0 : ∀ g, I2 g = none → I1 g = none)
  (hI : ∀ g F, I2 g = some F → ∀ n args, SimP gg (F args) (cA ⟨P, I1⟩ (fnR ⟨P, I1⟩ I q (n + d)) g args)) : ∀ (n : Nat) (f : FuncId) (args : List DV), SimP gg (fnR ⟨P, I2⟩ I q n f args) (fnR ⟨P, I1⟩ I q (n + d) f args)
 | 0, f, args => fun h h' S v k e => by cases e
 | n + 1, f, args => by
  rw [show n + 1 + d = (n + d) + 1 from by omega]
  have HC : ∀ g az, SimP gg (cA ⟨P, I2⟩ (fnR ⟨P, I2⟩ I q n) g az) (cA ⟨P, I1⟩ (fnR ⟨P, I1⟩ I q (n + d)) g az) := fun g az => by
   unfold cA
   dsimp only
   cases hg : I2 g with
   | none =>
    rw [h0 g hg]
    exact aGq d h0 hI n g az
   | some F =>
    have := hI g F hg n az
    unfold cA at this
    exact this
  show SimP gg ((bif q f then jS ⟨P, I2⟩ (fnR ⟨P, I2⟩ I q n) n I f else aF ⟨P, I2⟩ (fnR ⟨P, I2⟩ I q n) n f) args) ((bif q f then jS ⟨P, I1⟩ (fnR ⟨P, I1⟩ I q (n + d)) (n + d) I f else aF ⟨P, I1⟩ (fnR ⟨P, I1⟩ I q (n + d)) (n + d) f) args)
  cases q f with
  | true => exact bFo HC n d I f args
  | false => exact oF HC n d f args
end Go.Dd

namespace Go.Dd
noncomputable section
def kC (w : Int) : Nat :=
 match w with
 | .ofNat w => bif Nat.beq (Nat.mod w 2) 0 && (Nat.ble 6 w && Nat.ble w 262144) then Nat.div w 2 else 0
 | .negSucc _ => 0
def iP (w : Int) : Bool :=
 match w with
 | .ofNat w => Nat.beq (Nat.mod w 2) 1 && Nat.blt w 2147483648
 | .negSucc w => Nat.beq (Nat.mod w 2) 0 && Nat.blt w 2147483648
def cPp (w : Int) : Int :=
 match w with
 | .ofNat w => .ofNat (Nat.div w 2)
 | .negSucc w => .negSucc (Nat.div w 2)
structure MemV where
 wb : Pos
 n : Nat
 fin : Nat
 made : Nat
 pb : Pos
 t : WT
 pl : WT
def sP (m : Pos) (h : Hp) : Option MemV :=
 match h.bl.get m with
 | some (.row .ex [.l wb 0 n c, .i .i64 (.ofNat fin), .i .i64 (.ofNat made), .m pb]) =>
  match h.bl.get wb, h.bl.get pb with
  | some (.big n' t), some (.mi pl) => bif Nat.beq n n' && Nat.beq n c then (bif Nat.blt n 1000000 && (Nat.ble fin n && Nat.blt made 1000000) then some ⟨wb, n, fin, made, pb, t, pl⟩ else none) else none
  | _, _ => none
 | _ => none
def gN (o : Int) (pl : WT) : Nat :=
 bif Nat.beq (kC o) 0 then 0 else match pl.get (kC o) with
  | .ofNat 0 => 0
  | _ => kC o
def aEn (w : Int) (pl : WT) : Bool :=
 match w with
 | .ofNat 0 => true
 | .ofNat 2 => true
 | .ofNat 4 => true
 | w => iP w || !(Nat.beq (gN w pl) 0)
def aCb (w : Int) (pl : WT) : Bool :=
 match w with
 | .ofNat 0 => true
 | w => !(Nat.beq (gN w pl) 0)
def sD (args : List DV) (h : Hp) (k : MemV → List DV → aG) : aG :=
 match args with
 | .p m 0 :: rest => match sP m h with
  | some M => k M rest
  | none => none
 | _ => none
def err (e : Nat) (h : Hp) : aG := some (.t [.i .i64 (.ofNat 0), .i .i64 (.ofNat e)], h)
def isF (args : List DV) (h : Hp) : aG := sD args h fun M r => match r with
 | [.i .i64 w] => some (.b (!(Nat.beq (gN w M.pl) 0)), h)
 | _ => none
def bNs (args : List DV) (h : Hp) : aG := sD args h fun M r => match r with
 | [.i .i64 w] => some (.b (aEn w M.pl), h)
 | _ => none
def aNz (args : List DV) (h : Hp) : aG := sD args h fun M r => match r with
 | [] => some (.i .i64 (.ofNat M.n), h)
 | _ => none
def bBf (args : List DV) (h : Hp) : aG := sD args h fun M r => match r with
 | [] => some (.i .i64 (.ofNat (Nat.sub M.n M.fin)), h)
 | _ => none
def nC (M : MemV) (o : Int) (k : Nat → aG) : aG :=
 bif Nat.blt (Nat.add (gN o M.pl) 1) M.n then (match M.t.get (gN o M.pl) with
  | .ofNat hd => bif Nat.blt hd 1000000000000 then k hd else none
  | .negSucc _ => none) else none
def tS (args : List DV) (h : Hp) : aG := sD args h fun M r => match r with
 | [.i .i64 o] => nC M o fun _ => some (.i .i64 (M.t.get (Nat.add (gN o M.pl) 1)), h)
 | _ => none
def xC (args : List DV) (h : Hp) : aG := sD args h fun M r => match r with
 | [.i .i64 o] => nC M o fun hd => some (.i .i64 (.ofNat (Nat.mod hd 4)), h)
 | _ => none
def rQ (args : List DV) (h : Hp) : aG := sD args h fun M r => match r with
 | [.i .i64 o] => nC M o fun hd => some (.i .i64 (.ofNat (Nat.div hd 4)), h)
 | _ => none
def lG (M : MemV) (o i : Int) (bad : Nat → aG) (k : Nat → Nat → aG) : aG :=
 bif Nat.beq (gN o M.pl) 0 then bad 1 else match i with
  | .negSucc _ => bad 5
  | .ofNat i => nC M o fun hd => bif Nat.ble (Nat.div hd 4) i then bad 5 else
    (bif Nat.blt (Nat.add (Nat.add (gN o M.pl) 3) i) M.n then k hd (Nat.add (Nat.add (gN o M.pl) 3) i) else none)
def bLw (args : List DV) (h : Hp) : aG := sD args h fun M r => match r with
 | [.i .i64 o, .i .i64 i] => lG M o i (fun e => err e h) fun _ a => some (.t [.i .i64 (M.t.get a), .i .i64 (.ofNat 0)], h)
 | _ => none
def rE (M : MemV) (a : Nat) (w : Int) (h : Hp) : aG := some (.i .i64 (.ofNat 0), ⟨h.next, Tr.set (.big M.n (M.t.set a w)) M.wb h.bl⟩)
def aOb (args : List DV) (h : Hp) : aG := sD args h fun M r => match r with
 | [.i .i64 o, .i .i64 i, .i .i64 w] => lG M o i (fun e => some (.i .i64 (.ofNat e), h)) fun hd a =>
   match Nat.mod hd 4 with
   | 0 => bif aEn w M.pl then rE M a w h else some (.i .i64 (.ofNat 6), h)
   | 2 => (match w with
    | .ofNat c => bif Nat.ble c 255 then rE M a w h else some (.i .i64 (.ofNat 6), h)
    | .negSucc _ => some (.i .i64 (.ofNat 6), h))
   | _ => rE M a w h
 | _ => none
def lZ (args : List DV) (h : Hp) : aG := sD args h fun M r => match r with
 | [.i .i64 o, .i .i64 c] => bif Nat.beq (gN o M.pl) 0 || !(aCb c M.pl) then some (.i .i64 (.ofNat 1), h) else
   (bif Nat.blt (Nat.add (gN o M.pl) 1) M.n then rE M (Nat.add (gN o M.pl) 1) c h else none)
 | _ => none
def pO (t : WT) (c : Nat) : Nat → WT :=
 Nat.rec (motive := fun _ => Nat → WT) (fun _ => t) (fun _ ih a => (ih (Nat.add a 1)).set a (.ofNat 0)) c
def vF (args : List DV) (h : Hp) : aG :=
 match args with
 | [.p m 0, .i .i64 cls, .i .i64 fmt, .i .i64 cnt] => match sP m h with
  | none => none
  | some M => bif !(aCb cls M.pl) then err 1 h else match fmt, cnt with
   | .ofNat f, .ofNat c => bif Nat.ble f 2 && Nat.ble c 256 then
     (bif Nat.blt (Nat.sub M.n M.fin) (Nat.add c 3) then err 4 h else
      (bif Nat.ble 3 M.fin && Nat.ble M.fin 131072 then
       some (.t [.i .i64 (.ofNat (Nat.mul M.fin 2)), .i .i64 (.ofNat 0)],
        ⟨h.next, Tr.set (.row .ex [.l M.wb 0 M.n M.n, .i .i64 (.ofNat (Nat.add M.fin (Nat.add c 3))), .i .i64 (.ofNat (Nat.succ M.made)), .m M.pb]) m
         (Tr.set (.mi (M.pl.set M.fin (.ofNat 1))) M.pb
          (Tr.set (.big M.n (pO (((M.t.set M.fin (.ofNat (Nat.add (Nat.mul c 4) f))).set (Nat.add M.fin 1) cls).set (Nat.add M.fin 2) (.ofNat (Nat.succ M.made))) c (Nat.add M.fin 3))) M.wb h.bl))⟩)
       else none))
     else err 1 h
   | _, _ => err 1 h
 | _ => none
def aRh (args : List DV) (h : Hp) : aG :=
 match args with
 | [.i .i64 (.ofNat n)] => bif Nat.blt n 16 || Nat.blt 131072 n then some (.p0, h) else
   some (.p (cK 2 h.next) 0, ⟨cK 3 h.next, Tr.set (.row .ex [.l h.next 0 n n, .i .i64 (.ofNat 3), .i .i64 (.ofNat 0), .m (cK 1 h.next)]) (cK 2 h.next)
    (Tr.set (.mi .e) (cK 1 h.next) (Tr.set (.big n .e) h.next h.bl))⟩)
 | [.i .i64 (.negSucc _)] => some (.p0, h)
 | _ => none
def kK (args : List DV) (h : Hp) : aG :=
 match args with
 | [.i .i64 w] => some (.b (iP w), h)
 | _ => none
def uJ (args : List DV) (h : Hp) : aG :=
 match args with
 | [.i .i64 w] => bif iP w then some (.i .i64 (cPp w), h) else some (.i .i64 (.ofNat 0), h)
 | _ => none
def qS (args : List DV) (h : Hp) : aG :=
 match args with
 | [.i .i64 (.ofNat n)] => bif Nat.blt n 1073741824 then some (.t [.i .i64 (.ofNat (Nat.succ (Nat.mul n 2))), .b true], h) else some (.t [.i .i64 (.ofNat 0), .b false], h)
 | [.i .i64 (.negSucc n)] => bif Nat.blt n 1073741824 then some (.t [.i .i64 (.negSucc (Nat.mul n 2)), .b true], h) else some (.t [.i .i64 (.ofNat 0), .b false], h)
 | _ => none
def aDw (g : Nat) : Option (List DV → Hp → aG) :=
 bif Nat.beq g 132 then some bNs else bif Nat.beq g 196 then some isF else bif Nat.beq g 108 then some aNz else bif Nat.beq g 126 then some bBf else
 bif Nat.beq g 77 then some vF else bif Nat.beq g 76 then some aRh else bif Nat.beq g 80 then some lZ else bif Nat.beq g 84 then some aOb else
 bif Nat.beq g 243 then some tS else bif Nat.beq g 136 then some xC else bif Nat.beq g 201 then some rQ else bif Nat.beq g 200 then some kK else
 bif Nat.beq g 134 then some qS else bif Nat.beq g 216 then some uJ else bif Nat.beq g 245 then some bLw else none
end
end Go.Dd

namespace Go.Dd
abbrev Bs := List Nat
def fK (c : Nat) : Bs → Option (Bs × Bs)
 | [] => none
 | x :: t => if x = c then some ([], t) else (fK c t).map fun p => (x :: p.1, p.2)
def bM (c : Nat) : Bs → List Bs
 | [] => [[]]
 | x :: t => if x = c then [] :: bM c t else match bM c t with
  | [] => [[x]]
  | l :: r => (x :: l) :: r
theorem oL (c : Nat) (s : Bs) : bM c s ≠ [] := by
 cases s with
 | nil => simp [bM]
 | cons x t =>
  unfold bM
  split
  ·simp
  ·split <;> simp
theorem kA {c : Nat} : ∀ {s : Bs}, fK c s = none → bM c s = [s]
 | [], _ => rfl
 | x :: t, h => by
  unfold fK at h
  split at h
  ·cases h
  ·rename_i hx
   have h' : fK c t = none := by
    cases e : fK c t with
    | none => rfl
    | some p => rw [e] at h; cases h
   unfold bM
   rw [if_neg hx, kA h']
theorem mI {c : Nat} : ∀ {s a r : Bs}, fK c s = some (a, r) → bM c s = a :: bM c r
 | [], a, r, h => by cases h
 | x :: t, a, r, h => by
  unfold fK at h
  split at h
  ·rename_i hx
   cases h
   rw [bM, if_pos hx]
  ·rename_i hx
   cases e : fK c t with
   | none => rw [e] at h; cases h
   | some p =>
    obtain ⟨a', r'⟩ := p
    rw [e] at h
    simp only [Option.map_some, aT, bF] at h
    obtain ⟨rfl, rfl⟩ := h
    rw [bM, if_neg hx, mI e]
theorem iV {c : Nat} : ∀ {s a r : Bs}, fK c s = some (a, r) → s = a ++ c :: r
 | [], a, r, h => by cases h
 | x :: t, a, r, h => by
  unfold fK at h
  split at h
  ·rename_i hx
   cases h
   rw [hx]; rfl
  ·cases e : fK c t with
   | none => rw [e] at h; cases h
   | some p =>
    obtain ⟨a', r'⟩ := p
    rw [e] at h
    simp only [Option.map_some, aT, bF] at h
    obtain ⟨rfl, rfl⟩ := h
    rw [iV e]; rfl
def nN (x : Nat) : Bool := Nat.ble 48 x && Nat.ble x 57
def mF : Nat → Bs → Nat
 | a, [] => a
 | a, x :: t => mF (10 * a + (x - 48)) t
def eO (s : Bs) : Option Nat := if s.length < 1 ∨ s.length > 9 ∨ (s.length > 1 ∧ s.head? = some 48) ∨ s.all nN = false then none else some (mF 0 s)
structure Stp where
 op : Int
 nm : Bs
 sup : Bs
 names : List Bs
 tx : Bs
 n : Int
deriving DecidableEq
def st0 (op : Int) : Stp := ⟨op, [], [], [], [], 0⟩
def oC : Bs := [99, 108, 97, 115, 115]
def fO : Bs := [109, 101, 116, 104, 111, 100]
def wDo : Bs := [100, 111]
def lB : Bs := [102, 97, 115, 116]
def nJ : Bs := [115, 108, 111, 119]
def nZ : Bs := [101, 118, 101, 114, 121]
def kM : Bs := [99, 111, 108, 108, 101, 99, 116]
def pS : Bs := [102, 108, 117, 115, 104]
def qD : Bs := [105, 109, 97, 103, 101]
def wV (w r : Bs) : Option Stp :=
 if w = oC then (let l := bM 32 r; if l.length < 2 ∨ [] ∈ l then none else some ⟨1, l.getD 0 [], l.getD 1 [], l.drop 2, [], 0⟩)
 else if w = fO then (match fK 32 r with
  | some (a, b) => if a = [] then none else some ⟨2, a, [], [], b, 0⟩
  | none => none)
 else if w = wDo then (match fK 32 r with
  | some (a, b) => (match eO a with
   | some n => some ⟨3, [], [], [], b, n⟩
   | none => none)
  | none => none)
 else if w = lB then (let l := bM 32 r; if l.length ≠ 2 ∨ [] ∈ l then none else some ⟨4, l.getD 0 [], [], [], l.getD 1 [], 1⟩)
 else if w = nJ then (let l := bM 32 r; if l.length ≠ 2 ∨ [] ∈ l then none else some ⟨4, l.getD 0 [], [], [], l.getD 1 [], 0⟩)
 else if w = nZ then (match eO r with
  | some n => some ⟨8, [], [], [], [], n⟩
  | none => none)
 else none
def jU (l : Bs) : Option Stp :=
 if l = kM then some (st0 5) else if l = pS then some (st0 6) else if l = qD then some (st0 7) else
 match fK 32 l with
 | none => none
 | some (w, r) => wV w r
def gL (l : Bs) : Option Stp :=
 let w := bM 32 l
 if w.length = 1 then (if l = kM then some (st0 5) else if l = pS then some (st0 6) else if l = qD then some (st0 7) else none)
 else
  let empty := [] ∈ w.drop 1
  let w0 := w.getD 0 []
  let w1 := w.getD 1 []
  if w0 = oC then (if w.length < 3 ∨ empty then none else some ⟨1, w1, w.getD 2 [], w.drop 3, [], 0⟩)
  else if w0 = fO then (if w.length < 3 ∨ w1 = [] then none else some ⟨2, w1, [], [], l.drop (7 + w1.length + 1), 0⟩)
  else if w0 = wDo then (if w.length < 3 then none else match eO w1 with
   | none => none
   | some n => some ⟨3, [], [], [], l.drop (3 + w1.length + 1), n⟩)
  else if w0 = lB ∨ w0 = nJ then (if w.length ≠ 3 ∨ empty then none else some ⟨4, w1, [], [], w.getD 2 [], if w0 = lB then 1 else 0⟩)
  else if w0 = nZ then (if w.length ≠ 2 then none else match eO w1 with
   | none => none
   | some n => some ⟨8, [], [], [], [], n⟩)
  else none
theorem bFj {s : Bs} (h : 32 ∈ s) : eO s = none := by
 unfold eO
 rw [if_pos]
 right; right; right
 rw [List.all_eq_false]
 exact ⟨32, h, by decide⟩
theorem cKa {c : Nat} {s a r : Bs} (h : fK c s = some (a, r)) : c ∈ s := by
 rw [iV h]; simp
theorem tP {l : Bs} (h : fK 32 l ≠ none) {w : Bs} (hw : fK 32 w = none) : l ≠ w := fun e => h (e ▸ hw)
theorem bFz (l : Bs) : jU l = gL l := by
 unfold jU gL
 cases hc : fK 32 l with
 | none =>
  simp only [kA hc, List.length_singleton, if_true]
 | some p =>
  obtain ⟨w, r⟩ := p
  have hn : fK 32 l ≠ none := by rw [hc]; simp
  rw [if_neg (tP hn (w := kM) (by decide)), if_neg (tP hn (w := pS) (by decide)), if_neg (tP hn (w := qD) (by decide))]
  have hl := iV hc
  simp only [mI hc]
  have hs := oL 32 r
  obtain ⟨a, t, hr⟩ : ∃ a t, bM 32 r = a :: t := by
   cases e : bM 32 r with
   | nil => exact absurd e hs
   | cons a t => exact ⟨a, t, rfl⟩
  unfold wV
  simp only [hr, List.length_cons, List.getD_cons_zero, List.getD_cons_succ, List.drop_succ_cons, List.drop_zero]
  rw [if_neg (show ¬ t.length + 1 + 1 = 1 by omega)]
  have cutr : (fK 32 r = none ∧ t = []) ∨ ∃ b, fK 32 r = some (a, b) ∧ t ≠ [] := by
   cases e : fK 32 r with
   | none =>
    have := kA e
    rw [hr] at this
    cases this
    exact .inl ⟨rfl, rfl⟩
   | some q =>
    obtain ⟨a', b⟩ := q
    have := mI e
    rw [hr] at this
    cases this
    exact .inr ⟨b, rfl, oL 32 b⟩
  by_cases h1 : w = oC
  ·rw [if_pos h1, if_pos h1]
   by_cases h2 : t.length + 1 < 2 ∨ [] ∈ a :: t
   ·rw [if_pos h2, if_pos (by rcases h2 with h2 | h2; exact .inl (by omega); exact .inr h2)]
   ·rw [if_neg h2, if_neg (by intro h3; exact h2 (by rcases h3 with h3 | h3; exact .inl (by omega); exact .inr h3))]
  rw [if_neg h1, if_neg h1]
  by_cases h2 : w = fO
  ·rw [if_pos h2, if_pos h2]
   rcases cutr with ⟨e, ht⟩ | ⟨b, e, ht⟩
   ·rw [e, ht]
    rw [if_pos (.inl (by simp))]
   ·have h3 : ¬ t.length + 1 + 1 < 3 := by
     cases t with
     | nil => exact absurd rfl ht
     | cons _ _ => simp
    rw [e]
    simp only [h3, false_or]
    by_cases h4 : a = []
    ·rw [if_pos h4, if_pos h4]
    ·rw [if_neg h4, if_neg h4, hl, h2, iV e]
     have : (fO ++ 32 :: (a ++ 32 :: b)).drop (7 + a.length + 1) = b := by
      have e1 : fO ++ 32 :: (a ++ 32 :: b) = (fO ++ [32] ++ a ++ [32]) ++ b := by simp
      rw [e1, List.drop_append_of_le_length (by simp [fO]; omega)]
      rw [List.drop_of_length_le (by simp [fO]; omega)]
      rfl
     rw [this]
  rw [if_neg h2, if_neg h2]
  by_cases h3 : w = wDo
  ·rw [if_pos h3, if_pos h3]
   rcases cutr with ⟨e, ht⟩ | ⟨b, e, ht⟩
   ·rw [e, ht, if_pos (by simp)]
   ·have h4 : ¬ t.length + 1 + 1 < 3 := by
     cases t with
     | nil => exact absurd rfl ht
     | cons _ _ => simp
    rw [e, if_neg h4]
    cases hna : eO a with
    | none => simp only [hna]
    | some n =>
     have : l.drop (3 + a.length + 1) = b := by
      rw [hl, h3, iV e]
      have e1 : wDo ++ 32 :: (a ++ 32 :: b) = (wDo ++ [32] ++ a ++ [32]) ++ b := by simp
      rw [e1, List.drop_append_of_le_length (by simp [wDo]; omega), List.drop_of_length_le (by simp [wDo]; omega)]
      rfl
     simp only [hna, this]
  rw [if_neg h3, if_neg h3]
  have tier : (t.length + 1 ≠ 2 ∨ [] ∈ a :: t) ↔ (t.length + 1 + 1 ≠ 3 ∨ [] ∈ a :: t) :=
   ⟨fun h => h.elim (fun h => .inl (by omega)) .inr, fun h => h.elim (fun h => .inl (by omega)) .inr⟩
  by_cases h4 : w = lB
  ·rw [if_pos h4, if_pos (Or.inl h4)]
   by_cases h5 : t.length + 1 ≠ 2 ∨ [] ∈ a :: t
   ·rw [if_pos h5, if_pos (tier.1 h5)]
   ·rw [if_neg h5, if_neg (fun h => h5 (tier.2 h)), if_pos h4]
  rw [if_neg h4]
  by_cases h5 : w = nJ
  ·rw [if_pos h5, if_pos (Or.inr h5)]
   by_cases h6 : t.length + 1 ≠ 2 ∨ [] ∈ a :: t
   ·rw [if_pos h6, if_pos (tier.1 h6)]
   ·rw [if_neg h6, if_neg (fun h => h6 (tier.2 h)), if_neg h4]
  have h45 : ¬ (w = lB ∨ w = nJ) := fun h => h.elim h4 h5
  rw [if_neg h5, if_neg h45]
  by_cases h6 : w = nZ
  ·rw [if_pos h6, if_pos h6]
   rcases cutr with ⟨e, ht⟩ | ⟨b, e, ht⟩
   ·have : bM 32 r = [r] := kA e
    rw [hr] at this
    cases this
    rw [if_neg (by simp)]
    cases hna : eO r <;> simp only [hna]
   ·rw [bFj (cKa e), if_pos]
    intro h
    cases t with
    | nil => exact ht rfl
    | cons _ _ => simp at h
  rw [if_neg h6, if_neg h6]
def bZ : Nat → List Stp → List Bs → List Stp × Nat × Nat
 | _, out, [] => (out, 0, 0)
 | i, out, l :: r =>
  if l = [] ∨ l.head? = some 34 then bZ (i + 1) out r else
  match jU l with
  | none => ([], i + 1, 30)
  | some s => if out.length = 60 then ([], i + 1, 31) else bZ (i + 1) (out ++ [s]) r
def cZ (s : Bs) : List Stp × Nat × Nat := if s.length > 20000 then ([], 0, 31) else bZ 0 [] (bM 10 s)
def tA (own : Bs) : List Bs → List Bs
 | [] => []
 | l :: r => own :: [] :: l :: tA own r
theorem vK (own : Bs) (ho : own.head? = some 34) : ∀ (ls : List Bs) (i : Nat) (out : List Stp),
  bZ (3 * i) out (tA own ls) = ((bZ i out ls).1, 3 * (bZ i out ls).2.1, (bZ i out ls).2.2)
 | [], i, out => rfl
 | l :: r, i, out => by
  have ih := vK own ho r
  show bZ (3 * i) out (own :: [] :: l :: tA own r) = _
  rw [bZ, if_pos (.inr ho), bZ, if_pos (.inl rfl), bZ, bZ]
  by_cases h : l = [] ∨ l.head? = some 34
  ·rw [if_pos h, if_pos h]
   exact ih (i + 1) out
  ·rw [if_neg h, if_neg h]
   cases jU l with
   | none => simp only; congr 2
   | some s =>
    dsimp only
    by_cases h60 : out.length = 60
    ·rw [if_pos h60, if_pos h60]
     simp only; congr 2
    ·rw [if_neg h60, if_neg h60]
     exact ih (i + 1) (out ++ [s])
def gR (own : Bs) : Bs → Bs
 | [] => []
 | x :: t => if x = 10 then x :: (own ++ [10, 10] ++ gR own t) else x :: gR own t
theorem rW {c : Nat} : ∀ {a : Bs}, c ∉ a → ∀ r, bM c (a ++ c :: r) = a :: bM c r
 | [], _, r => by show bM c (c :: r) = _; rw [bM, if_pos rfl]
 | x :: a, h, r => by
  have hx : x ≠ c := fun e => h (by simp [e])
  have ha : c ∉ a := fun e => h (by simp [e])
  show bM c (x :: (a ++ c :: r)) = _
  rw [bM, if_neg hx, rW ha]
theorem aMe (own : Bs) (ho : 10 ∉ own) : ∀ t : Bs, bM 10 (own ++ [10, 10] ++ gR own t) = tA own (bM 10 t) ∧ ∀ l r, bM 10 t = l :: r → bM 10 (gR own t) = l :: tA own r
 | [] => by
  have e : bM 10 (own ++ [10, 10] ++ gR own []) = own :: [] :: bM 10 [] := by
   rw [List.append_assoc]
   show bM 10 (own ++ 10 :: (10 :: gR own [])) = _
   rw [rW ho]
   rfl
  refine ⟨e, ?_⟩
  intro l r h
  cases h
  rfl
 | x :: t => by
  obtain ⟨ih1, ih2⟩ := aMe own ho t
  have hs := oL 10 t
  obtain ⟨a, q, hq⟩ : ∃ a q, bM 10 t = a :: q := by
   cases e : bM 10 t with
   | nil => exact absurd e hs
   | cons a q => exact ⟨a, q, rfl⟩
  have second : ∀ l r, bM 10 (x :: t) = l :: r → bM 10 (gR own (x :: t)) = l :: tA own r := by
   intro l r h
   unfold gR
   by_cases hx : x = 10
   ·rw [if_pos hx]
    rw [bM, if_pos hx] at h
    cases h
    rw [bM, if_pos hx, ih1]
   ·rw [if_neg hx]
    rw [bM, if_neg hx, hq] at h
    cases h
    rw [bM, if_neg hx, ih2 a q hq]
  refine ⟨?_, second⟩
  have hs' := oL 10 (x :: t)
  obtain ⟨l, r, hl⟩ : ∃ l r, bM 10 (x :: t) = l :: r := by
   cases e : bM 10 (x :: t) with
   | nil => exact absurd e hs'
   | cons a q => exact ⟨a, q, rfl⟩
  rw [List.append_assoc]
  show bM 10 (own ++ 10 :: (10 :: gR own (x :: t))) = _
  rw [rW ho, bM, if_pos rfl, second l r hl, hl]
  rfl
theorem yG (own : Bs) : ∀ t : Bs, (gR own t).length ≤ t.length * (own.length + 3)
 | [] => by simp [gR]
 | x :: t => by
  have ih := yG own t
  unfold gR
  split <;> simp only [List.length_cons, List.length_append, List.length_nil] <;> (rw [Nat.succ_mul]; omega)
theorem aCa (own t : Bs) (h34 : own.head? = some 34) (ho : 10 ∉ own) (hl : own.length ≤ 21) (ht : t.length ≤ 400) :
  cZ (own ++ [10, 10] ++ gR own t) = ((cZ t).1, 3 * (cZ t).2.1, (cZ t).2.2) := by
 have hm := yG own t
 have hm2 : t.length * (own.length + 3) ≤ 400 * 24 := Nat.mul_le_mul ht (by omega)
 have h1 : ¬ (own ++ [10, 10] ++ gR own t).length > 20000 := by simp only [laE, lcE, lnE]; omega
 unfold cZ
 rw [if_neg h1, if_neg (show ¬ t.length > 20000 by omega), (aMe own ho t).1]
 exact vK own h34 (bM 10 t) 0 []
theorem vA : ∀ (n i : Nat) (out : List Stp), bZ i out (List.replicate n []) = (out, 0, 0)
 | 0, _, _ => rfl
 | n + 1, i, out => by
  show bZ i out ([] :: List.replicate n []) = _
  rw [bZ, if_pos (.inl rfl)]
  exact vA n _ _
theorem aLt : ∀ n : Nat, bM 10 (List.replicate n 10) = List.replicate (n + 1) []
 | 0 => rfl
 | n + 1 => by
  show bM 10 (10 :: List.replicate n 10) = _
  rw [bM, if_pos rfl, aLt n]
  rfl
theorem aPr : cZ (List.replicate 20000 10) = ([], 0, 0) := by
 unfold cZ
 rw [if_neg (by rw [List.length_replicate]; omega), aLt, vA]
theorem aLh (s : Bs) (h : s.length > 20000) : cZ s = ([], 0, 31) := by
 unfold cZ
 rw [if_pos h]
def bP : Bs → Bs
 | [] => []
 | x :: t => if x = 10 then 92 :: 110 :: bP t else if x = 34 ∨ x = 92 then 92 :: x :: bP t else x :: bP t
end Go.Dd

namespace Go.Dd
open Go.Proofs
def cf (f : Func) : Code := match f.body with
 | some c => c
 | none => .skip
def cL : Code → Code
 | .seq a _ => a
 | .cond _ a _ => a
 | .block _ a => a
 | .loop a => a
 | .scope a => a
 | c => c
def cR : Code → Code
 | .seq _ b => b
 | .cond _ _ b => b
 | c => c
def cC : Code → Operand
 | .cond c _ _ => c
 | _ => .const .nilFunc
def x0 : Nat → K := fun _ => cT
def xs (X : Nat → K) (i : Nat) (k : K) : Nat → K := fun j => bif Nat.beq j i then k else X j
def aLw (c : Nat) : List Nat → Nat → Int
 | [], _ => .negSucc 0
 | x :: l, i => bif Nat.beq x c then .ofNat i else aLw c l (i + 1)
def aOt (args : List DV) (h : Hp) : aG :=
 match args with
 | [.s l, .i .u8 (.ofNat c)] => bif Nat.blt c 256 then some (.i .i64 (aLw c l 0), h) else none
 | _ => none
noncomputable def CF0 : Cfg := ⟨Tryz.prog, fun _ => none⟩
noncomputable def nY (p : Pos) : Pos → Bool := Pos.rec (motive := fun _ => Pos → Bool) (fun q => Pos.rec (motive := fun _ => Bool) true (fun _ _ => false) (fun _ _ => false) q)
 (fun _ ih q => Pos.rec (motive := fun _ => Bool) false (fun q _ => ih q) (fun _ _ => false) q) (fun _ ih q => Pos.rec (motive := fun _ => Bool) false (fun _ _ => false) (fun q _ => ih q) q) p
noncomputable def kI (q : Pos) (l1 : DV) (cs : List DV) (h : Hp) : aG :=
 match l1 with
 | .l0 => some (.l h.next 0 1 1, ⟨h.next.succ, Tr.set (.row (.gr 4) cs) h.next h.bl⟩)
 | .l b o len cap => cnd (Nat.ble cap len && !(nY b q)) (match h.bl.get b, cellsAt b o (len * 4) h with
  | some (.row (.gr es) l), some old => if es = 4 ∧ o + cap * 4 = l.length ∧ (len + 1) * 56 ≤ mE then
    some (.l h.next 0 (len + 1) (len + 1), ⟨h.next.succ, Tr.set (.row (.gr 4) (old ++ cs)) h.next (Tr.set (.row .sp (bS o l)) b h.bl)⟩) else none
  | _, _ => none)
 | _ => none
noncomputable def tM (c q : Pos) (h : Hp) : aG :=
 bnd (aA (.p c 4) h) fun l1 _ =>
 bnd (cQ l1 h) fun n _ =>
 bnd (aK 4 (.p q 0) h) fun x _ =>
 match x with
 | .a cs => cnd (!(nY c q)) (
  bnd (kI q l1 cs ⟨h.next.succ.succ, h.bl⟩) fun l2 h3 =>
  bnd (aH 1 (.p c 4) l2 h3) fun _ h4 => some (n, h4))
 | _ => none
noncomputable def aRl (args : List DV) (h : Hp) : aG :=
 match args with
 | [.p c 0, .a lit] =>
  bnd (cJ lit h) fun _ h1 =>
  bnd (aA (.p c 4) h1) fun ls h2 =>
  bnd (mZ CF0 60 425 [ls, .f 426 [] [.p h.next 0]] h2) fun i h3 =>
  bnd (aD .lss i (.i .i64 (Int.ofNat 0)) h3) fun t h4 =>
  aX t (tM c h.next h4) (some (i, h4))
 | _ => none
def aMv (c : Nat) (new : List Nat) : List Nat → List Nat
 | [] => []
 | x :: l => bif Nat.beq x c then new ++ aMv c new l else x :: aMv c new l
def aDo (args : List DV) (h : Hp) : aG :=
 match args with
 | [.s s, .s [c], .s new] => bif Nat.blt c 256 then (bif Nat.ble s.length 4000000000 then (bif Nat.ble new.length 1000 then some (.s (aMv c new s), h) else none) else none) else none
 | _ => none
def iC : Nat → Nat → List Nat → List Nat
 | 0, _, acc => acc
 | f + 1, n, acc => bif Nat.ble 10 n then iC f (Nat.div n 10) (Nat.add 48 (Nat.mod n 10) :: acc) else Nat.add 48 n :: acc
def cE : Int → List Nat
 | .ofNat n => iC 20 n []
 | .negSucc n => 45 :: iC 20 (Nat.succ n) []
def kR (args : List DV) (h : Hp) : aG :=
 match args with
 | [.i .i64 n] => bif decide (-9223372036854775808 ≤ n) && decide (n ≤ 9223372036854775807) then some (.s (cE n), h) else none
 | _ => none
def jP (sep : List Nat) : List (List Nat) → List Nat
 | [] => []
 | [x] => x
 | x :: y :: l => x ++ (sep ++ jP sep (y :: l))
def pA : List DV → Option (List (List Nat))
 | [] => some []
 | .s x :: l => (pA l).map (x :: ·)
 | _ :: _ => none
def bUi (x : DV) : Bool := match x with
 | .l _ _ n c => Nat.ble n c
 | .lx _ _ _ _ => false
 | _ => true
noncomputable def rN (args : List DV) (h : Hp) : aG :=
 match args with
 | [.s _, _] => none
 | [x, .s sep] => match kW 1 x h with
  | some (n, cells) => match pA cells with
   | some l => bif Nat.ble (jP sep l).length 100000000000 then (bif Nat.ble n 100000000000 && bUi x then some (.s (jP sep l), h) else none) else none
   | none => none
  | none => none
 | _ => none
noncomputable def mV (args : List DV) (h : Hp) : aG :=
 match args with
 | [.s s, .s [c], .i .i64 (.ofNat 0), .i .i64 (.negSucc 0)] => bif Nat.blt c 256 then (bif Nat.ble s.length 4000000000 then (fun l => some (.l h.next 0 l.length l.length, ⟨h.next.succ, Tr.set (.row .ex (l.map DV.s)) h.next h.bl⟩)) (bM c s) else none) else none
 | _ => none
noncomputable def uG (args : List DV) (h : Hp) : aG :=
 match args with
 | [.s s, .s [c]] => bif Nat.blt c 256 then (bif Nat.ble s.length 4000000000 then (match fK c s with
  | some (a, r) => some (.t [.s a, .s r, .b true], h)
  | none => some (.t [.s s, .s [], .b false], h)) else none) else none
 | _ => none
def aBw (s : List Nat) : Int := match Lib.atoiAll (s.map UInt8.ofNat) with
 | .ok v => v
 | Lib.NumEnd.syntax => 0
 | .range => Lib.atoiSat (s.map UInt8.ofNat)
noncomputable def gK (args : List DV) (h : Hp) : aG :=
 match args with
 | [.s s] => bif Nat.ble s.length 4000000000 then (match eO s with
  | some n => some (.t [.i .i64 (.ofNat n), .b true], h)
  | none => some (.t [.i .i64 (aBw s), .b false], h)) else none
 | _ => none
noncomputable def iZ (args : List DV) (h : Hp) : aG :=
 match args with
 | [.s s] => bif Nat.ble s.length 100000 then some (.s (34 :: (bP s ++ [34])), h) else none
 | _ => none
noncomputable def qN (g : FuncId) : Option (List DV → Hp → aG) := bif Nat.beq g 68 then some aOt else bif Nat.beq g 351 then some aRl else bif Nat.beq g 24 then some kR else bif Nat.beq g 235 then some aDo else bif Nat.beq g 23 then some rN else bif Nat.beq g 32 then some mV else bif Nat.beq g 33 then some uG else bif Nat.beq g 74 then some gK else bif Nat.beq g 25 then some iZ else none
noncomputable def orI (a b : Option (List DV → Hp → aG)) : Option (List DV → Hp → aG) := match a with
 | some F => some F
 | none => b
noncomputable def CF1 : Cfg := ⟨Tryz.prog, qN⟩
noncomputable def CF : Cfg := ⟨Tryz.prog, fun g => orI (qN g) (aDw g)⟩
def fQ : Code → Array Oper
 | .region _ ops _ => ops
 | _ => #[]
noncomputable def itL : Code := cL (cL (cR (cf Tryz.f414)))
noncomputable def itB : Code := cL (cL (cR itL))
def dBl : List Oper → Nat → Oper
 | [], _ => ⟨none, .move (.const .nilFunc), 0, "", #[], none⟩
 | o :: _, 0 => o
 | _ :: l, n + 1 => dBl l n
noncomputable def itm : ItC := { gf := 414, nt := 31, pre := cL (cf Tryz.f414), b0 := 0, test := cL itL, b1 := 1, rid := 3, front := (fQ (cL (cL itB))).toList.take 4, y := dBl (fQ (cL (cL itB))).toList 4, back := (fQ (cL (cL itB))).toList.drop 5, after := cR (cL itB), post := cR itB, step := cR (cR itL), yd := 26, yt := 22, yx := 25 }
def rgB (g : FuncId) : Bool := Nat.beq g 495 || Nat.beq g 283
noncomputable abbrev fP (C : Cfg) (n : Nat) : FuncId → List DV → Hp → aG := fnR C itm rgB n
theorem cD (f : FuncId) (hf : rgB f = false) (C : Cfg) (n : Nat) (args : List DV) (h : Hp) : fP C (n + 1) f args h = aF C (fP C n) n f args h := by
 show (bif rgB f then jS C (fP C n) n itm f else aF C (fP C n) n f) args h = _
 rw [hf]
 rfl
theorem dBi (f : FuncId) (hf : rgB f = true) (C : Cfg) (n : Nat) (args : List DV) (h : Hp) : fP C (n + 1) f args h = jS C (fP C n) n itm f args h := by
 show (bif rgB f then jS C (fP C n) n itm f else aF C (fP C n) n f) args h = _
 rw [hf]
 rfl
abbrev RT := FuncId → List DV → Hp → aG
abbrev TT0 := Hp → aG
abbrev TT1 := DV → Hp → aG
abbrev TT2 := DV → DV → Hp → aG
abbrev gE := DV → DV → DV → Hp → aG
abbrev fB := DV → DV → DV → DV → Hp → aG
abbrev dJ := DV → DV → DV → DV → DV → Hp → aG
abbrev gU := DV → DV → DV → DV → DV → DV → Hp → aG
abbrev TT7 := DV → DV → DV → DV → DV → DV → DV → Hp → aG
abbrev TT8 := DV → DV → DV → DV → DV → DV → DV → DV → Hp → aG
abbrev TT9 := DV → DV → DV → DV → DV → DV → DV → DV → DV → Hp → aG
abbrev aRd := DV → DV → DV → DV → DV → DV → DV → DV → DV → DV → Hp → aG
abbrev dBs := DV → DV → DV → DV → DV → DV → DV → DV → DV → DV → DV → Hp → aG
abbrev dKq := DV → DV → DV → DV → DV → DV → DV → DV → DV → DV → DV → DV → Hp → aG
abbrev dKy := DV → DV → DV → DV → DV → DV → DV → DV → DV → DV → DV → DV → DV → Hp → aG
abbrev dPw := DV → DV → DV → DV → DV → DV → DV → DV → DV → DV → DV → DV → DV → DV → Hp → aG
abbrev dLc := DV → DV → DV → DV → DV → DV → DV → DV → DV → DV → DV → DV → DV → DV → DV → Hp → aG
abbrev dMl := DV → DV → DV → DV → DV → DV → DV → DV → DV → DV → DV → DV → DV → DV → DV → DV → Hp → aG
abbrev dMk := DV → DV → DV → DV → DV → DV → DV → DV → DV → DV → DV → DV → DV → DV → DV → DV → DV → Hp → aG
abbrev dLu := DV → DV → DV → DV → DV → DV → DV → DV → DV → DV → DV → DV → DV → DV → DV → DV → DV → DV → Hp → aG
abbrev dLq := DV → DV → DV → DV → DV → DV → DV → DV → DV → DV → DV → DV → DV → DV → DV → DV → DV → DV → DV → Hp → aG
abbrev dNr := DV → DV → DV → DV → DV → DV → DV → DV → DV → DV → DV → DV → DV → DV → DV → DV → DV → DV → DV → DV → Hp → aG
abbrev K0 (f : TT0) : K := fun env h => f h
abbrev K1 (f : TT1) (a0 : Nat) : K := fun env h => f (env a0) h
abbrev K2 (f : TT2) (a0 a1 : Nat) : K := fun env h => f (env a0) (env a1) h
abbrev K3 (f : gE) (a0 a1 a2 : Nat) : K := fun env h => f (env a0) (env a1) (env a2) h
abbrev K4 (f : fB) (a0 a1 a2 a3 : Nat) : K := fun env h => f (env a0) (env a1) (env a2) (env a3) h
abbrev K5 (f : dJ) (a0 a1 a2 a3 a4 : Nat) : K := fun env h => f (env a0) (env a1) (env a2) (env a3) (env a4) h
abbrev K6 (f : gU) (a0 a1 a2 a3 a4 a5 : Nat) : K := fun env h => f (env a0) (env a1) (env a2) (env a3) (env a4) (env a5) h
abbrev K7 (f : TT7) (a0 a1 a2 a3 a4 a5 a6 : Nat) : K := fun env h => f (env a0) (env a1) (env a2) (env a3) (env a4) (env a5) (env a6) h
abbrev K8 (f : TT8) (a0 a1 a2 a3 a4 a5 a6 a7 : Nat) : K := fun env h => f (env a0) (env a1) (env a2) (env a3) (env a4) (env a5) (env a6) (env a7) h
abbrev K9 (f : TT9) (a0 a1 a2 a3 a4 a5 a6 a7 a8 : Nat) : K := fun env h => f (env a0) (env a1) (env a2) (env a3) (env a4) (env a5) (env a6) (env a7) (env a8) h
abbrev K10 (f : aRd) (a0 a1 a2 a3 a4 a5 a6 a7 a8 a9 : Nat) : K := fun env h => f (env a0) (env a1) (env a2) (env a3) (env a4) (env a5) (env a6) (env a7) (env a8) (env a9) h
abbrev K11 (f : dBs) (a0 a1 a2 a3 a4 a5 a6 a7 a8 a9 a10 : Nat) : K := fun env h => f (env a0) (env a1) (env a2) (env a3) (env a4) (env a5) (env a6) (env a7) (env a8) (env a9) (env a10) h
abbrev K12 (f : dKq) (a0 a1 a2 a3 a4 a5 a6 a7 a8 a9 a10 a11 : Nat) : K := fun env h => f (env a0) (env a1) (env a2) (env a3) (env a4) (env a5) (env a6) (env a7) (env a8) (env a9) (env a10) (env a11) h
abbrev K13 (f : dKy) (a0 a1 a2 a3 a4 a5 a6 a7 a8 a9 a10 a11 a12 : Nat) : K := fun env h => f (env a0) (env a1) (env a2) (env a3) (env a4) (env a5) (env a6) (env a7) (env a8) (env a9) (env a10) (env a11) (env a12) h
abbrev K14 (f : dPw) (a0 a1 a2 a3 a4 a5 a6 a7 a8 a9 a10 a11 a12 a13 : Nat) : K := fun env h => f (env a0) (env a1) (env a2) (env a3) (env a4) (env a5) (env a6) (env a7) (env a8) (env a9) (env a10) (env a11) (env a12) (env a13) h
abbrev K15 (f : dLc) (a0 a1 a2 a3 a4 a5 a6 a7 a8 a9 a10 a11 a12 a13 a14 : Nat) : K := fun env h => f (env a0) (env a1) (env a2) (env a3) (env a4) (env a5) (env a6) (env a7) (env a8) (env a9) (env a10) (env a11) (env a12) (env a13) (env a14) h
abbrev K16 (f : dMl) (a0 a1 a2 a3 a4 a5 a6 a7 a8 a9 a10 a11 a12 a13 a14 a15 : Nat) : K := fun env h => f (env a0) (env a1) (env a2) (env a3) (env a4) (env a5) (env a6) (env a7) (env a8) (env a9) (env a10) (env a11) (env a12) (env a13) (env a14) (env a15) h
abbrev K17 (f : dMk) (a0 a1 a2 a3 a4 a5 a6 a7 a8 a9 a10 a11 a12 a13 a14 a15 a16 : Nat) : K := fun env h => f (env a0) (env a1) (env a2) (env a3) (env a4) (env a5) (env a6) (env a7) (env a8) (env a9) (env a10) (env a11) (env a12) (env a13) (env a14) (env a15) (env a16) h
abbrev K18 (f : dLu) (a0 a1 a2 a3 a4 a5 a6 a7 a8 a9 a10 a11 a12 a13 a14 a15 a16 a17 : Nat) : K := fun env h => f (env a0) (env a1) (env a2) (env a3) (env a4) (env a5) (env a6) (env a7) (env a8) (env a9) (env a10) (env a11) (env a12) (env a13) (env a14) (env a15) (env a16) (env a17) h
abbrev K19 (f : dLq) (a0 a1 a2 a3 a4 a5 a6 a7 a8 a9 a10 a11 a12 a13 a14 a15 a16 a17 a18 : Nat) : K := fun env h => f (env a0) (env a1) (env a2) (env a3) (env a4) (env a5) (env a6) (env a7) (env a8) (env a9) (env a10) (env a11) (env a12) (env a13) (env a14) (env a15) (env a16) (env a17) (env a18) h
abbrev K20 (f : dNr) (a0 a1 a2 a3 a4 a5 a6 a7 a8 a9 a10 a11 a12 a13 a14 a15 a16 a17 a18 a19 : Nat) : K := fun env h => f (env a0) (env a1) (env a2) (env a3) (env a4) (env a5) (env a6) (env a7) (env a8) (env a9) (env a10) (env a11) (env a12) (env a13) (env a14) (env a15) (env a16) (env a17) (env a18) (env a19) h
theorem okG {d s : K} (m : d = s) (args : List DV) (h : Hp) {a b : aG} (e1 : a = d (aI args) h) (e2 : s (aI args) h = b) : a = b :=
 e1.trans ((congrFun (congrFun m (aI args)) h).trans e2)
abbrev aO (n : Nat) : DV := .i .i64 (Int.ofNat n)
abbrev zr6 : List DV := [(.i .i64 (Int.ofNat 0)), (.s []), (.i .i64 (Int.ofNat 0)), .l0, .l0, .l0]
abbrev aW (args : List DV) (i : Nat) : DV := args.getD i aR
end Go.Dd

