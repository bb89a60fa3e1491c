/- A part of the proof: N0 N O CH RF1 RF2 RF3 RF4 RF5 RF6 RF7 SM SN RS RG MF LA Qh Q0: each text has a comment of its own. -/
import Derived.Test.YtjfmbeinhhdapaaGreatDoorPE0
import Derived.LoopN
import Derived.Scope
import Derived.OrdersIn
import Derived.LoopNIn
import Derived.LoopIn
import Derived.RangeFuncIn
import Derived.RangeFuncCalls
import Derived.RangeFuncLeaves
import Derived.Test.YtjfmbeinhhdapaaGreatDoorProg
import Derived.KernelRfl
import Derived.Lib.AtoiAll
set_option linter.unusedVariables false
set_option linter.unusedSimpArgs false
set_option linter.constructorNameAsVariable false
set_option maxRecDepth 100000
noncomputable section
namespace Go.Dd
open Go.RowKit (Below)
theorem dX : ∀ (n : Nat) (p : Pos),(cW n p).toNat = p.toNat + n
 | 0,p=>rfl
 | n + 1,p=>by simp only [cW]; rw [dX n p.succ,dXw]; omega
theorem uE (k : Nat) (h : Hp) : (resv k h).next = cW k h.next ∧ (resv k h).bl = h.bl:=by
 cases k <;> exact ⟨rfl,rfl⟩
section
variable {G G' : Gd} {ρ : Ren} {h : Hp} {w : World}
theorem oS {h' : Hp} (e : h'.bl = h.bl) {b : Pos} {a : Addr} : Claims ρ h' b a ↔ Claims ρ h b a:=by
 unfold Claims; rw [e]
theorem aGq {h' : Hp} (e : h'.bl = h.bl) {b : Pos} : isRo h' b ↔ isRo h b:=by
 unfold isRo; rw [e]
theorem HR.weak (H : HR G' ρ h w) (hB : G'.B = G.B) (hX : ∀ k,G.X k → G'.X k) (hN : G.N ≤ G'.N) (hW : G'.W = G.W) : HR G ρ h w where
 gl:=fun k hk=>by rw [← hW]; exact H.gl k (by rw [hB]; exact hk)
 sz:=⟨by rw [← hB]; exact H.sz.1,fun k hk=>H.sz.2 k (hX k hk)⟩
 nx:=Nat.le_trans hN H.nx
 ro:=fun b a h1 h2=>by rw [← hB]; exact H.ro b a h1 h2
 dom:=H.dom
 lt:=H.lt
 cell:=H.cell
 spare:=H.spare
 free:=fun b a h1 h2=>by
  obtain ⟨h3,h4,h5⟩:=H.free b a h1 h2
  exact ⟨h3,by rw [← hB]; exact h4,fun hk=>h5 (hX _ hk)⟩
 inj:=H.inj
 ex:=H.ex
 grone:=H.grone
 itr:=fun b o L h0 h1 h2=>by
  obtain ⟨⟨h3,h4⟩,h5⟩:=H.itr b o L h0 h1 h2
  exact ⟨⟨by rw [← hB]; exact h3,fun hk=>h4 (hX _ hk)⟩,h5⟩
 itj:=H.itj
theorem HR.reserve (H : HR G ρ h w) (k : Nat) : HR ⟨G.B,G.X,(resv k h).next.toNat,G.W,G.ok⟩ ρ (resv k h) w:=by
 obtain ⟨e1,e2⟩:=uE k h
 exact {
  gl:=H.gl
  sz:=H.sz
  nx:=Nat.le_refl _
  ro:=fun b a h1 h2=>H.ro b a ((oS e2).1 h1) ((aGq e2).1 h2)
  dom:=fun b o h1=>H.dom b o (by rwa [e2] at h1)
  lt:=fun b L h1=>by rw [e1,dX]; have:=H.lt b L h1; omega
  cell:=fun b k l L i v h1=>H.cell b k l L i v (by rwa [e2] at h1)
  spare:=fun b l L es j h1=>H.spare b l L es j (by rwa [e2] at h1)
  free:=fun b a h1 h2=>H.free b a ((oS e2).1 h1) (fun h=>h2 ((aGq e2).2 h))
  inj:=fun b b' a h1 h2 h3=>H.inj b b' a ((oS e2).1 h1) ((oS e2).1 h2) (fun h=>h3 ((aGq e2).2 h))
  ex:=fun b l L h1=>H.ex b l L (by rwa [e2] at h1)
  grone:=fun b es l i v h1=>H.grone b es l i v (by rwa [e2] at h1)
  itr:=fun b o L h0 h1=>H.itr b o L h0 (by rwa [e2] at h1)
  itj:=fun b o b' o' L L' h0 h0' h1 h2=>H.itj b o b' o' L L' h0 h0' (by rwa [e2] at h1) (by rwa [e2] at h2) }
theorem HR.early (H : HR G ρ h w) {b : Pos} (hb : ρ b = none) (hlt : b.toNat < h.next.toNat) (x0 : Obj) :
  HR ⟨G.B,fun k=>G.X k ∨ k = w.heap.size,G.N,G.W,G.ok⟩ (lO ρ b ⟨w.heap.size,0,0,none⟩) h (w.alloc x0):=by
 have hext : Ext ρ (lO ρ b ⟨w.heap.size,0,0,none⟩):=by
  intro x L hx
  by_cases e : x = b
  ·subst e; rw [hb] at hx; cases hx
  ·rw [aQ _ _ e]; exact hx
 have hrow : h.bl.get b = none:=by
  cases hr : h.bl.get b with
  | none=>rfl
  | some o=>obtain ⟨L,hL⟩:=H.dom b o hr; rw [hb] at hL; cases hL
 have hne : ∀ x o,h.bl.get x = some o → x ≠ b:=fun x o hx e=>by subst e; rw [hrow] at hx; cases hx
 have hcl : ∀ {x a},Claims (lO ρ b ⟨w.heap.size,0,0,none⟩) h x a → Claims ρ h x a:=by
  rintro x a ⟨k,l,L,h1,h2,h3⟩
  rw [aQ _ _ (hne x _ h1)] at h2
  exact ⟨k,l,L,h1,h2,h3⟩
 have hblt : ∀ {x a},Claims ρ h x a → a.block < w.heap.size:=fun hc=>by
  obtain ⟨v,hv⟩:=H.lt_cell hc
  exact eE hv
 refine { gl:=fun k hk=>by rw [Below.heap_alloc _ _ _ (Nat.lt_of_lt_of_le hk H.sz.1)]; exact H.gl k hk,sz:=⟨by have:=H.sz.1; simp; omega,fun k hk => ?_⟩,nx:=H.nx,ro:=fun x a h1 h2=>H.ro x a (hcl h1) h2,dom := ?_,lt := ?_,cell := ?_,spare := ?_,free := ?_,inj := ?_,ex := ?_,grone:=H.grone,itr := ?_,itj := ?_ }
 ·rcases hk with hk | hk
  ·have:=H.sz.2 k hk; simp; omega
  ·simp; omega
 ·intro x o hx
  obtain ⟨L,hL⟩:=H.dom x o hx
  exact ⟨L,hext _ _ hL⟩
 ·intro x L hx
  by_cases e : x = b
  ·subst e; exact hlt
  ·rw [aQ _ _ e] at hx; exact H.lt x L hx
 ·intro x k l L i v hx hL hi hv
  rw [aQ _ _ (hne x _ hx)] at hL
  obtain ⟨v',h5,h6⟩:=H.cell x k l L i v hx hL hi hv
  exact ⟨v',by rw [eA (eE h5)]; exact h5,h6.mono hext⟩
 ·intro x l L es j hx hL hj
  rw [aQ _ _ (hne x _ hx)] at hL
  obtain ⟨v',h5⟩:=H.spare x l L es j hx hL hj
  exact ⟨v',by rw [eA (eE h5)]; exact h5⟩
 ·intro x a hc hr
  have hlt':=hblt (hcl hc)
  obtain ⟨h3,h4,h5⟩:=H.free x a (hcl hc) hr
  refine ⟨by rw [gA (by omega)]; exact h3,h4, ?_⟩
  rintro (hk | hk)
  ·exact h5 hk
  ·omega
 ·intro x x' a hc hc' hr
  exact H.inj x x' a (hcl hc) (hcl hc') hr
 ·intro x l L hx hL
  have : x ≠ b:=by rcases hx with hx | hx <;> exact hne x _ hx
  rw [aQ _ _ this] at hL
  exact H.ex x l L hx hL
 ·intro x o L h0 hx hL
  rw [aQ _ _ (hne x _ hx)] at hL
  obtain ⟨⟨h1,h1'⟩,h2,bs,h3,h4⟩:=H.itr x o L h0 hx hL
  have hlt' : L.bl < w.heap.size:=by
   rcases Nat.lt_or_ge L.bl w.heap.size with h | h
   ·exact h
   ·simp [Array.getElem?_eq_none h] at h3
  refine ⟨⟨h1, ?_⟩,h2,bs,by rw [Below.heap_alloc _ _ _ hlt']; exact h3,h4.mono hext⟩
  rintro (hk | hk)
  ·exact h1' hk
  ·omega
 ·intro x o x' o' L L' h0 h0' hx hx' hL hL' he
  rw [aQ _ _ (hne x _ hx)] at hL
  rw [aQ _ _ (hne x' _ hx')] at hL'
  exact H.itj x o x' o' L L' h0 h0' hx hx' hL hL' he
theorem HR.adopt (H : HR G' ρ h w) (hB : G'.B = G.B) (hX : ∀ k,G.X k → G'.X k) (hN : G.N ≤ G'.N) (hW : G'.W = G.W) {b : Pos} {r : Nat} {arr : Array Value} {t : TypeId} {cs : List DV}
  (hb : ρ b = some ⟨r,0,0,none⟩) (hr : w.heap[r]? = some (.cells arr t (0,0))) (hcs : VRs ρ cs arr.toList) (hBr : G.B ≤ r) (hXr : ¬ G.X r) (hXr' : G'.X r) :
  HR G ρ ⟨h.next,Tr.set (.row .ex cs) b h.bl⟩ w:=by
 have hcell : ∀ i,w.cell? (eC ⟨r,0,0,none⟩ i) = arr[i]? := fun i=>by simp [World.cell?,eC,hr]
 have hfro : ∀ i,w.frozen? (eC ⟨r,0,0,none⟩ i) = false:=fun i=>by simp [World.frozen?,eC,hr]
 have hnew : ∀ {a},Claims ρ ⟨h.next,Tr.set (.row .ex cs) b h.bl⟩ b a → ∃ i,a = eC ⟨r,0,0,none⟩ i:=by
  rintro a ⟨k,l,L,h1,h2,h3⟩
  simp only [dXv,aU,Ob.row.injEq] at h1
  obtain ⟨rfl,rfl⟩:=h1
  rw [hb] at h2; cases h2
  rcases h3 with ⟨i,v,hi,hv,rfl⟩ | ⟨es,j,h4,_,_⟩
  ·exact ⟨i,rfl⟩
  ·cases h4
 have hold : ∀ {x a},x ≠ b → Claims ρ ⟨h.next,Tr.set (.row .ex cs) b h.bl⟩ x a → Claims ρ h x a:=by
  rintro x a hx ⟨k,l,L,h1,h2,h3⟩
  simp only [dXu _ _ _ _ hx] at h1
  exact ⟨k,l,L,h1,h2,h3⟩
 have hroo : ∀ x,x ≠ b → (isRo ⟨h.next,Tr.set (.row .ex cs) b h.bl⟩ x ↔ isRo h x):=fun x hx=>by simp [isRo,dXu _ _ _ _ hx]
 have hapart : ∀ {x a},Claims ρ h x a → a.block ≠ r:=by
  intro x a hc e
  by_cases hro : isRo h x
  ·have:=H.ro x a hc hro
   omega
  ·exact (H.free x a hc hro).2.2 (e ▸ hXr')
 refine { gl:=fun k hk=>by rw [← hW]; exact H.gl k (by rw [hB]; exact hk),sz:=⟨by rw [← hB]; exact H.sz.1,fun k hk=>H.sz.2 k (hX k hk)⟩,nx:=Nat.le_trans hN H.nx,ro := ?_,dom := ?_,lt:=H.lt,cell := ?_,spare := ?_,free := ?_,inj := ?_,ex := ?_,grone := ?_,itr := ?_,itj := ?_ }
 ·intro x a hc hro
  by_cases e : x = b
  ·subst e
   obtain ⟨l0,h0⟩:=hro
   simp [dXv] at h0
  ·rw [← hB]; exact H.ro x a (hold e hc) ((hroo x e).1 hro)
 ·intro x o hx
  by_cases e : x = b
  ·subst e; exact ⟨_,hb⟩
  ·simp only [dXu _ _ _ _ e] at hx; exact H.dom x o hx
 ·intro x k l L i v hx hL hi hv
  by_cases e : x = b
  ·subst e
   simp only [dXv,aU,Ob.row.injEq] at hx
   obtain ⟨rfl,rfl⟩:=hx
   rw [hb] at hL; cases hL
   obtain ⟨v',h5,h6⟩:=hcs.get i v hi
   exact ⟨v',by rw [hcell]; simpa using h5,h6⟩
  ·simp only [dXu _ _ _ _ e] at hx
   exact H.cell x k l L i v hx hL hi hv
 ·intro x l L es j hx hL hj
  by_cases e : x = b
  ·subst e; simp [dXv] at hx
  ·simp only [dXu _ _ _ _ e] at hx
   exact H.spare x l L es j hx hL hj
 ·intro x a hc hro
  by_cases e : x = b
  ·subst e
   obtain ⟨i,rfl⟩:=hnew hc
   exact ⟨hfro i,hBr,hXr⟩
  ·obtain ⟨h3,h4,h5⟩:=H.free x a (hold e hc) (fun h=>hro ((hroo x e).2 h))
   exact ⟨h3,by rw [← hB]; exact h4,fun hk=>h5 (hX _ hk)⟩
 ·intro x x' a hc hc' hro
  by_cases e : x = b
  ·subst e
   by_cases e' : x' = x
   ·exact e'.symm
   ·obtain ⟨i,rfl⟩:=hnew hc
    exact absurd rfl (hapart (hold e' hc'))
  ·by_cases e' : x' = b
   ·subst e'
    obtain ⟨i,rfl⟩:=hnew hc'
    exact absurd rfl (hapart (hold e hc))
   ·exact H.inj x x' a (hold e hc) (hold e' hc') (fun h=>hro ((hroo x e).2 h))
 ·intro x l L hx hL
  by_cases e : x = b
  ·subst e
   rw [hb] at hL; cases hL
   rfl
  ·simp only [dXu _ _ _ _ e] at hx
   exact H.ex x l L hx hL
 ·intro x es l i v hx hi
  by_cases e : x = b
  ·subst e; simp [dXv] at hx
  ·simp only [dXu _ _ _ _ e] at hx
   exact H.grone x es l i v hx hi
 ·intro x o L h0 hx hL
  by_cases e : x = b
  ·subst e; simp [dXv] at hx; subst hx; cases h0
  ·simp only [dXu _ _ _ _ e] at hx
   obtain ⟨⟨h1,h1'⟩,h2⟩:=H.itr x o L h0 hx hL
   exact ⟨⟨by rw [← hB]; exact h1,fun hk=>h1' (hX _ hk)⟩,h2⟩
 ·intro x o x' o' L L' h0 h0' hx hx' hL hL' he
  by_cases e : x = b
  ·subst e; simp [dXv] at hx; subst hx; cases h0
  ·by_cases e' : x' = b
   ·subst e'; simp [dXv] at hx'; subst hx'; cases h0'
   ·simp only [dXu _ _ _ _ e] at hx
    simp only [dXu _ _ _ _ e'] at hx'
    exact H.itj x o x' o' L L' h0 h0' hx hx' hL hL' he
theorem HR.adoptMp (H : HR G' ρ h w) (hB : G'.B = G.B) (hX : ∀ k,G.X k → G'.X k) (hN : G.N ≤ G'.N) (hW : G'.W = G.W) {b : Pos} {r : Nat}
  (hb : ρ b = some ⟨r,0,0,none⟩) (hr : w.heap[r]? = some (.map #[] 0)) (hBr : G.B ≤ r) (hXr : ¬ G.X r) (hXr' : G'.X r) :
  HR G ρ ⟨h.next,Tr.set (.mp []) b h.bl⟩ w:=by
 have hnew : ∀ {a},¬ Claims ρ ⟨h.next,Tr.set (.mp []) b h.bl⟩ b a:=by
  rintro a ⟨k,l,L,h1,h2,h3⟩
  simp only [dXv,aU] at h1
  cases h1
 have hold : ∀ {x a},x ≠ b → Claims ρ ⟨h.next,Tr.set (.mp []) b h.bl⟩ x a → Claims ρ h x a:=by
  rintro x a hx ⟨k,l,L,h1,h2,h3⟩
  simp only [dXu _ _ _ _ hx] at h1
  exact ⟨k,l,L,h1,h2,h3⟩
 have hroo : ∀ x,x ≠ b → (isRo ⟨h.next,Tr.set (.mp []) b h.bl⟩ x ↔ isRo h x):=fun x hx=>by simp [isRo,dXu _ _ _ _ hx]
 refine { gl:=fun k hk=>by rw [← hW]; exact H.gl k (by rw [hB]; exact hk),sz:=⟨by rw [← hB]; exact H.sz.1,fun k hk=>H.sz.2 k (hX k hk)⟩,nx:=Nat.le_trans hN H.nx,ro := ?_,dom := ?_,lt:=H.lt,cell := ?_,spare := ?_,free := ?_,inj := ?_,ex := ?_,grone := ?_,itr := ?_,itj := ?_ }
 ·intro x a hc hro
  by_cases e : x = b
  ·subst e; exact absurd hc hnew
  ·rw [← hB]; exact H.ro x a (hold e hc) ((hroo x e).1 hro)
 ·intro x o hx
  by_cases e : x = b
  ·subst e; exact ⟨_,hb⟩
  ·simp only [dXu _ _ _ _ e] at hx; exact H.dom x o hx
 ·intro x k l L i v hx hL hi hv
  by_cases e : x = b
  ·subst e; simp [dXv] at hx
  ·simp only [dXu _ _ _ _ e] at hx
   exact H.cell x k l L i v hx hL hi hv
 ·intro x l L es j hx hL hj
  by_cases e : x = b
  ·subst e; simp [dXv] at hx
  ·simp only [dXu _ _ _ _ e] at hx
   exact H.spare x l L es j hx hL hj
 ·intro x a hc hro
  by_cases e : x = b
  ·subst e; exact absurd hc hnew
  ·obtain ⟨h3,h4,h5⟩:=H.free x a (hold e hc) (fun h=>hro ((hroo x e).2 h))
   exact ⟨h3,by rw [← hB]; exact h4,fun hk=>h5 (hX _ hk)⟩
 ·intro x x' a hc hc' hro
  by_cases e : x = b
  ·subst e; exact absurd hc hnew
  ·by_cases e' : x' = b
   ·subst e'; exact absurd hc' hnew
   ·exact H.inj x x' a (hold e hc) (hold e' hc') (fun h=>hro ((hroo x e).2 h))
 ·intro x l L hx hL
  by_cases e : x = b
  ·subst e; simp [dXv] at hx
  ·simp only [dXu _ _ _ _ e] at hx
   exact H.ex x l L hx hL
 ·intro x es l i v hx hi
  by_cases e : x = b
  ·subst e; simp [dXv] at hx
  ·simp only [dXu _ _ _ _ e] at hx
   exact H.grone x es l i v hx hi
 ·intro x o L h0 hx hL
  by_cases e : x = b
  ·subst e
   simp only [dXv,aU] at hx
   subst hx
   rw [hb] at hL
   cases hL
   exact ⟨⟨hBr,hXr⟩,⟨rfl,rfl⟩,_,hr,⟨#[],0,rfl,.nil,.nil,rfl,by simp⟩⟩
  ·simp only [dXu _ _ _ _ e] at hx
   obtain ⟨⟨h1,h1'⟩,h2⟩:=H.itr x o L h0 hx hL
   exact ⟨⟨by rw [← hB]; exact h1,fun hk=>h1' (hX _ hk)⟩,h2⟩
 ·intro x o x' o' L L' h0 h0' hx hx' hL hL' he
  by_cases e : x = b
  ·by_cases e' : x' = b
   ·rw [e,e']
   ·subst e
    rw [hb] at hL
    cases hL
    simp only [dXu _ _ _ _ e'] at hx'
    obtain ⟨⟨_,h1'⟩,_⟩:=H.itr x' o' L' h0' hx' hL'
    exact absurd (he ▸ hXr') h1'
  ·by_cases e' : x' = b
   ·subst e'
    rw [hb] at hL'
    cases hL'
    simp only [dXu _ _ _ _ e] at hx
    obtain ⟨⟨_,h1'⟩,_⟩:=H.itr x o L h0 hx hL
    exact absurd (he ▸ hXr') h1'
   ·simp only [dXu _ _ _ _ e] at hx
    simp only [dXu _ _ _ _ e'] at hx'
    exact H.itj x o x' o' L L' h0 h0' hx hx' hL hL' he
def MO (ρ : Ren) (ob : Ob) (x : Obj) : Prop :=
 (∃ (cs : List DV) (arr : Array Value) (t : TypeId),ob = .row .ex cs ∧ x = .cells arr t (0,0) ∧ VRs ρ cs arr.toList) ∨ (ob = .mp [] ∧ x = .map #[] 0)
theorem MO.mono {ob : Ob} {x : Obj} {ρ' : Ren} (h : MO ρ ob x) (e : Ext ρ ρ') : MO ρ' ob x:=by
 rcases h with ⟨cs,arr,t,h1,h2,h3⟩ | h
 ·exact .inl ⟨cs,arr,t,h1,h2,h3.mono e⟩
 ·exact .inr h
theorem dZy (H : HR G' ρ h w) (hB : G'.B = G.B) (hX : ∀ k,G.X k → G'.X k) (hN : G.N ≤ G'.N) (hW : G'.W = G.W) {b : Pos} {r : Nat} {ob : Ob} {x : Obj}
  (hb : ρ b = some ⟨r,0,0,none⟩) (hr : w.heap[r]? = some x) (hm : MO ρ ob x) (hBr : G.B ≤ r) (hXr : ¬ G.X r) (hXr' : G'.X r) :
  HR G ρ ⟨h.next,Tr.set ob b h.bl⟩ w:=by
 rcases hm with ⟨cs,arr,t,rfl,rfl,h3⟩ | ⟨rfl,rfl⟩
 ·exact H.adopt hB hX hN hW hb hr h3 hBr hXr hXr'
 ·exact H.adoptMp hB hX hN hW hb hr hBr hXr hXr'
end
section
variable {C : Cfg} {ρ : Ren} {w : World} {h h1 : Hp} {v : DV} {a : Act} {env : bA}
theorem dEw (he : EnvR ρ env a) {o : Oper} {b : Pos} (hp : eI C o b env h = some (v,h1)) (hb : ρ b = none) :
  ∃ (ob : Ob) (x0 : Obj) (v' : Value),(execOp a.eval o).run C.P w = .ok (.value v') (w.alloc x0) ∧ MO ρ ob x0 ∧
   h1 = ⟨h.next,Tr.set ob b h.bl⟩ ∧ VR (lO ρ b ⟨w.heap.size,0,0,none⟩) v v':=by
 unfold eI at hp
 split at hp <;> (try (cases hp; done))
 ·rename_i t ho
  split at hp <;> (try (cases hp; done))
  rename_i i hi
  split at hp <;> (try (cases hp; done))
  rename_i z hz
  simp only [mW,aU,bG] at hp
  obtain ⟨rfl,rfl⟩:=hp
  refine ⟨_,.cells z.cells t,.pointer (some ⟨w.heap.size,0,none⟩), ?_,.inl ⟨_,_,_,rfl,rfl,dZr ρ z⟩,rfl,.p _ 0 ⟨w.heap.size,0,0,none⟩ (bP _ _ _)⟩
  unfold execOp
  simp only [ho,Instr.alloc,Sem.run_bind,rZ hi hz,Result.andThen_ok]
  simp [newVar,newRow]
 ·rename_i t x ho
  unfold yY at hp
  split at hp <;> (try (cases hp; done))
  rename_i cs hc
  simp only [mW,aU,bG] at hp
  obtain ⟨rfl,rfl⟩:=hp
  refine ⟨.row .ex cs,.cells (a.eval x).cells t,.pointer (some ⟨w.heap.size,0,none⟩), ?_,.inl ⟨_,_,_,rfl,rfl,(aW he x).cells hc⟩,rfl,.p _ 0 ⟨w.heap.size,0,0,none⟩ (bP _ _ _)⟩
  unfold execOp
  simp [ho,Instr.box,newVar,newRow]
 ·rename_i t n ps ho
  split at hp <;> (try (cases hp; done))
  rename_i e ht
  split at hp <;> (try (cases hp; done))
  rename_i i hi
  split at hp <;> (try (cases hp; done))
  rename_i z hz
  split at hp <;> (try (cases hp; done))
  rename_i hc
  unfold cS at hp
  split at hp <;> (try (cases hp; done))
  rename_i cs hf
  simp only [aU,bG] at hp
  obtain ⟨rfl,rfl⟩:=hp
  obtain ⟨out',h3,h4⟩:=nT (P:=C.P) (w:=w) (ρ := ρ) (aW he) ht hi hz hc.1 hc.2.1 hc.2.2 hf
  refine ⟨.row .ex cs,.cells out' e,.slice (some ⟨w.heap.size,0,none⟩) n n, ?_,.inl ⟨_,_,_,rfl,rfl,h4⟩,rfl,.l _ 0 n n ⟨w.heap.size,0,0,none⟩ (bP _ _ _)⟩
  unfold execOp
  simp only [ho,Sem.run_bind]
  rw [h3]
  simp
 ·rename_i t ho
  simp only [kQ,aU,bG] at hp
  obtain ⟨rfl,rfl⟩:=hp
  refine ⟨.mp [],.map #[] 0,.map (some w.heap.size), ?_,.inr ⟨rfl,rfl⟩,rfl,.m _ ⟨w.heap.size,0,0,none⟩ (bP _ _ _)⟩
  unfold execOp
  simp only [ho,Instr.makeMap,Sem.run_bind,Sem.run_pure,Result.andThen_ok,run_newObj]
  rfl
end
end Go.Dd

namespace Go.Dd
open Go.RowKit (Below)
section
variable {C : Cfg} {G : Gd} {rec : FuncId → List DV → Hp → aH} {ops : Array Oper} {nt : Nat} {p0 : Pos}
theorem tM {listed : Array Bool} {i : Nat} : i ∈ Region.ready .any ops listed ↔ i < ops.size ∧ listed.getD i true = false ∧ ∃ o,ops[i]? = some o ∧ ∀ e ∈ o.after,Region.binds .any e = true → listed.getD e.on false = true:=by
 unfold Region.ready
 rw [List.mem_filter]
 simp only [List.mem_range,Bool.and_eq_true,Bool.not_eq_eq_eq_not,Bool.not_true]
 constructor
 ·rintro ⟨h1,h2,h3⟩
  refine ⟨h1,h2,ops[i],by simp [h1],fun e he hb => ?_⟩
  simp only [h1,getElem?_pos,Option.map_some,Option.getD_some] at h3
  have:=(Array.all_eq_true_iff_forall_mem.1 h3) e he
  simpa [hb] using this
 ·rintro ⟨h1,h2,o,ho,h3⟩
  refine ⟨h1,h2, ?_⟩
  simp only [ho,Option.map_some,Option.getD_some]
  refine Array.all_eq_true_iff_forall_mem.2 fun e he => ?_
  cases hb : Region.binds .any e with
  | false=>simp
  | true=>simp [h3 e he hb]
def idp (C : Cfg) (ops : Array Oper) (p0 : Pos) (p : Nat) : Pos:=cW (cJ C.P (ops.toList.take p)) p0
structure Tr1 (C : Cfg) (rec : FuncId → List DV → Hp → aH) (ops : Array Oper) (nt : Nat) (p0 : Pos) (E : Nat → bA) (Hh : Nat → Hp) (V : Nat → DV) : Prop where
 ok : fC C.P ops = true
 st : ∀ p o,ops[p]? = some o → StepT C rec ops (Region.before ops) nt (idp C ops p0 p) E Hh V 0 [(none,Hh 0)] p o
theorem Tr1.same {E : Nat → bA} {Hh : Nat → Hp} {V : Nat → DV} (T : Tr1 C rec ops nt p0 E Hh V) {p : Nat} {o : Oper} (ho : ops[p]? = some o) (hc : bV C.P o.op ≠ .acts) (hm : bV C.P o.op ≠ .makes) : Hh (p + 1) = Hh p:=by
 have hs:=(T.st p o ho).step hm
 cases hcl : bV C.P o.op with
 | pure=>exact (uW hcl _ _ _ hs).1
 | reads=>exact rB hcl hs
 | makes=>exact absurd hcl hm
 | acts=>exact absurd hcl hc
def dBo (C : Cfg) (ops : Array Oper) (q : Nat) : Prop:=q = 0 ∨ ∃ j oj,ops[j]? = some oj ∧ bV C.P oj.op = .acts ∧ q = j + 1
theorem rE {m : Array Nat} {i q : Nat} {Pv : Hp → Prop} {Hh : Nat → Hp} {tl : List (Option Nat × Hp)} : ∀ d,q ≤ d → uA m i Pv (jR C ops Hh 0 d ++ tl) →
  (∀ j oj,ops[j]? = some oj → bV C.P oj.op = .acts → q ≤ j → j < d → ¬ gL m j i = true) → uA m i Pv (jR C ops Hh 0 q ++ tl)
 | 0, hq, hc, _ => by have : q = 0 := by omega
                      subst this; exact hc
 | d + 1,hq,hc,hno=>by
  by_cases e : q = d + 1
  ·subst e; exact hc
  ·have hq' : q ≤ d:=by omega
   simp only [jR,Nat.zero_add] at hc
   cases ha : kJ C ops d with
   | false =>
    rw [ha] at hc
    simp only [Bool.false_eq_true,if_false,List.nil_append] at hc
    exact rE d hq' hc fun j oj h1 h2 h3 h4=>hno j oj h1 h2 h3 (by omega)
   | true =>
    rw [ha] at hc
    simp only [if_true,List.cons_append,List.nil_append] at hc
    obtain ⟨_,h2⟩:=hc
    have ⟨oj,hoj,hcj⟩ : ∃ oj,ops[d]? = some oj ∧ bV C.P oj.op = .acts:=by
     unfold kJ at ha
     split at ha
     ·rename_i o ho; exact ⟨o,ho,by simpa using ha⟩
     ·cases ha
    rcases h2 with h2 | h2
    ·exact absurd h2 (hno d oj hoj hcj hq' (by omega))
    ·exact rE d hq' h2 fun j oj h1 h2 h3 h4=>hno j oj h1 h2 h3 (by omega)
theorem Tr1.value {E : Nat → bA} {Hh : Nat → Hp} {V : Nat → DV} (T : Tr1 C rec ops nt p0 E Hh V) {listed : Array Bool} {i q : Nat} {o : Oper} (ho : ops[i]? = some o) (hc : bV C.P o.op ≠ .acts) (hm : bV C.P o.op ≠ .makes)
  (hq : dBo C ops q) (hgap : ∀ j oj,ops[j]? = some oj → bV C.P oj.op = .acts → (j < q ↔ S listed j))
  (hni : ¬ S listed i) (hdown : ∀ j x,gL (Region.before ops) j x = true → S listed x → S listed j) (hpre : ∀ j,gL (Region.before ops) j i = true → S listed j) :
  bL C rec ops o (E i) (Hh q) = some (V i,Hh q):=by
 have hst:=T.st i o ho
 cases hcl : bV C.P o.op with
 | acts=>exact absurd hcl hc
 | makes=>exact absurd hcl hm
 | pure=>exact (uW hcl _ _ _ (hst.step hm)).2 _
 | reads =>
  rcases Nat.lt_or_ge i q with h | h
  ·rcases hq with rfl | ⟨j,oj,hj,haj,rfl⟩
   ·omega
   ·have hSj : S listed j:=(hgap j oj hj haj).1 (by omega)
    have hij : i ≠ j:=fun e=>by subst e; exact hni hSj
    rcases (T.st j oj hj).acts haj i o (Nat.zero_le _) (by omega) ho hcl with h3 | h3
    ·exact absurd (hdown i j h3 hSj) hni
    ·exact uY hcl h3
  ·have h1:=hst.reads hcl
   rw [Nat.sub_zero] at h1
   have h2:=rE (q:=q) i h h1 fun j oj hj haj hqj hji hord=>by
    have:=(hgap j oj hj haj).2 (hpre j hord)
    omega
   rcases hq with rfl | ⟨j,oj,hj,haj,rfl⟩
   ·exact h2.1
   ·simp only [jR,Nat.zero_add,(bEw hj).2 haj,if_true,List.cons_append,List.nil_append] at h2
    exact h2.1
theorem cSw {listed : Array Bool} {i j : Nat} (hi : i < listed.size) : S (listed.setIfInBounds i true) j ↔ (j = i ∨ S listed j):=by
 unfold S
 by_cases e : j = i
 ·subst e; simp [hi]
 ·simp [Array.getElem?_setIfInBounds_ne (Ne.symm e),e]
theorem tT {listed : Array Bool} {i : Nat} (hi : i < listed.size) : listed.getD i true = listed.getD i false:=by
 simp [hi]
theorem dCy {V : Nat → DV} {env : bA} {listed : Array Bool} {i : Nat} {o : Oper} (ho : ops[i]? = some o) (hi : i < listed.size) (hni : ¬ S listed i) (t : Nat)
  (hlast : ∀ j oj,i < j → ops[j]? = some oj → oj.dst = some t → o.dst = some t → ¬ S listed j) :
  ∀ p,i < p → TS ops V env (listed.setIfInBounds i true) p t = if o.dst = some t then V i else TS ops V env listed p t:=by
 have hbefore : ∀ p,p ≤ i → TS ops V env (listed.setIfInBounds i true) p = TS ops V env listed p:=by
  intro p
  induction p with
  | zero=>intro _; rfl
  | succ p ih =>
   intro h
   have e : (listed.setIfInBounds i true).getD p false = listed.getD p false:=by simp [Array.getElem?_setIfInBounds_ne (show i ≠ p by omega)]
   simp only [TS,ih (by omega),e]
 intro p
 induction p with
 | zero=>intro h; omega
 | succ p ih =>
  intro h
  by_cases hpi : p = i
  ·subst hpi
   have e1 : (listed.setIfInBounds p true).getD p false = true:=by simp [hi]
   have e2 : ¬ listed.getD p false = true:=hni
   simp only [TS,ho,hbefore p (Nat.le_refl _),e1,if_true,nF]
   rw [if_neg e2]
  ·have ih':=ih (by omega)
   have e : (listed.setIfInBounds i true).getD p false = listed.getD p false:=by simp [Array.getElem?_setIfInBounds_ne (Ne.symm hpi)]
   cases hop : ops[p]? with
   | none=>simp only [TS,hop]; exact ih'
   | some op =>
    simp only [TS,hop,e]
    split
    ·rename_i hl
     rw [nF,nF,ih']
     by_cases hd : op.dst = some t
     ·rw [if_pos hd,if_pos hd]
      by_cases hod : o.dst = some t
      ·exact absurd hl (hlast p op (by omega) hop hd hod)
      ·rw [if_neg hod]
     ·rw [if_neg hd,if_neg hd]
    ·exact ih'
def jM (C : Cfg) (ops : Array Oper) (listed : Array Bool) (q i : Nat) : Prop:=∃ o,ops[i]? = some o ∧ bV C.P o.op = .makes ∧ S listed i ∧ q ≤ i
def GX (G : Gd) (N : Nat) (C : Cfg) (ops : Array Oper) (listed : Array Bool) (R : Nat → Nat) (q : Nat) : Gd:=⟨G.B,fun k=>G.X k ∨ ∃ i,jM C ops listed q i ∧ R i = k,N,G.W,G.ok⟩
structure Made (G : Gd) (C : Cfg) (ops : Array Oper) (p0 : Pos) (Hh : Nat → Hp) (ρ : Ren) (w : World) (R : Nat → Nat) (i : Nat) : Prop where
 name : ρ (idp C ops p0 i) = some ⟨R i,0,0,none⟩
 low : G.B ≤ R i
 ex : ¬ G.X (R i)
 row : ∃ (x0 : Obj) (ob : Ob),w.heap[R i]? = some x0 ∧ MO ρ ob x0 ∧ Hh (i + 1) = ⟨(Hh i).next,Tr.set ob (idp C ops p0 i) (Hh i).bl⟩
theorem aOy {E : Nat → bA} {Hh : Nat → Hp} {V : Nat → DV} (T : Tr1 C rec ops nt p0 E Hh V) {listed : Array Bool} {R : Nat → Nat} {N q : Nat} {ρ : Ren} {w : World}
  (hmade : ∀ i,jM C ops listed q i → Made G C ops p0 Hh ρ w R i) (hdist : ∀ i i',jM C ops listed q i → jM C ops listed q i' → R i = R i' → i = i') :
  ∀ p,q ≤ p → p ≤ ops.size → (∀ j oj,ops[j]? = some oj → q ≤ j → j < p → bV C.P oj.op ≠ .acts ∧ (bV C.P oj.op = .makes → S listed j)) →
  HR (GX G N C ops listed R q) ρ (Hh q) w → HR (GX G N C ops listed R p) ρ (Hh p) w:=by
 intro p
 induction p with
 | zero => intro h1 _ _ H; have : q = 0 := by omega
           subst this; exact H
 | succ p ih =>
  intro h1 h2 hr H
  by_cases e : q = p + 1
  ·subst e; exact H
  ·have H':=ih (by omega) (by omega) (fun j oj hj hq hjp=>hr j oj hj hq (by omega)) H
   obtain ⟨o,ho⟩ : ∃ o,ops[p]? = some o:=⟨ops[p],by simp [show p < ops.size by omega]⟩
   obtain ⟨ha,hm⟩:=hr p o ho (by omega) (by omega)
   have hsub : ∀ k,(GX G N C ops listed R (p + 1)).X k → (GX G N C ops listed R p).X k:=by
    rintro k (hk | ⟨i,⟨oi,h3,h4,h5,h6⟩,h7⟩)
    ·exact .inl hk
    ·exact .inr ⟨i,⟨oi,h3,h4,h5,by omega⟩,h7⟩
   by_cases hmk : bV C.P o.op = .makes
   ·have hE : jM C ops listed q p:=⟨o,ho,hmk,hm hmk,by omega⟩
    have hM:=hmade p hE
    obtain ⟨x0,ob,r1,r2,r3⟩:=hM.row
    rw [r3]
    refine dZy (G:=GX G N C ops listed R (p + 1)) H' rfl hsub (Nat.le_refl _) rfl hM.name r1 r2 hM.low ?_ (.inr ⟨p,⟨o,ho,hmk,hm hmk,Nat.le_refl _⟩,rfl⟩)
    rintro (hk | ⟨i,⟨oi,h3,h4,h5,h6⟩,h7⟩)
    ·exact hM.ex hk
    ·have:=hdist i p ⟨oi,h3,h4,h5,by omega⟩ hE h7
     omega
   ·rw [T.same ho ha hmk]
    exact H'.weak rfl hsub (Nat.le_refl _) rfl
def Inv (DD : List Deferred) (C : Cfg) (G : Gd) (ops : Array Oper) (nt : Nat) (p0 : Pos) (N : Nat) (E : Nat → bA) (Hh : Nat → Hp) (V : Nat → DV) (ρ : Ren) (w0 : World) (listed : Array Bool) (a : Act) (w : World) : Prop :=
 listed.size = ops.size ∧ (∀ j x,gL (Region.before ops) j x = true → S listed x → S listed j) ∧
 ∃ q,q ≤ ops.size ∧ dBo C ops q ∧ (∀ j oj,ops[j]? = some oj → bV C.P oj.op = .acts → (j < q ↔ S listed j)) ∧
 ∃ (ρ' : Ren) (R : Nat → Nat),Ex G ρ ρ' ∧ HR (GX G N C ops listed R q) ρ' (Hh q) w ∧ EnvR ρ' (TS ops V (E 0) listed ops.size) a ∧ Kp G w0 w ∧ nt ≤ a.tmps.size ∧ a.defers = DD ∧
  (∀ i o,ops[i]? = some o → bV C.P o.op = .makes → ¬ S listed i → ρ' (idp C ops p0 i) = none) ∧
  (∀ i,jM C ops listed q i → Made G C ops p0 Hh ρ' w R i) ∧ (∀ i i',jM C ops listed q i → jM C ops listed q i' → R i = R i' → i = i')
theorem bSi {i : Nat} {o : Oper} (ho : ops[i]? = some o) (hm : bV C.P o.op = .makes) : (idp C ops p0 i).toNat < p0.toNat + cJ C.P ops.toList:=by
 unfold idp
 rw [dX]
 have hlt : i < ops.toList.length:=by
  rcases Nat.lt_or_ge i ops.toList.length with h | h
  ·exact h
  ·simp at h; simp [Array.getElem?_eq_none h] at ho
 have key : ∀ (l : List Oper) (i : Nat),l[i]? = some o → cJ C.P (l.take i) < cJ C.P l:=by
  intro l
  induction l with
  | nil=>intro i h; simp at h
  | cons x l ih =>
   intro i h
   cases i with
   | zero=>simp at h; subst h; simp [cJ,hm]; omega
   | succ i=>simp at h; have:=ih i h; simp only [List.take_succ_cons,cJ]; omega
 have:=key ops.toList i (by simpa using ho)
 omega
theorem dCo {i i' : Nat} {o o' : Oper} (ho : ops[i]? = some o) (hm : bV C.P o.op = .makes) (ho' : ops[i']? = some o') (hm' : bV C.P o'.op = .makes) (hne : i ≠ i') : idp C ops p0 i ≠ idp C ops p0 i':=by
 have key : ∀ (l : List Oper) (i j : Nat) (o : Oper),l[i]? = some o → bV C.P o.op = .makes → i < j → cJ C.P (l.take i) < cJ C.P (l.take j):=by
  intro l
  induction l with
  | nil=>intro i j o h; simp at h
  | cons x l ih =>
   intro i j o h hm hij
   cases j with
   | zero=>omega
   | succ j =>
    cases i with
    | zero=>simp at h; subst h; simp only [List.take_succ_cons,cJ,hm,List.take_zero]; omega
    | succ i=>simp at h; have:=ih i j o h hm (by omega); simp only [List.take_succ_cons,cJ]; omega
 intro e
 have e':=congrArg Pos.toNat e
 unfold idp at e'
 rw [dX,dX] at e'
 rcases Nat.lt_or_ge i i' with h | h
 ·have:=key ops.toList i i' o (by simpa using ho) hm h; omega
 ·have:=key ops.toList i' i o' (by simpa using ho') hm' (by omega); omega
theorem bMc {DD : List Deferred} (K : OkC C rec) {N : Nat} {E : Nat → bA} {Hh : Nat → Hp} {V : Nat → DV} (T : Tr1 C rec ops nt p0 E Hh V) (hN : N = p0.toNat + cJ C.P ops.toList) (hGN : G.N ≤ p0.toNat) {ρ : Ren} {w0 : World} {Q : Exit → Act → World → Prop}
  (hQ : ∀ ρ' a' w',Ex G ρ ρ' → HR G ρ' (Hh ops.size) w' → EnvR ρ' (E ops.size) a' → Kp G w0 w' → nt ≤ a'.tmps.size → a'.defers = DD → Q .normal a' w') :
  ∀ (fuel : Nat) (listed : Array Bool) (a : Act) (w : World),Inv DD C G ops nt p0 N E Hh V ρ w0 listed a w → ((List.range ops.size).filter fun i => !listed.getD i false).length ≤ fuel → wpAny C.P .any ops Q fuel listed a w:=by
 have hlt : ∀ p,p < ops.size → ∃ o,ops[p]? = some o:=fun p hp=>⟨ops[p],by simp [hp]⟩
 have hin : ∀ (j : Nat) oj,ops[j]? = some oj → j < ops.size:=fun j oj hj=>by
  rcases Nat.lt_or_ge j ops.size with h | h
  ·exact h
  ·simp [Array.getElem?_eq_none h] at hj
 have hend : ∀ listed a w,Inv DD C G ops nt p0 N E Hh V ρ w0 listed a w → (∀ i,i < ops.size → S listed i) → Q .normal a w:=by
  rintro listed a w ⟨hsz,hdown,q,hq,hcand,hgap, ρ',R,h1,h2,h3,h4,h5,h6,h7,h8,h9⟩ hall
  have hH:=aOy (G:=G) T h8 h9 ops.size hq (Nat.le_refl _) (fun j oj hj hqj hjn=>⟨fun ha=>by
   have:=(hgap j oj hj ha).2 (hall j hjn)
   omega,fun _=>hall j hjn⟩) h2
  have hE : ∀ t,TS ops V (E 0) listed ops.size t = E ops.size t:=fun t =>
   bTg (E:=E) rfl (fun p o hp ho=>(T.st p o ho).env) (fun p hp=>hlt p hp) (fun j o hj _ _=>hall j hj) ops.size (Nat.le_refl _)
  refine hQ ρ' a w h1 (hH.weak rfl (fun k hk=>.inl hk) (by show G.N ≤ N; omega) rfl) (fun t => ?_) h4 h5 h6
  rw [← hE t]
  exact h3 t
 have hready : ∀ listed,listed.size = ops.size → Region.ready .any ops listed = [] → ∀ i,i < ops.size → S listed i:=by
  intro listed hsz hr i
  induction i using Nat.strongRecOn with
  | _ i ih =>
   intro hi
   obtain ⟨o,ho⟩:=hlt i hi
   by_cases hs : S listed i
   ·exact hs
   ·exfalso
    have hmem : i ∈ Region.ready .any ops listed:=by
     rw [tM]
     refine ⟨hi, ?_,o,ho,fun e he hb => ?_⟩
     ·rw [tT (by omega)]
      unfold S at hs
      simpa using hs
     ·have:=(eB T.ok ho).1 e he hb
      exact ih e.on this (by omega)
    rw [hr] at hmem
    cases hmem
 intro fuel
 induction fuel with
 | zero =>
  intro listed a w hI hfuel
  have hall : ∀ i,i < ops.size → S listed i:=by
   intro i hi
   by_cases hs : S listed i
   ·exact hs
   ·exfalso
    have : i ∈ (List.range ops.size).filter fun i => !listed.getD i false:=by
     rw [List.mem_filter]
     refine ⟨by simpa using hi, ?_⟩
     unfold S at hs
     simpa using hs
    have:=List.length_pos_of_mem this
    omega
  refine ⟨?_,hend listed a w hI hall⟩
  cases hr : Region.ready .any ops listed with
  | nil=>rfl
  | cons x xs =>
   have hx : x ∈ Region.ready .any ops listed:=by rw [hr]; simp
   rw [tM] at hx
   have:=hall x hx.1
   rw [tT (by rw [hI.1]; exact hx.1)] at hx
   unfold S at this
   rw [this] at hx
   cases hx.2.1
 | succ fuel ih =>
  intro listed a w hI hfuel
  refine ⟨fun hr=>hend listed a w hI (hready listed hI.1 hr),fun i hi => ?_⟩
  obtain ⟨hsz,hdown,q,hq,hcand,hgap, ρ',R,h1,h2,h3,h4,h5,h6,h7,h8,h9⟩:=hI
  rw [tM] at hi
  obtain ⟨hisz,hni,o,ho,hpre0⟩:=hi
  rw [tT (by omega)] at hni
  have hnS : ¬ S listed i:=by unfold S; rw [hni]; simp
  have hpre : ∀ j,gL (Region.before ops) j i = true → S listed j:=by
   intro j hj
   obtain ⟨e,he,hb,h | h⟩:=aMj ho hj
   ·rw [← h]; exact hpre0 e he hb
   ·exact hdown j e.on h (hpre0 e he hb)
  have hst:=T.st i o ho
  have hlook : ∀ t ∈ o.looksAt ops,TS ops V (E 0) listed ops.size t = E i t:=by
   intro t ht
   rw [cCk (i:=i) (fun j oj hij hj hd hS => ?_) ops.size (by omega)]
   ·exact bTg (E:=E) rfl (fun p op hp hop=>(T.st p op hop).env) (fun p hp=>hlt p (by omega)) (fun j oj hj hoj hd=>by
     rcases (eB T.ok ho).2.2 j oj hj hoj with h | ⟨h,_⟩
     ·exact hpre j h
     ·exact absurd ht ((Oper.apart_spec h).1 t hd)) i (Nat.le_refl _)
   ·rcases Nat.eq_or_lt_of_le hij with e | e
    ·subst e; exact hnS hS
    ·rcases (eB T.ok hj).2.2 i o e ho with h | ⟨h,_⟩
     ·exact hnS (hdown i j h hS)
     ·exact absurd ht ((Oper.apart_spec h).2.2 t hd)
  have hmkq : ∀ j oj,ops[j]? = some oj → bV C.P oj.op = .makes → j < q → S listed j:=by
   intro j oj hj hmj hjq
   rcases hcand with rfl | ⟨l,ol,hl,hal,rfl⟩
   ·omega
   ·have hSl : S listed l:=(hgap l ol hl hal).1 (by omega)
    have hjl : j ≠ l:=fun e=>by subst e; rw [hl] at hj; cases hj; rw [hal] at hmj; cases hmj
    rcases (eB T.ok hl).2.2 j oj (by omega) hj with h | ⟨_,h⟩
    ·exact hdown j l h hSl
    ·exact absurd ⟨.inr hmj,hal⟩ h
  have hdown' : ∀ j x,gL (Region.before ops) j x = true → S (listed.setIfInBounds i true) x → S (listed.setIfInBounds i true) j:=by
   intro j x hjx hx
   rw [cSw (by omega)] at hx ⊢
   rcases hx with rfl | hx
   ·exact .inr (hpre j hjx)
   ·exact .inr (hdown j x hjx hx)
  have hTS : ∀ (ρ2 : Ren) (v2 : Value),Ext ρ' ρ2 → VR ρ2 (V i) v2 → EnvR ρ2 (TS ops V (E 0) (listed.setIfInBounds i true) ops.size) (a.put o.dst v2):=by
   intro ρ2 v2 e1 e2 t
   rw [dCy ho (by omega) hnS t (fun j oj hij hj hd hod hS=>by
    rcases (eB T.ok hj).2.2 i o hij ho with h | ⟨h,_⟩
    ·exact hnS (hdown i j h hS)
    ·exact (Oper.apart_spec h).2.1 t hod hd) ops.size (by omega)]
   have:=EnvR.put h3 e1 e2 hst.fits h5 t
   rwa [nF] at this
  have hcount : ((List.range ops.size).filter fun j => !(listed.setIfInBounds i true).getD j false).length ≤ fuel:=by
   have hmem : i ∈ (List.range ops.size).filter fun i => !listed.getD i false:=by
    rw [List.mem_filter]
    exact ⟨by simpa using hisz,by simp [hni]⟩
   have hle : ((List.range ops.size).filter fun j => !(listed.setIfInBounds i true).getD j false).length < ((List.range ops.size).filter fun j => !listed.getD j false).length:=by
    have hsub : ((List.range ops.size).filter fun j => !(listed.setIfInBounds i true).getD j false) = ((List.range ops.size).filter fun j => !listed.getD j false).filter (fun j=>j != i):=by
     rw [List.filter_filter]
     apply List.filter_congr
     intro j hj
     by_cases e : j = i
     ·subst e; simp [show j < listed.size by omega]
     ·simp [Array.getElem?_setIfInBounds_ne (Ne.symm e),e]
    rw [hsub]
    exact List.length_filter_lt_length_iff_exists.2 ⟨i,hmem,by simp⟩
   omega
  have hS' : ∀ j,S (listed.setIfInBounds i true) j ↔ (j = i ∨ S listed j):=fun j=>cSw (by omega)
  by_cases hmk : bV C.P o.op = .makes
  ·
   have hqi : q ≤ i:=by
    rcases Nat.lt_or_ge i q with h | h
    ·exact absurd (hmkq i o ho hmk h) hnS
    ·exact h
   have hg:=(eB T.ok ho).2.1 hmk
   have hbn:=h7 i o ho hmk hnS
   have hst1:=hst.made hmk
   have hext : Ext ρ' (lO ρ' (idp C ops p0 i) ⟨w.heap.size,0,0,none⟩):=by
    intro x L hx
    by_cases e : x = idp C ops p0 i
    ·subst e; rw [hbn] at hx; cases hx
    ·rw [aQ _ _ e]; exact hx
   have hE0 : eI C o (idp C ops p0 i) (TS ops V (E 0) listed ops.size) (Hh i) = some (V i,Hh (i + 1)):=by
    rw [← hst1]
    refine aCf fun x hx=>aDs fun t ht=>hlook t ?_
    unfold Oper.looksAt
    refine List.mem_append_left _ (List.mem_filterMap.2 ⟨x,by simpa using hx, ?_⟩)
    rw [ht]
   obtain ⟨ob,x0,v',m1,m2,m3,m4⟩:=dEw (w:=w) h3 hE0 hbn
   have hidlt:=bSi (p0:=p0) ho hmk
   have H2:=h2.early hbn (by have:=h2.nx; simp only [GX] at this; omega) x0
   unfold wpOp
   simp only [ho]
   rw [if_pos (by simp [Region.wanted,hg])]
   refine .inl ?_
   unfold Oper.wp
   rw [m1]
   show wpAny C.P .any ops Q fuel (listed.setIfInBounds i true) (a.put o.dst v') (w.alloc x0)
   have hEarly : ∀ j,jM C ops (listed.setIfInBounds i true) q j → j = i ∨ jM C ops listed q j:=by
    rintro j ⟨oj,e1,e2,e3,e4⟩
    rcases (hS' j).1 e3 with e | e
    ·exact .inl e
    ·exact .inr ⟨oj,e1,e2,e,e4⟩
   have hRlt : ∀ j,jM C ops listed q j → R j < w.heap.size:=fun j hj=>h2.sz.2 _ (.inr ⟨j,hj,rfl⟩)
   have hjne : ∀ j,jM C ops listed q j → j ≠ i:=by
    rintro j ⟨oj,e1,e2,e3,e4⟩ e
    subst e; exact hnS e3
   refine ih _ _ _ ⟨by simpa using hsz,hdown',q,hq,hcand,fun j oj hj haj => ?_,lO ρ' (idp C ops p0 i) ⟨w.heap.size,0,0,none⟩,fun j=>if j = i then w.heap.size else R j, ?_, ?_,hTS _ _ hext m4, ?_,by rw [mA]; exact h5,by rw [iW]; exact h6, ?_, ?_, ?_⟩ hcount
   ·rw [hS' j,hgap j oj hj haj]
    constructor
    ·exact .inr
    ·rintro (h | h)
     ·subst h; rw [ho] at hj; cases hj; rw [hmk] at haj; cases haj
     ·exact h
   ·refine h1.trans ⟨hext,fun b L hb => ?_⟩
    by_cases e : b = idp C ops p0 i
    ·right
     rw [e]
     unfold idp
     rw [dX]
     omega
    ·rw [aQ _ _ e] at hb; exact .inl hb
   ·refine H2.weak rfl ?_ (Nat.le_refl _) rfl
    rintro k (hk | ⟨j,hj,hjk⟩)
    ·exact .inl (.inl hk)
    ·rcases hEarly j hj with rfl | hj'
     ·right; simpa using hjk.symm
     ·left; right
      refine ⟨j,hj', ?_⟩
      simpa [hjne j hj'] using hjk
   ·exact h4.trans (dT (G:=G) ⟨h2.sz.1,fun k hk=>h2.sz.2 k (.inl hk)⟩ _)
   ·intro j oj hj hmj hSj
    have hji : j ≠ i:=fun e=>hSj ((hS' j).2 (.inl e))
    rw [aQ _ _ (dCo hj hmj ho hmk hji)]
    exact h7 j oj hj hmj fun h=>hSj ((hS' j).2 (.inr h))
   ·intro j hj
    rcases hEarly j hj with rfl | hj'
    ·refine ⟨by simp [bP],by simp; exact h2.sz.1, ?_,x0,ob, ?_,m2.mono hext,m3⟩
     ·simp only [if_true]
      intro hx
      have:=h2.sz.2 _ (.inl hx)
      omega
     ·simp only [if_true]
      show (w.heap.push _)[w.heap.size]? = _
      simp
    ·have hM:=h8 j hj'
     obtain ⟨x1,ob1,r1,r2,r3⟩:=hM.row
     have hji:=hjne j hj'
     refine ⟨?_,by simp [hji]; exact hM.low,by simp [hji]; exact hM.ex,x1,ob1, ?_,r2.mono hext,r3⟩
     ·simp only [hji,if_false]; exact hext _ _ hM.name
     ·simp only [hji,if_false]
      rw [Below.heap_alloc _ _ _ (hRlt j hj')]
      exact r1
   ·intro j j' hj hj' he
    rcases hEarly j hj with rfl | hj1
    ·rcases hEarly j' hj' with rfl | hj1'
     ·rfl
     ·simp only [if_true,hjne j' hj1',if_false] at he
      have:=hRlt j' hj1'
      omega
    ·rcases hEarly j' hj' with rfl | hj1'
     ·simp only [if_true,hjne j hj1,if_false] at he
      have:=hRlt j hj1
      omega
     ·simp only [hjne j hj1,hjne j' hj1',if_false] at he
      exact h9 j j' hj1 hj1' he
  ·
   have hstep : ∃ q1 q2,q ≤ q1 ∧ q1 ≤ ops.size ∧ q2 ≤ ops.size ∧ q1 ≤ q2 ∧ dBo C ops q2 ∧ HR (GX G N C ops listed R q1) ρ' (Hh q1) w ∧
     bL C rec ops o (TS ops V (E 0) listed ops.size) (Hh q1) = some (V i,Hh q2) ∧
     (∀ j oj,ops[j]? = some oj → bV C.P oj.op = .acts → (j < q2 ↔ S (listed.setIfInBounds i true) j)) ∧
     (∀ j,jM C ops (listed.setIfInBounds i true) q2 j → jM C ops listed q1 j):=by
    rw [show bL C rec ops o (TS ops V (E 0) listed ops.size) = bL C rec ops o (E i) from funext fun h=>aOs hlook]
    by_cases ha : bV C.P o.op = .acts
    ·have hqi : q ≤ i:=by
      rcases Nat.lt_or_ge i q with h | h
      ·exact absurd ((hgap i o ho ha).1 h) hnS
      ·exact h
     refine ⟨i,i + 1,hqi,by omega,by omega,by omega,.inr ⟨i,o,ho,ha,rfl⟩, ?_,hst.step hmk,fun j oj hj haj => ?_, ?_⟩
     ·refine aOy (G:=G) T h8 h9 i hqi (by omega) (fun j oj hj hqj hji=>⟨fun haj => ?_,fun hmj => ?_⟩) h2
      ·rcases (eB T.ok ho).2.2 j oj hji hj with h | ⟨_,h⟩
       ·have:=(hgap j oj hj haj).2 (hpre j h); omega
       ·exact absurd ⟨.inl haj,ha⟩ h
      ·rcases (eB T.ok ho).2.2 j oj hji hj with h | ⟨_,h⟩
       ·exact hpre j h
       ·exact absurd ⟨.inr hmj,ha⟩ h
     ·rw [hS' j]
      constructor
      ·intro hlt'
       by_cases e : j = i
       ·exact .inl e
       ·right
        rcases (eB T.ok ho).2.2 j oj (by omega) hj with h | ⟨_,h⟩
        ·exact hpre j h
        ·exact absurd ⟨.inl haj,ha⟩ h
      ·rintro (h | h)
       ·omega
       ·rcases Nat.lt_or_ge i j with hij | hij
        ·rcases (eB T.ok hj).2.2 i o hij ho with h' | ⟨_,h'⟩
         ·exact absurd (hdown i j h' h) hnS
         ·exact absurd ⟨.inl ha,haj⟩ h'
        ·omega
     ·rintro j ⟨oj,e1,e2,e3,e4⟩
      rcases (hS' j).1 e3 with e | e
      ·omega
      ·exact ⟨oj,e1,e2,e,by omega⟩
    ·refine ⟨q,q,Nat.le_refl _,hq,hq,Nat.le_refl _,hcand,h2,T.value ho ha hmk hcand hgap hnS hdown hpre,fun j oj hj haj => ?_, ?_⟩
     ·rw [hS' j,hgap j oj hj haj]
      constructor
      ·exact .inr
      ·rintro (h | h)
       ·subst h; rw [ho] at hj; cases hj; exact absurd haj ha
       ·exact h
     ·rintro j ⟨oj,e1,e2,e3,e4⟩
      rcases (hS' j).1 e3 with e | e
      ·subst e; rw [ho] at e1; cases e1; exact absurd e2 hmk
      ·exact ⟨oj,e1,e2,e,e4⟩
   obtain ⟨q1,q2,k1,k2,k2',k12,k3,k4,k5,k6,k7⟩:=hstep
   refine vX (xO K k4 h3 k5) rfl ho k4 fun ρ2 w2 v2 e1 e2 e3 e4 => ?_
   have hEq : ∀ j,jM C ops listed q1 j → jM C ops listed q j:=by
    rintro j ⟨oj,f1,f2,f3,f4⟩
    exact ⟨oj,f1,f2,f3,by omega⟩
   refine ih _ _ _ ⟨by simpa using hsz,hdown',q2,k2',k3,k6, ρ2,R, ?_, ?_,hTS _ _ e1.ext e2, ?_,by rw [mA]; exact h5,by rw [iW]; exact h6, ?_, ?_, ?_⟩ hcount
   ·refine h1.trans ⟨e1.ext,fun b L hb=>(e1.new b L hb).imp id fun h => ?_⟩
    simp only [GX] at h
    omega
   ·refine e3.weak rfl ?_ (Nat.le_refl _) rfl
    rintro k (hk | ⟨j,hj,hjk⟩)
    ·exact .inl hk
    ·exact .inr ⟨j,k7 j hj,hjk⟩
   ·exact h4.trans ⟨e4.low,fun k hk=>e4.ex k (.inl hk)⟩
   ·intro j oj hj hmj hSj
    have hn:=h7 j oj hj hmj fun h=>hSj ((hS' j).2 (.inr h))
    cases hr : ρ2 (idp C ops p0 j) with
    | none=>rfl
    | some L =>
     rcases e1.new _ _ hr with h | h
     ·rw [hn] at h; cases h
     ·have:=bSi (p0:=p0) hj hmj
      simp only [GX] at h
      omega
   ·intro j hj
    have hj1:=k7 j hj
    have hM:=h8 j (hEq j hj1)
    obtain ⟨x1,ob1,r1,r2,r3⟩:=hM.row
    exact ⟨e1.ext _ _ hM.name,hM.low,hM.ex,x1,ob1,by rw [e4.ex _ (.inr ⟨j,hj1,rfl⟩)]; exact r1,r2.mono e1.ext,r3⟩
   ·intro j j' hj hj' he
    exact h9 j j' (hEq j (k7 j hj)) (hEq j' (k7 j' hj')) he
theorem aMm {DD : List Deferred} (K : OkC C rec) {k : Dd.K} {r : DV × Hp} {env : bA} {h : Hp} {ρ : Ren} {a : Act} {w : World} {Q : Exit → Act → World → Prop}
  (hok : fC C.P ops = true) (hp : iS C rec nt ops k env h = some r) (H : HR G ρ h w) (he : EnvR ρ env a) (hnt : nt ≤ a.tmps.size) (hd : a.defers = DD)
  (hQ : ∀ ρ' env' h' a' w',Ex G ρ ρ' → HR G ρ' h' w' → EnvR ρ' env' a' → Kp G w w' → nt ≤ a'.tmps.size → a'.defers = DD → k env' h' = some r → Q .normal a' w') :
  wpAny C.P .any ops Q ops.size (Array.replicate ops.size false) a { w with drawn:=w.drawn + 1 }:=by
 obtain ⟨E,Hh,V,e1,e2,e3,e4⟩:=vH (p0:=h.next) ops.toList 0 0 false [] _ env _ r hp (by simp) (fun _=>⟨_,_,rfl⟩)
 simp only [Nat.zero_add,Array.length_toList,Nat.sub_zero] at e3 e4
 have T : Tr1 C rec ops nt h.next E Hh V:=⟨hok,fun p o ho=>by
  have:=(e4 p o (Nat.zero_le _) (by
   rcases Nat.lt_or_ge p ops.size with h | h
   ·exact h
   ·simp [Array.getElem?_eq_none h] at ho) ho).1
  rw [← e2] at this
  exact this⟩
 obtain ⟨n1,n2⟩:=uE (cJ C.P ops.toList) h
 have hNN : (resv (cJ C.P ops.toList) h).next.toNat = h.next.toNat + cJ C.P ops.toList:=by rw [n1,dX]
 refine (bMc (G:=G) K T rfl H.nx (ρ := ρ) (w0:=w) (fun ρ' a' w' h1 h2 h3 h4 h5 h6=>hQ ρ' _ _ a' w' h1 h2 h3 h4 h5 h6 e3) ops.size _ a _ ?_ ?_)
 ·have hno : ∀ j,¬ S (Array.replicate ops.size false) j:=by
   intro j hj
   unfold S at hj
   simp [Array.getElem?_replicate] at hj
   split at hj <;> simp at hj
  have hnoE : ∀ j,¬ jM C ops (Array.replicate ops.size false) 0 j:=by
   rintro j ⟨oj,_,_,h3,_⟩
   exact hno j h3
  refine ⟨by simp,fun j x _ hx=>absurd hx (hno x),0,Nat.zero_le _,.inl rfl,fun j oj hj ha=>⟨fun h=>by omega,fun h=>absurd h (hno j)⟩, ρ,fun _=>0,Ex.refl G ρ, ?_, ?_, ?_,hnt,hd, ?_,fun j hj=>absurd hj (hnoE j),fun j j' hj=>absurd hj (hnoE j)⟩
  ·rw [e2]
   have:=(H.reserve (cJ C.P ops.toList)).congr (w':={ w with drawn:=w.drawn + 1 }) rfl
   rw [hNN] at this
   refine this.weak rfl ?_ (Nat.le_refl _) rfl
   rintro k (hk | ⟨j,hj,_⟩)
   ·exact hk
   ·exact absurd hj (hnoE j)
  ·have hT : ∀ p,TS ops V (E 0) (Array.replicate ops.size false) p = E 0:=by
    intro p
    induction p with
    | zero=>rfl
    | succ p ih =>
     simp only [TS,ih]
     split
     ·rename_i o ho
      rw [if_neg (show ¬ (Array.replicate ops.size false).getD p false = true from hno p)]
     ·rfl
   intro t
   rw [hT,e1]
   exact he t
  ·exact (Kp.refl G w).drew
  ·intro j oj hj hmj _
   cases hr : ρ (idp C ops h.next j) with
   | none=>rfl
   | some L =>
    have h1:=H.lt _ _ hr
    unfold idp at h1
    rw [dX] at h1
    omega
 ·have:=List.length_filter_le (fun i => !(Array.replicate ops.size false).getD i false) (List.range ops.size)
  simpa using this
theorem aWx {DD : List Deferred} (K : OkC C rec) (hm : C.P.follows .mixedOrders = true) {id : Nat} {k : Dd.K} {r : DV × Hp} {env : bA} {h : Hp} {ρ : Ren} {a : Act} {w : World} {Q : Exit → Act → World → Prop}
  (hok : fC C.P ops = true) (hp : iS C rec nt ops k env h = some r) (H : HR G ρ h w) (he : EnvR ρ env a) (hnt : nt ≤ a.tmps.size) (hd : a.defers = DD)
  (hQ : ∀ ρ' env' h' a' w',Ex G ρ ρ' → HR G ρ' h' w' → EnvR ρ' env' a' → Kp G w w' → nt ≤ a'.tmps.size → a'.defers = DD → k env' h' = some r → Q .normal a' w') :
  (Code.region id ops true).wp C.P Q a w :=
 wp_region_any hm (aMm K hok hp H he hnt hd hQ)
end
end Go.Dd

namespace Go.Dd
open Go.RowKit (Below)
section
variable {C : Cfg} {G : Gd} {rec : FuncId → List DV → Hp → aH} {nt n : Nat}
def St (DD : List Deferred) (G : Gd) (nt : Nat) (ρ : Ren) (w0 : World) (k : K) (r : DV × Hp) (a : Act) (w : World) : Prop :=
 ∃ ρ' env h,Ex G ρ ρ' ∧ HR G ρ' h w ∧ EnvR ρ' env a ∧ Kp G w0 w ∧ nt ≤ a.tmps.size ∧ a.defers = DD ∧ k env h = some r
def QQ (DD : List Deferred) (G : Gd) (nt : Nat) (ρ : Ren) (w0 : World) (X : Nat → K) (kr k : K) (r : DV × Hp) : Exit → Act → World → Prop
 | .normal,a,w=>St DD G nt ρ w0 k r a w
 | .exit id,a,w=>St DD G nt ρ w0 (X id) r a w
 | .ret,a,w=>St DD G nt ρ w0 kr r a w
 | _,_,_=>False
theorem cHv {DD : List Deferred} (K : OkC C rec) (hm : C.P.follows .mixedOrders = true) {ρ : Ren} {w0 : World} {r : DV × Hp} : ∀ (c : Code) (X : Nat → Dd.K) (kr k : Dd.K) (a : Act) (w : World),
  St DD G nt ρ w0 (aM C rec nt n c X kr k) r a w → c.wp C.P (QQ DD G nt ρ w0 X kr k r) a w:=by
 intro c
 induction c with
 | skip=>intro X kr k a w h; exact wp_skip h
 | region id ops dr =>
  intro X kr k a w h
  obtain ⟨ρ',env,hp,h1,h2,h3,h4,h5,h6,h7⟩:=h
  change (Bool.rec (motive:=fun _=>Dd.K) (gY C rec nt ops ops.toList k) (Bool.rec (motive:=fun _=>Dd.K) cV (iS C rec nt ops k) (fC C.P ops)) dr) env hp = some r at h7
  cases dr with
  | true =>
   dsimp only at h7
   cases hok : fC C.P ops with
   | false=>rw [hok] at h7; cases h7
   | true =>
    rw [hok] at h7
    exact aWx K hm hok h7 h2 h3 h5 h6 fun ρ2 env2 h2' a2 w2 e1 e2 e3 e4 e5 e6 e7=>⟨ρ2,env2,h2',h1.trans e1,e2,e3,h4.trans e4,e5,e6,e7⟩
  | false =>
   simp only [cond_false] at h7
   obtain ⟨env',h',hr,hk⟩:=oE ops.toList k env hp r h7
   refine wp_region ?_
   have:=aKz (Q:=QQ DD G nt ρ w0 X kr k r) K ops.toList 0 ρ' env hp a w (by simp) hr h2 h3 h5 h6 fun ρ2 a2 w2 e1 e2 e3 e4 e5 e6=>⟨ρ2,env',h',h1.trans e1,e2,e3,h4.trans e4,e5,e6,hk⟩
   rw [List.range_eq_range']
   simpa using this
 | seq x y ihx ihy =>
  intro X kr k a w h
  refine wp_seq (wp_mono (ihx X kr (aM C rec nt n y X kr k) a w h) fun e a' w' hq => ?_)
  cases e with
  | normal=>exact ihy X kr k a' w' hq
  | exit id=>exact hq
  | ret=>exact hq
  | goto l=>exact hq
  | panic ch=>exact hq
  | outgrown=>exact hq
 | cond c x y ihx ihy =>
  intro X kr k a w h
  obtain ⟨ρ',env,hp,h1,h2,h3,h4,h5,h6,h7⟩:=h
  change aT (opr env c) (aM C rec nt n x X kr k env hp) (aM C rec nt n y X kr k env hp) = some r at h7
  have hc:=aW h3 c
  unfold aT at h7
  split at h7 <;> (try (cases h7; done))
  ·rename_i hcb
   rw [hcb] at hc
   generalize hcv : a.eval c = cv at hc
   cases hc
   exact wp_cond_true hcv (ihx X kr k a w ⟨ρ',env,hp,h1,h2,h3,h4,h5,h6,h7⟩)
  ·rename_i hcb
   rw [hcb] at hc
   generalize hcv : a.eval c = cv at hc
   cases hc
   exact wp_cond_false hcv (ihy X kr k a w ⟨ρ',env,hp,h1,h2,h3,h4,h5,h6,h7⟩)
 | block id x ih =>
  intro X kr k a w h
  refine wp_block (wp_mono (ih (fun j=>bif Nat.beq j id then k else X j) kr k a w h) fun e a' w' hq => ?_)
  cases e with
  | normal=>exact hq
  | exit id' =>
   simp only [QQ] at hq
   simp only [Exit.inBlock,QQ]
   split
   ·rename_i e
    subst e
    have hb : Nat.beq id' id' = true:=Nat.beq_refl id'
    rw [hb] at hq
    exact hq
   ·rename_i e
    have : Nat.beq id' id = false:=by
     cases hb : Nat.beq id' id with
     | false=>rfl
     | true=>exact absurd (Nat.eq_of_beq_eq_true hb) e
    rw [this] at hq
    exact hq
  | ret=>exact hq
  | goto l=>exact hq
  | panic ch=>exact hq
  | outgrown=>exact hq
 | loop x ih =>
  intro X kr k a w h
  have key : ∀ (m : Nat) (a : Act) (w : World),St DD G nt ρ w0 (aL (fun kk=>aM C rec nt n x X kr kk) m) r a w → Code.rounds C.P x (QQ DD G nt ρ w0 X kr k r) m a w:=by
   intro m
   induction m with
   | zero =>
    rintro a w ⟨ρ',env,hp,h1,h2,h3,h4,h5,h6,h7⟩
    cases h7
   | succ m ihm =>
    intro a w hs
    rw [rounds_succ]
    refine wp_mono (ih X kr (aL (fun kk=>aM C rec nt n x X kr kk) m) a w hs) fun e a' w' hq => ?_
    cases e with
    | normal=>exact ihm a' w' hq
    | exit id=>exact hq
    | ret=>exact hq
    | goto l=>exact hq
    | panic ch=>exact hq
    | outgrown=>exact hq
  exact wp_loop_rounds n (key n a w h)
 | rangeFunc f ps x y ihx ihy =>
  rintro X kr k a w ⟨ρ',env,hp,h1,h2,h3,h4,h5,h6,h7⟩
  cases h7
 | exit id=>intro X kr k a w h; exact wp_exit h
 | scope x ih =>
  intro X kr k a w h
  refine wp_scope_straight (wp_mono (ih X kr k a w h) fun e a' w' hq => ?_)
  cases e with
  | goto l=>exact hq
  | normal=>exact hq
  | exit id=>exact hq
  | ret=>exact hq
  | panic ch=>exact hq
  | outgrown=>exact hq
 | label l=>intro X kr k a w h; exact wp_label h
 | goto l =>
  rintro X kr k a w ⟨ρ',env,hp,h1,h2,h3,h4,h5,h6,h7⟩
  cases h7
 | ret=>intro X kr k a w h; exact wp_ret h
 | refuse why =>
  rintro X kr k a w ⟨ρ',env,hp,h1,h2,h3,h4,h5,h6,h7⟩
  cases h7
def aJg (tmps : Array Value) (rv : ResultVar) : Sem Value :=
 match rv with
 | .tmp t=>pure (tmps.getD t undef)
 | .cell q t=>do loadVar t (← asAddr (tmps.getD q undef))
theorem pW (fn : Func) (tmps : Array Value) : results fn tmps = (do
  let vs ← fn.results.mapM (aJg tmps)
  pure (if h : vs.size = 1 then vs[0] else .tuple vs)):=by
 unfold results
 congr 2
theorem bNi {ρ : Ren} {w : World} {h : Hp} {x : DV} {x' : Value} {t : TypeId} {k : DV → aH} {r : DV × Hp} (H : HR G ρ h w) (hx : VR ρ x x') (hr : aDf C t x h k = some r) :
  ∃ v v',(do loadVar t (← asAddr x') : Sem Value).run C.P w = .ok v' w ∧ VR ρ v v' ∧ k v = some r:=by
 unfold aDf at hr
 split at hr <;> (try (cases hr; done))
 rename_i d i ht hi
 obtain ⟨v,h',hl,hk⟩:=cZ hr
 have hconv : ∀ b o,x = .p b o → (Instr.loadAt t x') = (do loadVar t (← asAddr x')):=by
  rintro b o rfl
  cases hx
  simp [Instr.loadAt,Instr.sureAddr,asAddr]
 cases hd : jW d with
 | true =>
  rw [hd] at hl
  simp only [cond_true] at hl
  unfold aK at hl
  split at hl <;> (try (cases hl; done))
  rename_i b o
  split at hl <;> (try (cases hl; done))
  rename_i cs hc
  simp only [aU,bG] at hl
  obtain ⟨rfl,_⟩:=hl
  cases hx with
  | p _ _ L hL =>
   obtain ⟨c1,c2,_,vs,c4,c5,c6⟩:=eO H hc hL
   have hrun:=dR (P:=C.P) vs rfl c6
   rw [c5] at hrun
   refine ⟨_,.agg vs.toArray, ?_,.a cs vs.toArray (by simpa using c4),hk⟩
   simp only [asAddr,Sem.run_bind,Sem.run_pure,Result.andThen_ok,loadVar,rA ht,hd,if_true,rS hi,hrun]
 | false =>
  rw [hd] at hl
  simp only [cond_false] at hl
  unfold aA at hl
  split at hl <;> (try (cases hl; done))
  rename_i b o
  split at hl <;> (try (cases hl; done))
  rename_i u' hc
  simp only [aU,bG] at hl
  obtain ⟨rfl,_⟩:=hl
  cases hx with
  | p _ _ L hL =>
   unfold cellD rowOf at hc
   split at hc <;> (try (cases hc; done))
   rename_i l hl
   split at hl <;> (try (cases hl; done))
   rename_i kd l0 hb
   simp only [aU] at hl
   subst hl
   split at hc <;> (try (cases hc; done))
   rename_i u0 hu
   split at hc <;> (try (cases hc; done))
   rename_i ho
   simp only [aU] at hc
   subst hc
   obtain ⟨v',h5,h6⟩:=H.cell b kd l0 L o u0 hb hL hu ho
   refine ⟨_,v', ?_,h6,hk⟩
   simp only [asAddr,Sem.run_bind,Sem.run_pure,Result.andThen_ok,loadVar,rA ht,hd,Bool.false_eq_true,if_false,run_load,h5]
theorem aBt {ρ : Ren} {w : World} {h : Hp} {env : bA} {a : Act} (H : HR G ρ h w) (he : EnvR ρ env a) {r : DV × Hp} : ∀ (l : List ResultVar) (k : List DV → aH),aWe C env h l k = some r →
  ∃ vs vs',(l.mapM (aJg a.tmps)).run C.P w = .ok vs' w ∧ VRs ρ vs vs' ∧ k vs = some r
 | [],k,hr=>⟨[],[],by simp,.nil,hr⟩
 | .tmp t :: l,k,hr=>by
  obtain ⟨vs,vs',h1,h2,h3⟩:=aBt H he l (fun vs=>k (env t :: vs)) hr
  refine ⟨env t :: vs,a.tmps.getD t undef :: vs', ?_,.cons _ _ _ _ (he t) h2,h3⟩
  simp only [List.mapM_cons,Sem.run_bind,aJg,Result.andThen_ok,h1,Sem.run_pure]
 | .cell q t :: l,k,hr=>by
  obtain ⟨v,v',h1,h2,h3⟩:=bNi (x':=a.tmps.getD q undef) H (he q) hr
  obtain ⟨vs,vs',h4,h5,h6⟩:=aBt H he l (fun vs=>k (v :: vs)) h3
  refine ⟨v :: vs,v' :: vs', ?_,.cons _ _ _ _ h2 h5,h6⟩
  simp only [List.mapM_cons,Sem.run_bind,aJg] at h1 ⊢
  simp only [h1,Result.andThen_ok,h4,Sem.run_pure]
theorem aGg {ρ : Ren} {w : World} {h h1 : Hp} {env : bA} {a : Act} (H : HR G ρ h w) (he : EnvR ρ env a) {fn : Func} {v : DV} (hr : aR C fn env h = some (v,h1)) :
  h1 = h ∧ ∃ v',(results fn a.tmps).run C.P w = .ok v' w ∧ VR ρ v v':=by
 obtain ⟨us,vs',h2,h3,hk⟩:=aBt H he _ _ hr
 unfold bXi at hk
 split at hk
 ·rename_i u
  simp only [aU,bG] at hk
  obtain ⟨rfl,rfl⟩:=hk
  cases h3 with
  | cons _ v' _ l' hv hn =>
   cases hn
   refine ⟨rfl,v', ?_,hv⟩
   rw [pW,Array.mapM_eq_mapM_toList]
   simp only [Sem.run_bind,Sem.run_map,h2,Result.andThen_ok,Sem.run_pure]
   simp
 ·rename_i hne
  simp only [aU,bG] at hk
  obtain ⟨rfl,rfl⟩:=hk
  have hl:=h3.length
  have hne1 : vs'.length ≠ 1:=by
   intro e
   rw [e] at hl
   match us,hl with
   | [x],_=>exact hne x rfl
  refine ⟨rfl,.tuple vs'.toArray, ?_,.t _ _ (by simpa using h3)⟩
  rw [pW,Array.mapM_eq_mapM_toList]
  simp only [Sem.run_bind,Sem.run_map,h2,Result.andThen_ok,Sem.run_pure]
  rw [dif_neg (by simpa using hne1)]
structure POk (P : Program) : Prop where
 mixed : P.follows .mixedOrders = true
 names : ∀ (f : Nat) (fn : Func),P.funcs[f]? = some fn → (fn.name == "runtime.NumGoroutine") = false
theorem sS (K : OkC C rec) (hP : POk C.P) (n : Nat) (f : FuncId) : gG C.P G f (aF C rec n f):=by
 intro args h v h1 hr ρ w args' H hargs
 unfold aF at hr
 split at hr <;> (try (cases hr; done))
 rename_i fn hf
 split at hr <;> (try (cases hr; done))
 rename_i c hb
 refine .inl ⟨?_, ?_⟩
 ·unfold callFunc
  have hn : ¬ fn.name = "runtime.NumGoroutine" := by simpa using hP.names f fn hf
  simp [hf,hn,hb]
 ·refine calls_of_wp hf hb ?_
  have he : EnvR ρ (aJ args) { tmps:=args' ++ Array.replicate (fn.ntmps - args'.size) undef,defers:=[] }:=by
   intro t
   unfold aJ
   have hlen:=hargs.length
   simp only [Array.length_toList] at hlen
   by_cases ht : t < args.length
   ·have hg : args[t]? = some args[t]:=by simp [ht]
    obtain ⟨v',h2,h3⟩:=hargs.get t _ hg
    simp only [Array.getElem?_toList] at h2
    rw [show args.getD t aS = args[t] by simp [List.getD,hg]]
    have : (args' ++ Array.replicate (fn.ntmps - args'.size) undef).getD t undef = v':=by
     simp [Array.getElem?_append_left (show t < args'.size by omega),h2]
    rw [this]
    exact h3
   ·have hg : args.getD t aS = aS:=by simp [List.getD,List.getElem?_eq_none (Nat.le_of_not_lt ht)]
    rw [hg]
    have : (args' ++ Array.replicate (fn.ntmps - args'.size) undef).getD t undef = undef:=by
     rw [Array.getD_eq_getD_getElem?,Array.getElem?_append_right (by omega)]
     simp only [Array.getElem?_replicate]
     split <;> rfl
    rw [this]
    exact .t [] #[] .nil
  have hst : St [] G fn.ntmps ρ w (aM C rec fn.ntmps n c (fun _=>cV) (aR C fn) (aR C fn)) (v,h1) { tmps:=args' ++ Array.replicate (fn.ntmps - args'.size) undef,defers:=[] } w :=
   ⟨ρ,aJ args,h,Ex.refl G ρ,H,he,Kp.refl G w,by simp; omega,rfl,hr⟩
  refine wp_mono (cHv K hP.mixed c _ _ _ _ _ hst) fun e a' w' hq => ?_
  have hfin : St [] G fn.ntmps ρ w (aR C fn) (v,h1) a' w' → a'.defers = [] ∧ ∃ v',(results fn a'.tmps).run C.P w' = .ok v' w' ∧ kV G ρ w v h1 (.returned v') w':=by
   rintro ⟨ρ',env,h',e1,e2,e3,e4,e5,e6,e7⟩
   obtain ⟨rfl,v',r1,r2⟩:=aGg e2 e3 e7
   exact ⟨e6,v',r1, ρ',v',rfl,e1,r2,e2,e4⟩
  cases e with
  | normal=>exact hfin hq
  | ret=>exact hfin hq
  | exit id =>
   obtain ⟨ρ',env,h',e1,e2,e3,e4,e5,e6,e7⟩:=hq
   cases e7
  | goto l=>exact hq.elim
  | panic ch=>exact hq.elim
  | outgrown=>exact hq.elim
theorem aEd (hP : POk C.P) (hI : ∀ G g F,C.I g = some F → gG C.P G g F) : ∀ (n : Nat) (G : Gd) (f : FuncId),gG C.P G f (mS C n f)
 | 0,G,f=>fun args h v h1 hr=>by cases hr
 | n + 1,G,f=>sS (rec:=mS C n) ⟨hI,fun G g=>aEd hP hI n G g⟩ hP n f
end
end Go.Dd

namespace Go.Dd
open Go.RowKit (Below)
section
variable {C : Cfg} {G : Gd} {rec : FuncId → List DV → Hp → aH} {nt : Nat}
def pV (h : Hp) : Prop:=∀ b o,h.bl.get b = some o → b.toNat < h.next.toNat
theorem HR.isFresh {ρ : Ren} {h : Hp} {w : World} (H : HR G ρ h w) : pV h:=fun b o hb=>by
 obtain ⟨L,hL⟩:=H.dom b o hb
 exact H.lt b L hL
def aNc (C : Cfg) (rec : FuncId → List DV → Hp → aH) (nt : Nat) (ops : Array Oper) (kV : bA → Hp → Prop) : Nat → Array Bool → bA → Hp → Prop
 | 0,listed,env,h=>Region.ready .any ops listed = [] ∧ kV env h
 | f + 1,listed,env,h=>(Region.ready .any ops listed = [] → kV env h) ∧
   ∀ i ∈ Region.ready .any ops listed,∃ o v h',ops[i]? = some o ∧ dK nt o.dst = true ∧ bL C rec ops o env h = some (v,h') ∧
    aNc C rec nt ops kV f (listed.setIfInBounds i true) (bO env o.dst v) h'
theorem bZl (K : OkC C rec) {ops : Array Oper} {kV : bA → Hp → Prop} {Q : Exit → Act → World → Prop} : ∀ (fuel : Nat) (listed : Array Bool) (ρ : Ren) (env : bA) (h : Hp) (a : Act) (w : World),
  aNc C rec nt ops kV fuel listed env h → HR G ρ h w → EnvR ρ env a → nt ≤ a.tmps.size → a.defers = [] →
  (∀ ρ' env' h' a' w',kV env' h' → Ex G ρ ρ' → HR G ρ' h' w' → EnvR ρ' env' a' → Kp G w w' → nt ≤ a'.tmps.size → a'.defers = [] → Q .normal a' w') →
  wpAny C.P .any ops Q fuel listed a w
 | 0,listed, ρ,env,h,a,w,hp,H,he,hnt,hd,hQ=>⟨hp.1,hQ ρ env h a w hp.2 (Ex.refl G ρ) H he (Kp.refl G w) hnt hd⟩
 | f + 1,listed, ρ,env,h,a,w,hp,H,he,hnt,hd,hQ=>by
  refine ⟨fun hr=>hQ ρ env h a w (hp.1 hr) (Ex.refl G ρ) H he (Kp.refl G w) hnt hd,fun i hi => ?_⟩
  obtain ⟨o,v,h',ho,hf,hs,hn⟩:=hp.2 i hi
  refine vX (xO K H he hs) rfl ho H fun ρ' w' v' h2 h3 h4 h5 => ?_
  exact bZl K f _ ρ' _ h' _ w' hn h4 (he.put h2.ext h3 hf hnt) (by rw [mA]; exact hnt) (by rw [iW]; exact hd)
   fun ρ2 env2 hh a2 w2 e0 e1 e2 e3 e4 e5 e6=>hQ ρ2 env2 hh a2 w2 e0 (h2.trans e1) e2 e3 (h5.trans e4) e5 e6
def uK (C : Cfg) (rec : FuncId → List DV → Hp → aH) (nt : Nat) : Code → (Nat → bA → Hp → Prop) → (bA → Hp → Prop) → (bA → Hp → Prop) → bA → Hp → Prop
 | .skip,_,_,N=>N
 | .region _ ops dr,_,_,N=>fun env h=>if dr then (aNc C rec nt ops (fun e h=>pV h → N e h) ops.size (Array.replicate ops.size false) env h ∨
    (fC C.P ops = true ∧ ∃ k r,iS C rec nt ops k env h = some r ∧ ∀ env' h',k env' h' = some r → pV h' → N env' h'))
   else ∃ env' h',aBn C rec nt ops ops.toList env h env' h' ∧ (pV h' → N env' h')
 | .seq a b,X,R,N=>uK C rec nt a X R (uK C rec nt b X R N)
 | .cond c a b,X,R,N=>fun env h=>(opr env c = .b true ∧ uK C rec nt a X R N env h) ∨ (opr env c = .b false ∧ uK C rec nt b X R N env h)
 | .block id a,X,R,N=>uK C rec nt a (fun j=>if j = id then N else X j) R N
 | .exit id,X,_,_=>X id
 | .scope a,X,R,N=>uK C rec nt a X R N
 | .ret,_,R,_=>R
 | _,_,_,_=>fun _ _=>False
def StP (G : Gd) (nt : Nat) (ρ : Ren) (w0 : World) (N : bA → Hp → Prop) (a : Act) (w : World) : Prop :=
 ∃ ρ' env h,Ex G ρ ρ' ∧ HR G ρ' h w ∧ EnvR ρ' env a ∧ Kp G w0 w ∧ nt ≤ a.tmps.size ∧ a.defers = [] ∧ N env h
def QP (G : Gd) (nt : Nat) (ρ : Ren) (w0 : World) (X : Nat → bA → Hp → Prop) (R N : bA → Hp → Prop) : Exit → Act → World → Prop
 | .normal,a,w=>StP G nt ρ w0 N a w
 | .exit id,a,w=>StP G nt ρ w0 (X id) a w
 | .ret,a,w=>StP G nt ρ w0 R a w
 | _,_,_=>False
theorem bMa (K : OkC C rec) (hm : C.P.follows .mixedOrders = true) {ρ : Ren} {w0 : World} : ∀ (c : Code) (X : Nat → bA → Hp → Prop) (R N : bA → Hp → Prop) (a : Act) (w : World),
  StP G nt ρ w0 (uK C rec nt c X R N) a w → c.wp C.P (QP G nt ρ w0 X R N) a w:=by
 intro c
 induction c with
 | skip=>intro X R N a w h; exact wp_skip h
 | region id ops dr =>
  intro X R N a w h
  obtain ⟨ρ',env,hp,h1,h2,h3,h4,h5,h6,h7⟩:=h
  cases dr with
  | true =>
   simp only [uK,if_true] at h7
   rcases h7 with h7 | ⟨hok,k,r,h7,h8⟩
   ·refine wp_region_any hm (bZl K ops.size _ ρ' env hp a _ h7 (h2.congr rfl) h3 h5 h6 fun ρ2 env2 h2' a2 w2 e0 e1 e2 e3 e4 e5 e6 => ?_)
    exact ⟨ρ2,env2,h2',h1.trans e1,e2,e3,(h4.trans ((Kp.refl G w).drew)).trans e4,e5,e6,e0 e2.isFresh⟩
   ·exact aWx K hm hok h7 h2 h3 h5 h6 fun ρ2 env2 h2' a2 w2 e1 e2 e3 e4 e5 e6 e7=>⟨ρ2,env2,h2',h1.trans e1,e2,e3,h4.trans e4,e5,e6,h8 _ _ e7 e2.isFresh⟩
  | false =>
   simp only [uK,Bool.false_eq_true,if_false] at h7
   obtain ⟨env',h',hr,hk⟩:=h7
   refine wp_region ?_
   have:=aKz (Q:=QP G nt ρ w0 X R N) K ops.toList 0 ρ' env hp a w (by simp) hr h2 h3 h5 h6 fun ρ2 a2 w2 e1 e2 e3 e4 e5 e6=>⟨ρ2,env',h',h1.trans e1,e2,e3,h4.trans e4,e5,e6,hk e2.isFresh⟩
   rw [List.range_eq_range']
   simpa using this
 | seq x y ihx ihy =>
  intro X R N a w h
  refine wp_seq (wp_mono (ihx X R (uK C rec nt y X R N) a w h) fun e a' w' hq => ?_)
  cases e with
  | normal=>exact ihy X R N a' w' hq
  | exit id=>exact hq
  | ret=>exact hq
  | goto l=>exact hq
  | panic ch=>exact hq
  | outgrown=>exact hq
 | cond c x y ihx ihy =>
  intro X R N a w h
  obtain ⟨ρ',env,hp,h1,h2,h3,h4,h5,h6,h7⟩:=h
  have hc:=aW h3 c
  rcases h7 with ⟨hcb,h7⟩ | ⟨hcb,h7⟩
  ·rw [hcb] at hc
   generalize hcv : a.eval c = cv at hc
   cases hc
   exact wp_cond_true hcv (ihx X R N a w ⟨ρ',env,hp,h1,h2,h3,h4,h5,h6,h7⟩)
  ·rw [hcb] at hc
   generalize hcv : a.eval c = cv at hc
   cases hc
   exact wp_cond_false hcv (ihy X R N a w ⟨ρ',env,hp,h1,h2,h3,h4,h5,h6,h7⟩)
 | block id x ih =>
  intro X R N a w h
  refine wp_block (wp_mono (ih (fun j=>if j = id then N else X j) R N a w h) fun e a' w' hq => ?_)
  cases e with
  | normal=>exact hq
  | exit id' =>
   simp only [QP] at hq
   simp only [Exit.inBlock]
   split
   ·rename_i e
    rw [if_pos e] at hq
    exact hq
   ·rename_i e
    rw [if_neg e] at hq
    exact hq
  | ret=>exact hq
  | goto l=>exact hq
  | panic ch=>exact hq
  | outgrown=>exact hq
 | loop x ih=>rintro X R N a w ⟨ρ',env,hp,h1,h2,h3,h4,h5,h6,h7⟩; exact h7.elim
 | rangeFunc f ps x y ihx ihy=>rintro X R N a w ⟨ρ',env,hp,h1,h2,h3,h4,h5,h6,h7⟩; exact h7.elim
 | exit id=>intro X R N a w h; exact wp_exit h
 | scope x ih =>
  intro X R N a w h
  refine wp_scope_straight (wp_mono (ih X R N a w h) fun e a' w' hq => ?_)
  cases e with
  | goto l=>exact hq
  | normal=>exact hq
  | exit id=>exact hq
  | ret=>exact hq
  | panic ch=>exact hq
  | outgrown=>exact hq
 | label l=>rintro X R N a w ⟨ρ',env,hp,h1,h2,h3,h4,h5,h6,h7⟩; exact h7.elim
 | goto l=>rintro X R N a w ⟨ρ',env,hp,h1,h2,h3,h4,h5,h6,h7⟩; exact h7.elim
 | ret=>intro X R N a w h; exact wp_ret h
 | refuse why=>rintro X R N a w ⟨ρ',env,hp,h1,h2,h3,h4,h5,h6,h7⟩; exact h7.elim
def Le (h2 h1 : Hp) : Prop:=∀ G ρ w,HR G ρ h2 w → HR G ρ h1 w
theorem dFd (K : OkC C rec) (hP : POk C.P) {f : FuncId} {fn : Func} {c : Code} (hf : C.P.funcs[f]? = some fn) (hb : fn.body = some c) {F : List DV → Hp → aH}
  (hF : ∀ args h v h1,F args h = some (v,h1) → pV h → uK C rec fn.ntmps c (fun _ _ _=>False) (fun env h'=>∃ h2,aR C fn env h' = some (v,h2) ∧ Le h2 h1)
   (fun env h'=>∃ h2,aR C fn env h' = some (v,h2) ∧ Le h2 h1) (aJ args) h) : gG C.P G f F:=by
 intro args h v h1 hr ρ w args' H hargs
 refine .inl ⟨?_, ?_⟩
 ·unfold callFunc
  have hn : ¬ fn.name = "runtime.NumGoroutine" := by simpa using hP.names f fn hf
  simp [hf,hn,hb]
 ·refine calls_of_wp hf hb ?_
  have he : EnvR ρ (aJ args) { tmps:=args' ++ Array.replicate (fn.ntmps - args'.size) undef,defers:=[] }:=by
   intro t
   unfold aJ
   have hlen:=hargs.length
   simp only [Array.length_toList] at hlen
   by_cases ht : t < args.length
   ·have hg : args[t]? = some args[t]:=by simp [ht]
    obtain ⟨v',h2,h3⟩:=hargs.get t _ hg
    simp only [Array.getElem?_toList] at h2
    rw [show args.getD t aS = args[t] by simp [List.getD,hg]]
    have : (args' ++ Array.replicate (fn.ntmps - args'.size) undef).getD t undef = v':=by
     simp [Array.getElem?_append_left (show t < args'.size by omega),h2]
    rw [this]
    exact h3
   ·have hg : args.getD t aS = aS:=by simp [List.getD,List.getElem?_eq_none (Nat.le_of_not_lt ht)]
    rw [hg]
    have : (args' ++ Array.replicate (fn.ntmps - args'.size) undef).getD t undef = undef:=by
     rw [Array.getD_eq_getD_getElem?,Array.getElem?_append_right (by omega)]
     simp only [Array.getElem?_replicate]
     split <;> rfl
    rw [this]
    exact .t [] #[] .nil
  have hst : StP G fn.ntmps ρ w _ { tmps:=args' ++ Array.replicate (fn.ntmps - args'.size) undef,defers:=[] } w :=
   ⟨ρ,aJ args,h,Ex.refl G ρ,H,he,Kp.refl G w,by simp; omega,rfl,hF args h v h1 hr H.isFresh⟩
  refine wp_mono (bMa K hP.mixed c _ _ _ _ _ hst) fun e a' w' hq => ?_
  have hfin : StP G fn.ntmps ρ w (fun env h'=>∃ h2,aR C fn env h' = some (v,h2) ∧ Le h2 h1) a' w' → a'.defers = [] ∧ ∃ v',(results fn a'.tmps).run C.P w' = .ok v' w' ∧ kV G ρ w v h1 (.returned v') w':=by
   rintro ⟨ρ',env,h',e1,e2,e3,e4,e5,e6,h2,e7,e8⟩
   obtain ⟨rfl,v',r1,r2⟩:=aGg e2 e3 e7
   exact ⟨e6,v',r1, ρ',v',rfl,e1,r2,e8 _ _ _ e2,e4⟩
  cases e with
  | normal=>exact hfin hq
  | ret=>exact hfin hq
  | exit id=>obtain ⟨ρ',env,h',e1,e2,e3,e4,e5,e6,e7⟩:=hq; exact e7.elim
  | goto l=>exact hq.elim
  | panic ch=>exact hq.elim
  | outgrown=>exact hq.elim
end
end Go.Dd

namespace Go.Dd
open Go.RowKit (Below)
def Fw (ro : Option Nat) : Fence:={ Fence.wide with round:=ro }
theorem aSj {ro : Option Nat} {n : Nat} {P : Program} {f : FuncId} {args : Array Value} {w : World} {R : Ending → World → Prop} (h : Calls P f args w R) : CallsIn (Fw ro) n P f args w R:=by
 have e : CallsIn Fence.wide n P f args w R:=callsIn_wide.2 h
 exact e
theorem stepsIn_fw {ro : Option Nat} {P : Program} {m m' : Machine} : StepsIn (Machine.fenced P (Fw ro)) P m m' ↔ Steps P m m':=by
 exact stepsIn_wide (P:=P)
def fY (o : Oper) : Bool:=match o.op with
 | .defer _=>false
 | _=>true
section
variable {ro : Option Nat} {n : Nat} {P : Program} {Q : Exit → Act → World → Prop}
theorem bNt {o : Oper} {ρ : Operand → Value} (h : fY o = true) : o.semAt ro ρ = execOp ρ o:=by
 refine Oper.semAt_eq ro ρ o fun c e => ?_
 unfold fY at h
 rw [e] at h
 cases h
theorem dPy {o : Oper} {a : Act} {w : World} {K : Act → World → Prop} (hd : fY o = true) (h : o.wp P a w K Q) : o.wpIn (Fw ro) n P a w K Q:=by
 refine ⟨fun _ _=>trivial, ?_⟩
 show o.uponIn (Fw ro) n P a K Q ((o.semAt ro a.eval).run P w)
 rw [bNt hd]
 unfold Oper.wp at h
 generalize (execOp a.eval o).run P w = r at h
 cases r with
 | ok x w' =>
  cases x <;> first
   | exact h
   | exact h.elim
   | exact ⟨fun e=>(by cases e),aSj h⟩
   | exact ⟨fun e=>(by cases e),fun c cs _=>(let ⟨v,w2,r,s⟩:=h c cs; ⟨v,w2,r,stepsIn_fw.2 s⟩)⟩
 | halt x w'=>cases x <;> exact h
theorem aIu {ops : Array Oper} {i : Nat} {K K' : Act → World → Prop} {a : Act} {w : World} (hd : ∀ o ∈ ops.toList,fY o = true) (hQ : ¬ LetsOut Q) (hK : ∀ a w,K a w → K' a w) (h : wpOp P ops Q i K a w) : wpOpIn (Fw ro) n P ops Q i K' a w:=by
 unfold wpOp at h
 unfold wpOpIn
 cases ho : ops[i]? with
 | none=>rw [ho] at h; exact hK _ _ h
 | some o =>
  rw [ho] at h
  dsimp only at h ⊢
  have hm : o ∈ ops.toList:=by
   have:=Array.mem_of_getElem? ho
   exact Array.mem_toList_iff.2 this
  split
  ·rename_i hw
   rw [if_pos hw] at h
   rcases h with h | h
   ·exact Oper.wpIn_mono hK (dPy (hd o hm) h)
   ·exact absurd h.2 hQ
  ·rename_i hw
   rw [if_neg hw] at h
   exact ⟨fun _ _=>trivial,hK _ _ h⟩
theorem aNe {ops : Array Oper} (hd : ∀ o ∈ ops.toList,fY o = true) (hQ : ¬ LetsOut Q) : ∀ (l : List Nat) (a : Act) (w : World),wpOps P ops Q l a w → wpOpsIn (Fw ro) n P ops Q l a w
 | [],a,w,h=>h
 | i :: l,a,w,h=>by
  rw [wpOps_cons] at h
  rw [wpOpsIn_cons]
  exact aIu hd hQ (aNe hd hQ l) h
theorem aOm {ops : Array Oper} {md : Region.Mode} (hd : ∀ o ∈ ops.toList,fY o = true) (hQ : ¬ LetsOut Q) : ∀ (fuel : Nat) (listed : Array Bool) (a : Act) (w : World),wpAny P md ops Q fuel listed a w → wpAnyIn (Fw ro) n P md ops Q fuel listed a w
 | 0,listed,a,w,h=>h
 | fuel + 1,listed,a,w,h=>⟨h.1,fun i hi=>aIu hd hQ (aOm hd hQ fuel _) (h.2 i hi)⟩
def eK : Code → Bool
 | .skip=>true
 | .region _ ops _=>ops.toList.all fY
 | .seq x y=>eK x && eK y
 | .cond _ x y=>eK x && eK y
 | .block _ x=>eK x
 | .loop x=>eK x
 | .exit _=>true
 | .ret=>true
 | _=>false
end
section
variable {C : Cfg} {G : Gd} {rec : FuncId → List DV → Hp → aH} {nt n : Nat}
theorem bUf {DD : List Deferred} {ρ : Ren} {w0 : World} {X : Nat → K} {kr k : K} {r : DV × Hp} : ¬ LetsOut (QQ DD G nt ρ w0 X kr k r):=fun ⟨_,_,h⟩=>h
theorem aYt {ro : Option Nat} {N : Nat} {DD : List Deferred} (K : OkC C rec) (hm : C.P.follows .mixedOrders = true) {ρ : Ren} {w0 : World} {r : DV × Hp} : ∀ (c : Code),eK c = true → ∀ (X : Nat → Dd.K) (kr k : Dd.K) (a : Act) (w : World),
  St DD G nt ρ w0 (aM C rec nt n c X kr k) r a w → c.wpIn (Fw ro) N C.P (QQ DD G nt ρ w0 X kr k r) a w:=by
 intro c
 induction c with
 | skip=>intro _ X kr k a w h; exact wpIn_skip h
 | region id ops dr =>
  intro hpc X kr k a w h
  have hd : ∀ o ∈ ops.toList,fY o = true:=List.all_eq_true.1 hpc
  obtain ⟨ρ',env,hp,h1,h2,h3,h4,h5,h6,h7⟩:=h
  change (Bool.rec (motive:=fun _=>Dd.K) (gY C rec nt ops ops.toList k) (Bool.rec (motive:=fun _=>Dd.K) cV (iS C rec nt ops k) (fC C.P ops)) dr) env hp = some r at h7
  cases dr with
  | true =>
   dsimp only at h7
   cases hok : fC C.P ops with
   | false=>rw [hok] at h7; cases h7
   | true =>
    rw [hok] at h7
    exact wpIn_region_any hm (aOm hd bUf _ _ _ _ (aMm K hok h7 h2 h3 h5 h6 fun ρ2 env2 h2' a2 w2 e1 e2 e3 e4 e5 e6 e7=>⟨ρ2,env2,h2',h1.trans e1,e2,e3,h4.trans e4,e5,e6,e7⟩))
  | false =>
   simp only [cond_false] at h7
   obtain ⟨env',h',hr,hk⟩:=oE ops.toList k env hp r h7
   refine wpIn_region ?_
   have:=aKz (Q:=QQ DD G nt ρ w0 X kr k r) K ops.toList 0 ρ' env hp a w (by simp) hr h2 h3 h5 h6 fun ρ2 a2 w2 e1 e2 e3 e4 e5 e6=>⟨ρ2,env',h',h1.trans e1,e2,e3,h4.trans e4,e5,e6,hk⟩
   rw [List.range_eq_range']
   exact aNe hd bUf _ _ _ (by simpa using this)
 | seq x y ihx ihy =>
  intro hpc X kr k a w h
  simp only [eK,Bool.and_eq_true] at hpc
  refine wpIn_seq (wpIn_mono (ihx hpc.1 X kr (aM C rec nt n y X kr k) a w h) fun e a' w' hq => ?_)
  cases e with
  | normal=>exact ihy hpc.2 X kr k a' w' hq
  | exit id=>exact hq
  | ret=>exact hq
  | goto l=>exact hq
  | panic ch=>exact hq
  | outgrown=>exact hq
 | cond c x y ihx ihy =>
  intro hpc X kr k a w h
  simp only [eK,Bool.and_eq_true] at hpc
  obtain ⟨ρ',env,hp,h1,h2,h3,h4,h5,h6,h7⟩:=h
  change aT (opr env c) (aM C rec nt n x X kr k env hp) (aM C rec nt n y X kr k env hp) = some r at h7
  have hc:=aW h3 c
  unfold aT at h7
  split at h7 <;> (try (cases h7; done))
  ·rename_i hcb
   rw [hcb] at hc
   generalize hcv : a.eval c = cv at hc
   cases hc
   exact wpIn_cond_true hcv (ihx hpc.1 X kr k a w ⟨ρ',env,hp,h1,h2,h3,h4,h5,h6,h7⟩)
  ·rename_i hcb
   rw [hcb] at hc
   generalize hcv : a.eval c = cv at hc
   cases hc
   exact wpIn_cond_false hcv (ihy hpc.2 X kr k a w ⟨ρ',env,hp,h1,h2,h3,h4,h5,h6,h7⟩)
 | block id x ih =>
  intro hpc X kr k a w h
  refine wpIn_block (wpIn_mono (ih hpc (fun j=>bif Nat.beq j id then k else X j) kr k a w h) fun e a' w' hq => ?_)
  cases e with
  | normal=>exact hq
  | exit id' =>
   simp only [QQ] at hq
   simp only [Exit.inBlock,QQ]
   split
   ·rename_i e
    subst e
    have hb : Nat.beq id' id' = true:=Nat.beq_refl id'
    rw [hb] at hq
    exact hq
   ·rename_i e
    have : Nat.beq id' id = false:=by
     cases hb : Nat.beq id' id with
     | false=>rfl
     | true=>exact absurd (Nat.eq_of_beq_eq_true hb) e
    rw [this] at hq
    exact hq
  | ret=>exact hq
  | goto l=>exact hq
  | panic ch=>exact hq
  | outgrown=>exact hq
 | loop x ih =>
  intro hpc X kr k a w h
  have key : ∀ (m : Nat) (a : Act) (w : World),St DD G nt ρ w0 (aL (fun kk=>aM C rec nt n x X kr kk) m) r a w → Code.roundsIn (Fw ro) N C.P x (QQ DD G nt ρ w0 X kr k r) m a w:=by
   intro m
   induction m with
   | zero =>
    rintro a w ⟨ρ',env,hp,h1,h2,h3,h4,h5,h6,h7⟩
    cases h7
   | succ m ihm =>
    intro a w hs
    rw [roundsIn_succ]
    refine wpIn_mono (ih hpc X kr (aL (fun kk=>aM C rec nt n x X kr kk) m) a w hs) fun e a' w' hq => ?_
    cases e with
    | normal=>exact ihm a' w' hq
    | exit id=>exact hq
    | ret=>exact hq
    | goto l=>exact hq
    | panic ch=>exact hq
    | outgrown=>exact hq
  exact wpIn_loop_rounds n (key n a w h)
 | exit id=>intro _ X kr k a w h; exact wpIn_exit h
 | ret=>intro _ X kr k a w h; exact wpIn_ret h
 | _=>intro hpc; cases hpc
end
end Go.Dd

namespace Go.Dd
open Go.RowKit (Below)
section
variable {G G' : Gd} {ρ : Ren} {h : Hp} {w : World}
theorem HR.earlyO (H : HR G ρ h w) {b : Pos} (hb : ρ b = none) (hlt : b.toNat < h.next.toNat) (ob : Obj) :
  HR ⟨G.B,fun k=>G.X k ∨ k = w.heap.size,G.N,G.W,G.ok⟩ (lO ρ b ⟨w.heap.size,0,0,none⟩) h (w.alloc ob):=by
 have hext : Ext ρ (lO ρ b ⟨w.heap.size,0,0,none⟩):=by
  intro x L hx
  by_cases e : x = b
  ·subst e; rw [hb] at hx; cases hx
  ·rw [aQ _ _ e]; exact hx
 have hrow : h.bl.get b = none:=by
  cases hr : h.bl.get b with
  | none=>rfl
  | some o=>obtain ⟨L,hL⟩:=H.dom b o hr; rw [hb] at hL; cases hL
 have hne : ∀ x o,h.bl.get x = some o → x ≠ b:=fun x o hx e=>by subst e; rw [hrow] at hx; cases hx
 have hcl : ∀ {x a},Claims (lO ρ b ⟨w.heap.size,0,0,none⟩) h x a → Claims ρ h x a:=by
  rintro x a ⟨k,l,L,h1,h2,h3⟩
  rw [aQ _ _ (hne x _ h1)] at h2
  exact ⟨k,l,L,h1,h2,h3⟩
 have hblt : ∀ {x a},Claims ρ h x a → a.block < w.heap.size:=fun hc=>by
  obtain ⟨v,hv⟩:=H.lt_cell hc
  exact eE hv
 refine { gl:=fun k hk=>by rw [Below.heap_alloc _ _ _ (Nat.lt_of_lt_of_le hk H.sz.1)]; exact H.gl k hk,sz:=⟨by have:=H.sz.1; simp; omega,fun k hk => ?_⟩,nx:=H.nx,ro:=fun x a h1 h2=>H.ro x a (hcl h1) h2,dom := ?_,lt := ?_,cell := ?_,spare := ?_,free := ?_,inj := ?_,ex := ?_,grone:=H.grone,itr := ?_,itj := ?_ }
 ·rcases hk with hk | hk
  ·have:=H.sz.2 k hk; simp; omega
  ·simp; omega
 ·intro x o hx
  obtain ⟨L,hL⟩:=H.dom x o hx
  exact ⟨L,hext _ _ hL⟩
 ·intro x L hx
  by_cases e : x = b
  ·subst e; exact hlt
  ·rw [aQ _ _ e] at hx; exact H.lt x L hx
 ·intro x k l L i v hx hL hi hv
  rw [aQ _ _ (hne x _ hx)] at hL
  obtain ⟨v',h5,h6⟩:=H.cell x k l L i v hx hL hi hv
  exact ⟨v',by rw [eA (eE h5)]; exact h5,h6.mono hext⟩
 ·intro x l L es j hx hL hj
  rw [aQ _ _ (hne x _ hx)] at hL
  obtain ⟨v',h5⟩:=H.spare x l L es j hx hL hj
  exact ⟨v',by rw [eA (eE h5)]; exact h5⟩
 ·intro x a hc hr
  have hlt':=hblt (hcl hc)
  obtain ⟨h3,h4,h5⟩:=H.free x a (hcl hc) hr
  refine ⟨by rw [gA (by omega)]; exact h3,h4, ?_⟩
  rintro (hk | hk)
  ·exact h5 hk
  ·omega
 ·intro x x' a hc hc' hr
  exact H.inj x x' a (hcl hc) (hcl hc') hr
 ·intro x l L hx hL
  have : x ≠ b:=by rcases hx with hx | hx <;> exact hne x _ hx
  rw [aQ _ _ this] at hL
  exact H.ex x l L hx hL
 ·intro x o L h0 hx hL
  rw [aQ _ _ (hne x _ hx)] at hL
  obtain ⟨⟨h1,h1'⟩,h2,bs,h3,h4⟩:=H.itr x o L h0 hx hL
  have hlt' : L.bl < w.heap.size:=by
   rcases Nat.lt_or_ge L.bl w.heap.size with h | h
   ·exact h
   ·simp [Array.getElem?_eq_none h] at h3
  refine ⟨⟨h1, ?_⟩,h2,bs,by rw [Below.heap_alloc _ _ _ hlt']; exact h3,h4.mono hext⟩
  rintro (hk | hk)
  ·exact h1' hk
  ·omega
 ·intro x o x' o' L L' h0 h0' hx hx' hL hL' he
  rw [aQ _ _ (hne x _ hx)] at hL
  rw [aQ _ _ (hne x' _ hx')] at hL'
  exact H.itj x o x' o' L L' h0 h0' hx hx' hL hL' he
theorem aNl {w : World} {l : Nat} {o o' : Obj} (hl : w.heap[l]? = some o) (ho : o.isCells = false) (ho' : o'.isCells = false) (a : Addr) : (w.putObj l o').cell? a = w.cell? a:=by
 by_cases e : a.block = l
 ·have h1 : (w.putObj l o').heap[a.block]? = some o':=by rw [e]; exact World.putObj_heap_same (Array.getElem?_eq_some_iff.1 hl).1
  have h2 : w.heap[a.block]? = some o:=by rw [e]; exact hl
  unfold World.cell?
  rw [h1,h2]
  cases o <;> cases ho <;> cases o' <;> cases ho' <;> rfl
 ·unfold World.cell?
  rw [World.putObj_heap_other e]
theorem aRe {w : World} {l : Nat} {o' : Obj} {a : Addr} (e : a.block ≠ l) : (w.putObj l o').frozen? a = w.frozen? a:=by
 unfold World.frozen?
 rw [World.putObj_heap_other e]
theorem HR.putX (H : HR G ρ h w) {l : Nat} {o o' : Obj} (hB : G.B ≤ l) (hX : G.X l) (hl : w.heap[l]? = some o) (ho : o.isCells = false) (ho' : o'.isCells = false) : HR G ρ h (w.putObj l o') where
 gl:=fun k hk=>by rw [World.putObj_heap_other (by omega)]; exact H.gl k hk
 sz:=by
  have e : (w.putObj l o').heap.size = w.heap.size:=by simp [World.putObj]
  rw [e]
  exact H.sz
 nx:=H.nx
 ro:=H.ro
 dom:=H.dom
 lt:=H.lt
 cell:=fun b k L i v v' h1 h2 h3 h4=>by
  obtain ⟨x,h5,h6⟩:=H.cell b k L i v v' h1 h2 h3 h4
  exact ⟨x,by rw [aNl hl ho ho']; exact h5,h6⟩
 spare:=fun b k L es j h1 h2 h3=>by
  obtain ⟨x,h5⟩:=H.spare b k L es j h1 h2 h3
  exact ⟨x,by rw [aNl hl ho ho']; exact h5⟩
 free:=fun b a h1 h2=>by
  obtain ⟨h3,h4,h5⟩:=H.free b a h1 h2
  exact ⟨by rw [aRe (by intro e; rw [e] at h5; exact h5 hX)]; exact h3,h4,h5⟩
 inj:=H.inj
 ex:=H.ex
 grone:=H.grone
 itr:=fun b o2 L h0 h1 h2=>by
  obtain ⟨⟨h3,h4⟩,h5,x,h6,h7⟩:=H.itr b o2 L h0 h1 h2
  exact ⟨⟨h3,h4⟩,h5,x,by rw [World.putObj_heap_other (by intro e; rw [e] at h4; exact h4 hX)]; exact h6,h7⟩
 itj:=H.itj
theorem Kp.putX {w0 : World} (k : Kp G w0 w) {l : Nat} {o o' : Obj} (hO : Own G l) (hs : ∀ k,G.X k → k < w0.heap.size) (hB : G.B ≤ w0.heap.size) (hl : w.heap[l]? = some o) : Kp G w0 (w.putObj l o') where
 low:=k.low.grown (grownBy_putObj' w l o') (Nat.le_trans hB k.low.size) (fun j e=>by cases e; exact hO.1)
 ex:=fun j hj=>by rw [World.putObj_heap_other (by intro e; subst e; exact hO.2 hj)]; exact k.ex j hj
end
end Go.Dd

namespace Go.Dd
open Go.RowKit (Below)
structure ItC where
 gf : FuncId
 nt : Nat
 pre : Code
 b0 : Nat
 test : Code
 b1 : Nat
 rid : Nat
 front : List Oper
 y : Oper
 back : List Oper
 after : Code
 post : Code
 step : Code
 yd : Tmp
 yt : Tmp
 yx : Tmp
def ItC.ops (I : ItC) : Array Oper:=(I.front ++ I.y :: I.back).toArray
def ItC.round (I : ItC) : Code:=.seq I.test (.seq (.block I.b1 (.seq (.seq (.region I.rid I.ops false) I.after) I.post)) I.step)
def ItC.code (I : ItC) : Code:=.seq I.pre (.block I.b0 (.loop I.round))
def lC : Nat → K:=fun _=>cV
def ylB (v : DV) (b : Pos) : Bool:=match v with
 | .yl b'=>b' == b
 | _=>false
section
variable (C : Cfg) (rec : FuncId → List DV → Hp → aH) (n : Nat) (I : ItC)
def sN (b : Bool) (kr k : K) (e1 : bA) : Hp → aH:=fun h =>
 cnd (dK I.nt (some I.yd)) (gY C rec I.nt I.ops I.back (aM C rec I.nt n I.after lC kr k) (bO e1 (some I.yd) (.b b)) h)
def aGx (nt : Nat) (p : Tmp) (x y : Code) (env : bA) (X : Nat → K) (kr kk : K) : K:=fun e1 h1 =>
 cnd (dK nt (some p)) (aM C rec nt n x lC cV (aM C rec nt n y
   (fun i _ h2=>sN C rec n I false (fun _ h3=>X i env h3) cV e1 h2)
   (fun _ h2=>sN C rec n I false (fun _ h3=>kr env h3) cV e1 h2)
   (fun _ h2=>sN C rec n I true cV (aM C rec I.nt n I.post lC cV (aM C rec I.nt n I.step lC cV kk)) e1 h2))
  (bO env (some p) (e1 I.yx)) h1)
def nV (nt : Nat) (g : Operand) (p : Tmp) (x y : Code) (X : Nat → K) (kr k : K) : K:=fun env h =>
 match opr env g with
 | .f gf [] cap=>cnd (Nat.beq gf I.gf) (aM C rec I.nt n I.pre lC cV
   (aL (fun kk=>aM C rec I.nt n I.test (fun j=>bif Nat.beq j I.b0 then (fun _ h=>k env h) else cV) cV
    (gY C rec I.nt I.ops I.front (fun e1 h1=>cnd (ylB (e1 I.yt) h.next) (aGx C rec n I nt p x y env X kr kk e1 h1)))) n)
   (aJ (.yl h.next :: cap)) (resv 2 h))
 | _=>none
end
structure ItOk (P : Program) (I : ItC) : Prop where
 pre : eK I.pre = true
 test : eK I.test = true
 after : eK I.after = true
 post : eK I.post = true
 step : eK I.step = true
 ops : ∀ o ∈ I.ops.toList,fY o = true
 dst : I.y.dst = some I.yd
 guard : I.y.guard = none
 op : ∃ tys,I.y.op = .call ⟨.value (.tmp I.yt), #[.tmp I.yx],tys⟩
 fn : ∃ fn,P.funcs[I.gf]? = some fn ∧ fn.body = some I.code ∧ fn.ntmps = I.nt ∧ fn.results = #[] ∧ (fn.name == "runtime.NumGoroutine") = false
theorem aPe {ρ : Ren} {args : List DV} {args' : Array Value} (hargs : VRs ρ args args'.toList) (nt : Nat) (ds : List Deferred) : EnvR ρ (aJ args) { tmps:=args' ++ Array.replicate (nt - args'.size) undef,defers:=ds }:=by
 intro t
 unfold aJ
 have hlen:=hargs.length
 simp only [Array.length_toList] at hlen
 by_cases ht : t < args.length
 ·have hg : args[t]? = some args[t]:=by simp [ht]
  obtain ⟨v',h2,h3⟩:=hargs.get t _ hg
  simp only [Array.getElem?_toList] at h2
  rw [show args.getD t aS = args[t] by simp [List.getD,hg]]
  have : (args' ++ Array.replicate (nt - args'.size) undef).getD t undef = v':=by
   simp [Array.getElem?_append_left (show t < args'.size by omega),h2]
  rw [this]
  exact h3
 ·have hg : args.getD t aS = aS:=by simp [List.getD,List.getElem?_eq_none (Nat.le_of_not_lt ht)]
  rw [hg]
  have : (args' ++ Array.replicate (nt - args'.size) undef).getD t undef = undef:=by
   rw [Array.getD_eq_getD_getElem?,Array.getElem?_append_right (by omega)]
   simp only [Array.getElem?_replicate]
   split <;> rfl
  rw [this]
  exact .t [] #[] .nil
def GD (G : Gd) (D : Nat) : Gd:=⟨G.B,fun k=>G.X k ∨ k = D,G.N,G.W,G.ok⟩
theorem Ex.ofGD {G : Gd} {D : Nat} {ρ ρ' : Ren} (h : Ex (GD G D) ρ ρ') : Ex G ρ ρ':=⟨h.ext,h.new⟩
theorem Kp.ofGD {G : Gd} {D : Nat} {w w' : World} (h : Kp (GD G D) w w') : Kp G w w':=⟨h.low,fun k hk=>h.ex k (.inl hk)⟩
section
variable {C : Cfg} {G : Gd} {rec : FuncId → List DV → Hp → aH} {n : Nat} {I : ItC} {N : Nat}
def StM (DD : List Deferred) (G : Gd) (nt : Nat) (ρ : Ren) (w0 : World) (k : K) (r : DV × Hp) (a : Act) (w : World) : Prop :=
 ∃ D ρ' env h,Ex G ρ ρ' ∧ HR (GD G D) ρ' h w ∧ EnvR ρ' env a ∧ Kp G w0 w ∧ nt ≤ a.tmps.size ∧ a.defers = { target:=.collected D,args := #[] } :: DD ∧ Own G D ∧ w.heap[D]? = some (.deferred (some [])) ∧ k env h = some r
def QM (DD : List Deferred) (G : Gd) (nt : Nat) (ρ : Ren) (w0 : World) (X : Nat → K) (kr k : K) (r : DV × Hp) : Exit → Act → World → Prop
 | .normal,a,w=>StM DD G nt ρ w0 k r a w
 | .exit id,a,w=>StM DD G nt ρ w0 (X id) r a w
 | .ret,a,w=>StM DD G nt ρ w0 kr r a w
 | _,_,_=>False
structure Iv (G : Gd) (ρ : Ren) (w0 : World) (D l : Nat) (rc : Loop) (ρ' : Ren) (h : Hp) (W : World) : Prop where
 ex : Ex G ρ ρ'
 hr : HR (GD (GD G D) l) ρ' h W
 kp : Kp G w0 W
 hl : W.heap[l]? = some (.loop rc)
 hD : W.heap[D]? = some (.deferred (some []))
def SS (G : Gd) (ρ : Ren) (w0 : World) (D l : Nat) (rc : Loop) (ds : List Deferred) (nt : Nat) (K : K) (r : DV × Hp) (a : Act) (W : World) : Prop :=
 ∃ ρ' env h,Iv G ρ w0 D l rc ρ' h W ∧ EnvR ρ' env a ∧ nt ≤ a.tmps.size ∧ a.defers = ds ∧ K env h = some r
def QS (G : Gd) (ρ : Ren) (w0 : World) (D l : Nat) (rc : Loop) (ds : List Deferred) (nt : Nat) (X : Nat → K) (kr k : K) (r : DV × Hp) : Exit → Act → World → Prop
 | .normal,a,w=>SS G ρ w0 D l rc ds nt k r a w
 | .exit id,a,w=>SS G ρ w0 D l rc ds nt (X id) r a w
 | .ret,a,w=>SS G ρ w0 D l rc ds nt kr r a w
 | _,_,_=>False
theorem Iv.step {ρ : Ren} {w0 : World} {D l : Nat} {rc : Loop} {ρ' ρ2 : Ren} {h h2 : Hp} {W W2 : World} (v : Iv G ρ w0 D l rc ρ' h W) (e : Ex (GD (GD G D) l) ρ' ρ2) (H : HR (GD (GD G D) l) ρ2 h2 W2) (k : Kp (GD (GD G D) l) W W2) : Iv G ρ w0 D l rc ρ2 h2 W2 where
 ex:=v.ex.trans e.ofGD.ofGD
 hr:=H
 kp:=v.kp.trans k.ofGD.ofGD
 hl:=by rw [k.ex l (.inr rfl)]; exact v.hl
 hD:=by rw [k.ex D (.inl (.inr rfl))]; exact v.hD
theorem kZ {ro : Option Nat} (K : OkC C rec) (hm : C.P.follows .mixedOrders = true) {ρ : Ren} {w0 : World} {D l : Nat} {rc : Loop} {ds : List Deferred} {nt : Nat} {X : Nat → Dd.K} {kr k : Dd.K} {r : DV × Hp} {a : Act} {W : World} (c : Code) (hc : eK c = true)
  (h : SS G ρ w0 D l rc ds nt (aM C rec nt n c X kr k) r a W) : c.wpIn (Fw ro) N C.P (QS G ρ w0 D l rc ds nt X kr k r) a W:=by
 obtain ⟨ρ',env,hp,v,he,hnt,hd,hk⟩:=h
 refine wpIn_mono (aYt (DD:=ds) (G:=GD (GD G D) l) (ρ := ρ') (w0:=W) K hm c hc X kr k a W ⟨ρ',env,hp,Ex.refl _ _,v.hr,he,Kp.refl _ _,hnt,hd,hk⟩) fun e a' w' hq => ?_
 cases e with
 | normal=>obtain ⟨ρ2,env2,h2,e1,e2,e3,e4,e5,e6,e7⟩:=hq; exact ⟨ρ2,env2,h2,v.step e1 e2 e4,e3,e5,e6,e7⟩
 | exit id=>obtain ⟨ρ2,env2,h2,e1,e2,e3,e4,e5,e6,e7⟩:=hq; exact ⟨ρ2,env2,h2,v.step e1 e2 e4,e3,e5,e6,e7⟩
 | ret=>obtain ⟨ρ2,env2,h2,e1,e2,e3,e4,e5,e6,e7⟩:=hq; exact ⟨ρ2,env2,h2,v.step e1 e2 e4,e3,e5,e6,e7⟩
 | goto l=>exact hq
 | panic ch=>exact hq
 | outgrown=>exact hq
theorem bIt {G : Gd} {ro : Option Nat} (K : OkC C rec) {nt : Nat} {DD : List Deferred} {ops : Array Oper} {Q : Exit → Act → World → Prop} {env' : bA} {h' : Hp} (hops : ∀ o ∈ ops.toList,fY o = true) (hQo : ¬ LetsOut Q) (rest : List Nat) : ∀ (l : List Oper) (i : Nat) (ρ : Ren) (env : bA) (h : Hp) (a : Act) (w : World),
  (∀ j : Nat,j < l.length → l[j]? = ops[i + j]?) → aBn C rec nt ops l env h env' h' → HR G ρ h w → EnvR ρ env a → nt ≤ a.tmps.size → a.defers = DD →
  (∀ ρ' a' w',Ex G ρ ρ' → HR G ρ' h' w' → EnvR ρ' env' a' → Kp G w w' → nt ≤ a'.tmps.size → a'.defers = DD → wpOpsIn (Fw ro) N C.P ops Q rest a' w') → wpOpsIn (Fw ro) N C.P ops Q (List.range' i l.length ++ rest) a w
 | [],i, ρ,env,h,a,w,_,hr,H,he,hnt,hd,hQ=>by
  obtain ⟨rfl,rfl⟩:=hr
  exact hQ ρ a w (Ex.refl G ρ) H he (Kp.refl G w) hnt hd
 | o :: os,i, ρ,env,h,a,w,hl,hr,H,he,hnt,hd,hQ=>by
  obtain ⟨hf,v,h1,hs,hr'⟩:=hr
  have hi : ops[i]? = some o:=by simpa using (hl 0 (by simp)).symm
  simp only [List.length_cons,List.range'_succ,List.cons_append]
  rw [wpOpsIn_cons]
  refine aIu (K:=fun a w=>wpOpsIn (Fw ro) N C.P ops Q (List.range' (i + 1) os.length ++ rest) a w) hops hQo (fun _ _ h=>h) (vX (xO K H he hs) rfl hi H fun ρ' w' v' h2 h3 h4 h5 => ?_)
  refine bIt (DD:=DD) K hops hQo rest os (i + 1) ρ' _ h1 _ w' (fun j hj => ?_) hr' h4 (he.put h2.ext h3 hf hnt) (by rw [mA]; exact hnt) (by rw [iW]; exact hd) fun ρ2 a2 w2 e1 e2 e3 e4 e5 e6 => ?_
  ·have:=hl (j + 1) (by simpa using hj)
   simpa [Nat.add_assoc,Nat.add_comm 1 j] using this
  ·exact hQ ρ2 a2 w2 (h2.trans e1) e2 e3 (h5.trans e4) e5 e6
theorem aPr {ro : Option Nat} (K : OkC C rec) {ρ : Ren} {w0 : World} {D l : Nat} {rc : Loop} {ds : List Deferred} {nt : Nat} {k : Dd.K} {r : DV × Hp} {a : Act} {W : World} {ops : Array Oper} {Q : Exit → Act → World → Prop} (hops : ∀ o ∈ ops.toList,fY o = true) (L : List Oper) (i : Nat) (hL : ∀ j : Nat,j < L.length → L[j]? = ops[i + j]?)
  (hQ : ¬ LetsOut Q) (h : SS G ρ w0 D l rc ds nt (gY C rec nt ops L k) r a W) (rest : List Nat) (hn : ∀ a W,SS G ρ w0 D l rc ds nt k r a W → wpOpsIn (Fw ro) N C.P ops Q rest a W) : wpOpsIn (Fw ro) N C.P ops Q (List.range' i L.length ++ rest) a W:=by
 obtain ⟨ρ',env,hp,v,he,hnt,hd,hk⟩:=h
 obtain ⟨env',h',hr,hk'⟩:=oE L k env hp r hk
 exact bIt (G:=GD (GD G D) l) (DD:=ds) K hops hQ rest L i ρ' env hp a W hL hr v.hr he hnt hd fun ρ2 a2 w2 e1 e2 e3 e4 e5 e6=>hn a2 w2 ⟨ρ2,env',h',v.step e1 e2 e4,e3,e5,e6,hk'⟩
end
end Go.Dd

namespace Go.Dd
open Go.RowKit (Below)
theorem bGh {P : Program} {o : Oper} {a : Act} {W : World} {t x p : Tmp} {tys : Array TypeId} {l : Nat} {rc : Loop} (ho : o.op = .call ⟨.value (.tmp t), #[.tmp x],tys⟩) (ht : a.eval (.tmp t) = .func (.yield l) #[] #[])
  (hl : W.heap[l]? = some (.loop rc)) (hp : rc.params = #[p]) : (execOp a.eval o).run P W = .ok (.round l rc.fn (rc.tmps.setIfInBounds p (a.eval (.tmp x))) rc.assign rc.body) W:=by
 have hy:=run_yield (P:=P) (args := #[a.eval (.tmp x)]) hl (by rw [hp]; rfl)
 rw [hp] at hy
 unfold execOp
 rw [ho]
 simp only [resolve,ht,Deferred.ofValue,Sem.run_bind,Sem.run_pure,Result.andThen,List.map_toArray,List.map_cons,List.map_nil]
 simp only [Array.map,List.map] at *
 simpa [invoke] using hy
section
variable {C : Cfg} {G : Gd} {rec : FuncId → List DV → Hp → aH} {n : Nat} {I : ItC} {N : Nat}
def pE (f : FuncId) (tmps : Array Value) (p : Tmp) (x y : Code) (D : Nat) (st : LoopState) (pe : Option Code) : Loop:={ state:=st,pending:=pe,fn:=f,tmps:=tmps,params := #[p],assign:=x,body:=y,defers:=D }
theorem Iv.put {ρ : Ren} {w0 : World} {D l : Nat} {rc : Loop} {ρ' : Ren} {h : Hp} {W : World} (v : Iv G ρ w0 D l rc ρ' h W) (rc' : Loop) (hD : D ≠ l) (hO : Own G l) (hs : ∀ k,G.X k → k < w0.heap.size) (hB : G.B ≤ w0.heap.size) : Iv G ρ w0 D l rc' ρ' h (W.putObj l (.loop rc')) where
 ex:=v.ex
 hr:=v.hr.putX hO.1 (.inr rfl) v.hl rfl rfl
 kp:=v.kp.putX hO hs hB v.hl
 hl:=World.putObj_heap_same (Array.getElem?_eq_some_iff.1 v.hl).1
 hD:=by rw [World.putObj_heap_other hD]; exact v.hD
def QI (G : Gd) (ρ : Ren) (w0 : World) (D l nt : Nat) (rc : LoopState → Option Code → Loop) (env : bA) (X : Nat → K) (kr k : K) (r : DV × Hp) : Exit → Act → World → Prop
 | .normal,a,w=>SS G ρ w0 D l (rc .ready none) [] nt (fun _ h=>k env h) r a w
 | .ret,a,w=>∃ c J,((c = .ret ∧ J = kr) ∨ ∃ i,c = .exit i ∧ J = X i) ∧ SS G ρ w0 D l (rc .done (some c)) [] nt (fun _ h=>J env h) r a w
 | _,_,_=>False
theorem ItC.ops_size (I : ItC) : I.ops.size = I.front.length + (I.back.length + 1):=by simp [ItC.ops]
theorem ItC.ops_front (I : ItC) (j : Nat) (h : j < I.front.length) : I.front[j]? = I.ops[0 + j]? := by
 simp [ItC.ops,List.getElem?_append_left h]
theorem ItC.ops_y (I : ItC) : I.ops[I.front.length]? = some I.y:=by simp [ItC.ops]
theorem ItC.ops_back (I : ItC) (j : Nat) (h : j < I.back.length) : I.back[j]? = I.ops[I.front.length + 1 + j]? := by
 simp only [ItC.ops,List.getElem?_toArray]
 rw [List.getElem?_append_right (by omega),show I.front.length + 1 + j - I.front.length = j + 1 by omega,List.getElem?_cons_succ]
theorem ItC.ops_range (I : ItC) : List.range I.ops.size = List.range' 0 I.front.length ++ I.front.length :: (List.range' (I.front.length + 1) I.back.length ++ []):=by
 rw [I.ops_size,List.range_eq_range',← List.range'_append_1,List.append_nil,Nat.zero_add,List.range'_succ]
section
variable {ρ : Ren} {w0 : World} {D l : Nat} {nt : Nat} {p : Tmp} {x y : Code} {f0 : FuncId} {a0 : Act} {env : bA} {X : Nat → Dd.K} {kr k : Dd.K} {r : DV × Hp} {b : Pos}
theorem bEo (K : OkC C rec) (hm : C.P.follows .mixedOrders = true) (iOk : ItOk C.P I) {rc : LoopState → Option Code → Loop} {kk : Dd.K} {Qr : Exit → Act → World → Prop} (hQr : ¬ LetsOut Qr)
  (ih : ∀ a W,SS G ρ w0 D l (rc .ready none) [] I.nt kk r a W → Qr .normal a W) {a : Act} {W : World}
  (h : SS G ρ w0 D l (rc .ready none) [] I.nt (gY C rec I.nt I.ops I.back (aM C rec I.nt n I.after lC cV (aM C rec I.nt n I.post lC cV (aM C rec I.nt n I.step lC cV kk)))) r a W) :
  wpOpsIn (Fw none) N C.P I.ops (Exit.then (I.after.wpIn (Fw none) N C.P (Exit.then (I.post.wpIn (Fw none) N C.P (Exit.inBlock I.b1 (Exit.then (I.step.wpIn (Fw none) N C.P Qr) Qr))) (Exit.inBlock I.b1 (Exit.then (I.step.wpIn (Fw none) N C.P Qr) Qr)))) (Exit.then (I.post.wpIn (Fw none) N C.P (Exit.inBlock I.b1 (Exit.then (I.step.wpIn (Fw none) N C.P Qr) Qr))) (Exit.inBlock I.b1 (Exit.then (I.step.wpIn (Fw none) N C.P Qr) Qr))))
   (List.range' (I.front.length + 1) I.back.length ++ []) a W:=by
 refine aPr K iOk.ops I.back (I.front.length + 1) (fun j hj=>I.ops_back j hj) ?_ h [] fun a1 W1 h1 => ?_
 ·rintro ⟨a,w,q⟩
  exact hQr ⟨a,w,q⟩
 show I.after.wpIn (Fw none) N C.P _ a1 W1
 refine wpIn_mono (kZ K hm I.after iOk.after h1) fun e a2 W2 hq => ?_
 cases e with
 | normal =>
  show I.post.wpIn (Fw none) N C.P _ a2 W2
  refine wpIn_mono (kZ K hm I.post iOk.post hq) fun e a3 W3 hq => ?_
  cases e with
  | normal =>
   show I.step.wpIn (Fw none) N C.P Qr a3 W3
   refine wpIn_mono (kZ K hm I.step iOk.step hq) fun e a4 W4 hq => ?_
   cases e with
   | normal=>exact ih a4 W4 hq
   | exit id=>obtain ⟨_,_,_,_,_,_,_,q⟩:=hq; cases q
   | ret=>obtain ⟨_,_,_,_,_,_,_,q⟩:=hq; cases q
   | goto l=>exact hq.elim
   | panic ch=>exact hq.elim
   | outgrown=>exact hq.elim
  | exit id=>obtain ⟨_,_,_,_,_,_,_,q⟩:=hq; cases q
  | ret=>obtain ⟨_,_,_,_,_,_,_,q⟩:=hq; cases q
  | goto l=>exact hq.elim
  | panic ch=>exact hq.elim
  | outgrown=>exact hq.elim
 | exit id=>obtain ⟨_,_,_,_,_,_,_,q⟩:=hq; cases q
 | ret=>obtain ⟨_,_,_,_,_,_,_,q⟩:=hq; cases q
 | goto l=>exact hq.elim
 | panic ch=>exact hq.elim
 | outgrown=>exact hq.elim
theorem aAd (K : OkC C rec) (hm : C.P.follows .mixedOrders = true) (iOk : ItOk C.P I) {rc : Loop} {J : Dd.K} {Qr : Exit → Act → World → Prop} (hQr : ¬ LetsOut Qr)
  (ih : ∀ a W,SS G ρ w0 D l rc [] I.nt J r a W → Qr .ret a W) {a : Act} {W : World}
  (h : SS G ρ w0 D l rc [] I.nt (gY C rec I.nt I.ops I.back (aM C rec I.nt n I.after lC J cV)) r a W) :
  wpOpsIn (Fw none) N C.P I.ops (Exit.then (I.after.wpIn (Fw none) N C.P (Exit.then (I.post.wpIn (Fw none) N C.P (Exit.inBlock I.b1 (Exit.then (I.step.wpIn (Fw none) N C.P Qr) Qr))) (Exit.inBlock I.b1 (Exit.then (I.step.wpIn (Fw none) N C.P Qr) Qr)))) (Exit.then (I.post.wpIn (Fw none) N C.P (Exit.inBlock I.b1 (Exit.then (I.step.wpIn (Fw none) N C.P Qr) Qr))) (Exit.inBlock I.b1 (Exit.then (I.step.wpIn (Fw none) N C.P Qr) Qr))))
   (List.range' (I.front.length + 1) I.back.length ++ []) a W:=by
 refine aPr K iOk.ops I.back (I.front.length + 1) (fun j hj=>I.ops_back j hj) ?_ h [] fun a1 W1 h1 => ?_
 ·rintro ⟨a,w,q⟩
  exact hQr ⟨a,w,q⟩
 show I.after.wpIn (Fw none) N C.P _ a1 W1
 refine wpIn_mono (kZ K hm I.after iOk.after h1) fun e a2 W2 hq => ?_
 cases e with
 | normal=>obtain ⟨_,_,_,_,_,_,_,q⟩:=hq; cases q
 | exit id=>obtain ⟨_,_,_,_,_,_,_,q⟩:=hq; cases q
 | ret=>exact ih a2 W2 hq
 | goto l=>exact hq.elim
 | panic ch=>exact hq.elim
 | outgrown=>exact hq.elim
end
end
end Go.Dd

namespace Go.Dd
open Go.RowKit (Below)
section
variable {C : Cfg} {G : Gd} {rec : FuncId → List DV → Hp → aH} {n : Nat} {I : ItC} {N : Nat}
variable {ρ : Ren} {w0 : World} {D l : Nat} {nt : Nat} {p : Tmp} {x y : Code} {f0 : FuncId} {a0 : Act} {env : bA} {X : Nat → Dd.K} {kr k : Dd.K} {r : DV × Hp} {b : Pos}
def aPa (C : Cfg) (rec : FuncId → List DV → Hp → aH) (n : Nat) (I : ItC) (nt : Nat) (p : Tmp) (x y : Code) (env : bA) (X : Nat → K) (kr k : K) (b : Pos) (kk : K) : K :=
 aM C rec I.nt n I.test (fun j=>bif Nat.beq j I.b0 then (fun _ h=>k env h) else cV) cV
  (gY C rec I.nt I.ops I.front (fun e1 h1=>cnd (ylB (e1 I.yt) b) (aGx C rec n I nt p x y env X kr kk e1 h1)))
theorem dAg {v : DV} {b : Pos} (h : ylB v b = true) : v = .yl b:=by
 unfold ylB at h
 split at h
 ·rename_i b'
  have : b' = b:=by simpa using h
  rw [this]
 ·cases h
theorem mJ {c : Bool} {q : aH} {z : DV × Hp} (h : cnd c q = some z) : c = true ∧ q = some z:=by
 cases c with
 | false=>cases h
 | true=>exact ⟨rfl,h⟩
theorem Iv.base {rc : Loop} {ρ' : Ren} {h : Hp} {W : World} (v : Iv G ρ w0 D l rc ρ' h W) : Iv G ρ' w0 D l rc ρ' h W:=⟨Ex.refl _ _,v.hr,v.kp,v.hl,v.hD⟩
theorem Iv.up {rc : Loop} {ρ' ρ2 : Ren} {h : Hp} {W : World} (v : Iv G ρ' w0 D l rc ρ2 h W) (e : Ex G ρ ρ') : Iv G ρ w0 D l rc ρ2 h W:=⟨e.trans v.ex,v.hr,v.kp,v.hl,v.hD⟩
theorem SS.out {rc : Loop} {ds : List Deferred} {nt : Nat} {a : Act} {W : World} (h : SS G ρ w0 D l rc ds nt cV r a W) : False:=by
 obtain ⟨_,_,_,_,_,_,_,q⟩:=h
 cases q
theorem cBm (K : OkC C rec) (hm : C.P.follows .mixedOrders = true) (iOk : ItOk C.P I) (hx : eK x = true) (hy : eK y = true) (hDl : D ≠ l) (hOl : Own G l) (hs : ∀ k,G.X k → k < w0.heap.size) (hB : G.B ≤ w0.heap.size)
  (hb : ρ b = some ⟨l,0,0,none⟩) (he0 : EnvR ρ env a0) (hnt0 : nt ≤ a0.tmps.size) :
  ∀ (m : Nat) (a : Act) (W : World),SS G ρ w0 D l (pE f0 a0.tmps p x y D .ready none) [] I.nt (aL (aPa C rec n I nt p x y env X kr k b) m) r a W →
   Code.roundsIn (Fw none) N C.P I.round (Exit.inBlock I.b0 (QI G ρ w0 D l I.nt (pE f0 a0.tmps p x y D) env X kr k r)) m a W:=by
 intro m
 induction m with
 | zero=>intro a W h; exact h.out.elim
 | succ m ih =>
  intro a W h
  rw [roundsIn_succ]
  change SS G ρ w0 D l _ [] I.nt (aPa C rec n I nt p x y env X kr k b (aL (aPa C rec n I nt p x y env X kr k b) m)) r a W at h
  refine wpIn_seq (wpIn_mono (kZ K hm I.test iOk.test h) fun e a1 W1 hq => ?_)
  cases e with
  | exit id =>
   obtain ⟨ρ',e',h',v,h2,h3,h4,h5⟩:=hq
   dsimp only at h5
   show Exit.inBlock I.b0 (QI G ρ w0 D l I.nt (pE f0 a0.tmps p x y D) env X kr k r) (.exit id) a1 W1
   cases hid : Nat.beq id I.b0 with
   | false=>rw [hid] at h5; cases h5
   | true =>
    rw [hid] at h5
    have e0 : id = I.b0:=Nat.eq_of_beq_eq_true hid
    unfold Exit.inBlock
    simp only
    rw [if_pos e0]
    exact ⟨ρ',e',h',v,h2,h3,h4,h5⟩
  | ret=>exact (SS.out hq).elim
  | goto l=>exact hq.elim
  | panic ch=>exact hq.elim
  | outgrown=>exact hq.elim
  | normal =>
   have hQr : ¬ LetsOut (Exit.then (Code.roundsIn (Fw none) N C.P I.round (Exit.inBlock I.b0 (QI G ρ w0 D l I.nt (pE f0 a0.tmps p x y D) env X kr k r)) m) (Exit.inBlock I.b0 (QI G ρ w0 D l I.nt (pE f0 a0.tmps p x y D) env X kr k r))):=fun ⟨_,_,q⟩=>q
   show (Code.seq _ _).wpIn (Fw none) N C.P _ a1 W1
   refine wpIn_seq (wpIn_block (wpIn_seq (wpIn_seq (wpIn_region ?_))))
   rw [I.ops_range]
   refine aPr K iOk.ops I.front 0 (fun j hj=>I.ops_front j hj) ?_ hq _ fun a2 W2 h2 => ?_
   ·rintro ⟨_,_,q⟩
    exact q
   obtain ⟨ρ',e1,h1,v,he,hnt,hd,hk⟩:=h2
   obtain ⟨hyl,hk⟩:=mJ hk
   obtain ⟨hfp,hk⟩:=mJ hk
   have hyv:=he I.yt
   rw [dAg hyl] at hyv
   obtain ⟨L,hL,hyv'⟩ : ∃ L, ρ' b = some L ∧ a2.tmps.getD I.yt undef = .func (.yield L.bl) #[] #[]:=by
    generalize hz : a2.tmps.getD I.yt undef = z at hyv
    cases hyv with
    | yl _ L h=>exact ⟨L,h,rfl⟩
   rw [v.ex.ext _ _ hb] at hL
   cases hL
   obtain ⟨tys,hop⟩:=iOk.op
   have hrun:=bGh (P:=C.P) (a:=a2) (W:=W2) hop hyv' v.hl rfl
   rw [wpOpsIn_cons]
   unfold wpOpIn
   rw [I.ops_y]
   have hw : Region.wanted I.y (yielded I.ops a2.tmps) = true:=by simp [Region.wanted,iOk.guard]
   simp only [hw,if_true]
   refine ⟨fun _ _=>trivial, ?_⟩
   show I.y.uponIn (Fw none) N C.P a2 _ _ ((execOp a2.eval I.y).run C.P W2)
   rw [hrun]
   refine ⟨fun e=>(by cases e),roundIn_of_wpIn (F:=Fw none) trivial ?_⟩
   have put : ∀ (rc' : Loop) {ρ1 ρ2 : Ren} {h2 : Hp} {W3 : World} {rc : Loop},Iv G ρ1 w0 D l rc ρ2 h2 W3 → Iv G ρ1 w0 D l rc' ρ2 h2 (W3.putObj l (.loop rc')):=fun rc' _ _ _ _ _ v=>v.put rc' hDl hOl hs hB
   have hass : SS G ρ' w0 D l (pE f0 a0.tmps p x y D .ready none) [] nt (aM C rec nt n x lC cV (aM C rec nt n y
     (fun i _ h2=>sN C rec n I false (fun _ h3=>X i env h3) cV e1 h2)
     (fun _ h2=>sN C rec n I false (fun _ h3=>kr env h3) cV e1 h2)
     (fun _ h2=>sN C rec n I true cV (aM C rec I.nt n I.post lC cV (aM C rec I.nt n I.step lC cV (aL (aPa C rec n I nt p x y env X kr k b) m))) e1 h2))) r
     { tmps:=a0.tmps.setIfInBounds p (a2.eval (.tmp I.yx)),defers:=[] } W2 :=
    ⟨ρ',bO env (some p) (e1 I.yx),h1,v.base,(he0.mono v.ex.ext).put (fun _ _ h=>h) (he I.yx) hfp hnt0,by simpa using hnt0,rfl,hk⟩
   refine wpIn_mono (kZ (ro:=some l) K hm x hx hass) fun e a3 W3 hq => ?_
   cases e with
   | exit id=>exact (SS.out hq).elim
   | ret=>exact (SS.out hq).elim
   | goto l=>exact hq.elim
   | panic ch=>exact hq.elim
   | outgrown=>exact hq.elim
   | normal =>
    obtain ⟨ρ3,e3,h3,v3,he3,hnt3,hd3,hk3⟩:=hq
    refine ⟨_,run_beginRound v3.hl rfl, ?_⟩
    have v4:=put (pE f0 a0.tmps p x y D .busy none) v3
    have key : ∀ (bb : Bool) (kr' k' : Dd.K) {ρ5 : Ren} {h5 : Hp} {W5 : World} {rc : Loop},Iv G ρ w0 D l rc ρ5 h5 W5 → Ext ρ' ρ5 → sN C rec n I bb kr' k' e1 h5 = some r →
      SS G ρ w0 D l rc [] I.nt (gY C rec I.nt I.ops I.back (aM C rec I.nt n I.after lC kr' k')) r (a2.put (some I.yd) (.bool bb)) W5:=by
     intro bb kr' k' ρ5 h5 W5 rc v5 hext hbk
     obtain ⟨hf5,hk5⟩:=mJ hbk
     exact ⟨ρ5,_,h5,v5,he.put hext (.b bb) hf5 hnt,by rw [mA]; exact hnt,by rw [iW]; exact hd,hk5⟩
    refine wpIn_mono (kZ (ro:=some l) K hm y hy ⟨ρ3,e3,h3,v4,he3,hnt3,hd3,hk3⟩) fun e a5 W5 hq => ?_
    cases e with
    | normal =>
     obtain ⟨ρ5,e5,h5,v5,he5,hnt5,hd5,hk5⟩:=hq
     refine ⟨_,_,run_endRound none v5.hl, ?_⟩
     show wpOpsIn (Fw none) N C.P I.ops _ _ (a2.put I.y.dst (.bool true)) _
     rw [iOk.dst]
     exact bEo K hm iOk hQr (fun a W h=>ih a W h) (key true _ _ ((put (pE f0 a0.tmps p x y D .ready none) v5).up v.ex) v5.ex.ext hk5)
    | exit i =>
     obtain ⟨ρ5,e5,h5,v5,he5,hnt5,hd5,hk5⟩:=hq
     refine ⟨_,_,run_endRound (some (.exit i)) v5.hl, ?_⟩
     show wpOpsIn (Fw none) N C.P I.ops _ _ (a2.put I.y.dst (.bool false)) _
     rw [iOk.dst]
     exact aAd K hm iOk hQr (fun a W h=>⟨_,X i,.inr ⟨i,rfl,rfl⟩,h⟩) (key false _ _ ((put (pE f0 a0.tmps p x y D .done (some (.exit i))) v5).up v.ex) v5.ex.ext hk5)
    | ret =>
     obtain ⟨ρ5,e5,h5,v5,he5,hnt5,hd5,hk5⟩:=hq
     refine ⟨_,_,run_endRound (some .ret) v5.hl, ?_⟩
     show wpOpsIn (Fw none) N C.P I.ops _ _ (a2.put I.y.dst (.bool false)) _
     rw [iOk.dst]
     exact aAd K hm iOk hQr (fun a W h=>⟨_,kr,.inl ⟨rfl,rfl⟩,h⟩) (key false _ _ ((put (pE f0 a0.tmps p x y D .done (some .ret)) v5).up v.ex) v5.ex.ext hk5)
    | goto l=>exact hq.elim
    | panic ch=>exact hq.elim
    | outgrown=>exact hq.elim
end
end Go.Dd

namespace Go.Dd
open Go.RowKit (Below)
section
variable {C : Cfg} {G : Gd} {rec : FuncId → List DV → Hp → aH} {n : Nat} {I : ItC} {N : Nat}
theorem mL {P : Program} {fn : Func} (h : fn.results = #[]) (tmps : Array Value) (w : World) : ∃ v,(results fn tmps).run P w = .ok v w:=by
 rw [pW,h]
 exact ⟨.tuple #[],by simp [go_sem]⟩
theorem bJl (K : OkC C rec) (hm : C.P.follows .mixedOrders = true) (iOk : ItOk C.P I) {DD : List Deferred} {nt : Nat} {ρ : Ren} {w0 : World} {g : Operand} {p : Tmp} {x y : Code} (hx : eK x = true) (hy : eK y = true)
  {X : Nat → Dd.K} {kr k : Dd.K} {r : DV × Hp} {a : Act} {w : World} (h : St DD G nt ρ w0 (nV C rec n I nt g p x y X kr k) r a w) :
  (Code.rangeFunc g #[p] x y).wpIn (Fw none) N C.P (QM DD G nt ρ w0 X kr k r) a w:=by
 obtain ⟨ρ1,env,h0,e1,H,he,kp,hnt,hd,hk⟩:=h
 unfold nV at hk
 split at hk <;> (try (cases hk; done))
 rename_i gf cap hg
 obtain ⟨hgf,hk2⟩:=mJ hk
 clear hk
 have hgf' : gf = I.gf:=Nat.eq_of_beq_eq_true hgf
 subst hgf'
 have hv:=aW he g
 rw [hg] at hv
 obtain ⟨lb,hlb,hge⟩ : ∃ lb,VRs ρ1 cap lb.toList ∧ a.eval g = .func (.func I.gf) #[] lb:=by
  generalize a.eval g = z at hv
  cases hv with
  | f _ _ _ x' y' h1 h2 =>
   refine ⟨y',h2, ?_⟩
   have : x' = #[]:=by
    obtain ⟨q⟩:=x'
    cases h1
    rfl
   rw [this]
 obtain ⟨fnI,hf,hb,hntI,hres,hname⟩:=iOk.fn
 refine wpIn_rangeFunc ?_
 intro fn _
 obtain ⟨W1,hW1⟩ : ∃ W1,(w.alloc (.deferred (some []))).alloc (.loop (pE fn a.tmps p x y w.heap.size .ready none)) = W1:=⟨_,rfl⟩
 have hL1 : W1.heap[w.heap.size + 1]? = some (.loop (pE fn a.tmps p x y w.heap.size .ready none)):=by
  rw [← hW1]
  have:=World.alloc_heap_new (w.alloc (.deferred (some []))) (.loop (pE fn a.tmps p x y w.heap.size .ready none))
  rwa [World.size_alloc] at this
 have hD1 : W1.heap[w.heap.size]? = some (.deferred (some [])):=by
  rw [← hW1]
  exact (Below.heap_alloc _ _ _ (by simp)).trans (World.alloc_heap_new w _)
 obtain ⟨iargs,hia⟩ : ∃ iargs : Array Value, #[Value.func (.yield (w.heap.size + 1)) #[] #[]] ++ lb = iargs:=⟨_,rfl⟩
 refine ⟨w.heap.size + 1,[{ target:=.collected w.heap.size,args := #[] }],W1,{ target:=.fn (.func I.gf) lb,args := #[Value.func (.yield (w.heap.size + 1)) #[] #[]] },W1,I.gf,
  iargs,W1, ?_, ?_,fun _ _=>trivial, ?_,fun e=>(by cases e), ?_⟩
 ·rw [← hW1]
  exact run_enterLoop_outer _ _ _ _ _
 ·simp only [resolve,hge]
  simp [go_sem]
 ·have hn : ¬ fnI.name = "runtime.NumGoroutine" := by simpa using hname
  unfold invoke
  simp only
  rw [hia]
  unfold callFunc
  simp [hf,hn,hb]
 ·
  have hno : ∀ b : Pos,h0.next.toNat ≤ b.toNat → ρ1 b = none:=fun b hb=>by
   cases e : ρ1 b with
   | none=>rfl
   | some L=>have:=H.lt b L e; omega
  obtain ⟨n1,n2⟩:=uE 2 h0
  have hN2 : (resv 2 h0).next.toNat = h0.next.toNat + 2:=by rw [n1,dX]
  have hsucc:=dXw h0.next
  have H1:=H.reserve 2
  have H2:=H1.earlyO (b:=h0.next.succ) (hno _ (by omega)) (by omega) (.deferred (some []))
  have hne : h0.next ≠ h0.next.succ:=fun e=>by have:=congrArg Pos.toNat e; omega
  have H3:=H2.earlyO (b:=h0.next) (by rw [aQ _ _ hne]; exact hno _ (Nat.le_refl _)) (by omega) (.loop (pE fn a.tmps p x y w.heap.size .ready none))
  rw [hW1] at H3
  obtain ⟨ρ2,hρ2⟩ : ∃ ρ2,lO (lO ρ1 h0.next.succ ⟨w.heap.size,0,0,none⟩) h0.next ⟨(w.alloc (.deferred (some []))).heap.size,0,0,none⟩ = ρ2:=⟨_,rfl⟩
  rw [hρ2] at H3
  have hb2 : ρ2 h0.next = some ⟨w.heap.size + 1,0,0,none⟩:=by rw [← hρ2,bP,World.size_alloc]
  have ex2 : Ex G ρ1 ρ2:=by
   refine ⟨fun b L hL => ?_,fun b L hL => ?_⟩
   ·have h1 : b ≠ h0.next:=fun e=>by rw [e,hno _ (Nat.le_refl _)] at hL; cases hL
    have h2 : b ≠ h0.next.succ:=fun e=>by rw [e,hno _ (by omega)] at hL; cases hL
    rw [← hρ2,aQ _ _ h1,aQ _ _ h2]
    exact hL
   ·have hx:=H.nx
    by_cases h1 : b = h0.next
    ·exact .inr (by rw [h1]; exact hx)
    ·by_cases h2 : b = h0.next.succ
     ·exact .inr (by rw [h2]; omega)
     ·rw [← hρ2,aQ _ _ h1,aQ _ _ h2] at hL
      exact .inl hL
  have H4 : HR (GD (GD G w.heap.size) (w.heap.size + 1)) ρ2 (resv 2 h0) W1:=H3.weak rfl (fun k hk=>by rw [World.size_alloc]; exact hk) (by have:=H.nx; show G.N ≤ (resv 2 h0).next.toNat; omega) rfl
  have kp1 : Kp G w W1:=by
   rw [← hW1]
   refine (dT H.sz _).trans (dT ⟨?_,fun k hk => ?_⟩ _)
   ·have:=H.sz.1; simp; omega
   ·have:=H.sz.2 k hk; simp; omega
  have hOD : Own G w.heap.size:=⟨H.sz.1,fun hX=>Nat.lt_irrefl _ (H.sz.2 _ hX)⟩
  have hOl : Own G (w.heap.size + 1):=⟨by have:=H.sz.1; omega,fun hX=>by have:=H.sz.2 _ hX; omega⟩
  have hbody : I.code.wpIn (Fw none) (N - 1) C.P (QI G ρ2 w w.heap.size (w.heap.size + 1) I.nt (pE fn a.tmps p x y w.heap.size) env X kr k r)
    { tmps:=iargs ++ Array.replicate (fnI.ntmps - iargs.size) undef,defers:=[] } W1:=by
   have hargs : VRs ρ2 (.yl h0.next :: cap) iargs.toList:=by
    rw [← hia]
    have:=VRs.cons (ρ := ρ2) _ _ _ _ (.yl h0.next _ hb2) (hlb.mono ex2.ext)
    simpa using this
   have hss : SS G ρ2 w w.heap.size (w.heap.size + 1) (pE fn a.tmps p x y w.heap.size .ready none) [] I.nt
     (aM C rec I.nt n I.pre lC cV (aL (aPa C rec n I nt p x y env X kr k h0.next) n)) r
     { tmps:=iargs ++ Array.replicate (fnI.ntmps - iargs.size) undef,defers:=[] } W1 :=
    ⟨ρ2,_,_,⟨Ex.refl _ _,H4,kp1,hL1,hD1⟩,aPe hargs _ _,by rw [hntI]; simp; omega,rfl,hk2⟩
   refine wpIn_seq (wpIn_mono (kZ K hm I.pre iOk.pre hss) fun e a1 W2 hq => ?_)
   cases e with
   | exit id=>exact (SS.out hq).elim
   | ret=>exact (SS.out hq).elim
   | goto l=>exact hq.elim
   | panic ch=>exact hq.elim
   | outgrown=>exact hq.elim
   | normal =>
    show (Code.block I.b0 (.loop I.round)).wpIn (Fw none) (N - 1) C.P _ a1 W2
    exact wpIn_block (wpIn_loop_rounds n (cBm K hm iOk hx hy (by omega) hOl H.sz.2 H.sz.1 hb2 (he.mono ex2.ext) hnt n a1 W2 hq))
  refine callsIn_of_wp hf hb trivial (wpIn_mono hbody fun e a' W' hq => ?_)
  have fin : ∀ (rc : Loop) (J : Dd.K),rc.state ≠ .busy → SS G ρ2 w w.heap.size (w.heap.size + 1) rc [] I.nt (fun _ h=>J env h) r a' W' →
    a'.defers = [] ∧ (Instr.endLoop (w.heap.size + 1)).run C.P W' = .ok rc.pending (W'.putObj (w.heap.size + 1) (.loop { rc with state:=.exhausted })) ∧
    StM DD G nt ρ w0 J r { a with defers:=[{ target:=.collected w.heap.size,args := #[] }] ++ a.defers } (W'.putObj (w.heap.size + 1) (.loop { rc with state:=.exhausted })):=by
   rintro rc J hst ⟨ρ',e',h',v,_,_,hd',hk'⟩
   have v':=v.put { rc with state:=.exhausted } (by omega) hOl H.sz.2 H.sz.1
   refine ⟨hd',run_endLoop v.hl hst,w.heap.size, ρ',env,h',e1.trans (ex2.trans v.ex),v'.hr.weak rfl (fun k hk=>.inl hk) (Nat.le_refl _) rfl,he.mono (ex2.trans v.ex).ext,kp.trans v'.kp,hnt, ?_,hOD,v'.hD,hk'⟩
   rw [← hd]
   rfl
  obtain ⟨vv,hvv⟩:=mL (P:=C.P) hres a'.tmps W'
  cases e with
  | normal =>
   obtain ⟨q1,q2,q3⟩:=fin _ k (by intro e; cases e) hq
   exact ⟨q1,vv,hvv,_,_,q2,q3⟩
  | ret =>
   obtain ⟨c,J,hcj,hss⟩:=hq
   obtain ⟨q1,q2,q3⟩:=fin _ J (by intro e; cases e) hss
   refine ⟨q1,vv,hvv,_,_,q2, ?_⟩
   rcases hcj with ⟨rfl,rfl⟩ | ⟨i,rfl,rfl⟩
   ·exact wpIn_ret q3
   ·exact wpIn_exit q3
  | exit id=>exact hq.elim
  | goto l=>exact hq.elim
  | panic ch=>exact hq.elim
  | outgrown=>exact hq.elim
end
end Go.Dd

namespace Go.Dd
open Go.RowKit (Below)
def cXw (ps : Array Tmp) (k : Tmp → K) : K:=match ps.toList with
 | [p]=>k p
 | _=>cV
section
variable (C : Cfg) (rec : FuncId → List DV → Hp → aH) (nt n : Nat) (I : ItC)
def pK (c : Code) : (Nat → K) → K → K → K :=
 Code.rec (motive:=fun _=>(Nat → K) → K → K → K)
  (fun _ _ k=>k)
  (fun _ ops dr _ _ k=>Bool.rec (motive:=fun _=>K) (gY C rec nt ops ops.toList k) (Bool.rec (motive:=fun _=>K) cV (iS C rec nt ops k) (fC C.P ops)) dr)
  (fun _ _ iha ihb X kr k=>iha X kr (ihb X kr k))
  (fun c _ _ iha ihb X kr k=>fun env h=>aT (opr env c) (iha X kr k env h) (ihb X kr k env h))
  (fun id _ ih X kr k=>ih (fun j=>bif Nat.beq j id then k else X j) kr k)
  (fun _ ih X kr _=>aL (fun kk=>ih X kr kk) n)
  (fun g ps x y _ _ X kr k=>cXw ps fun p=>nV C rec n I nt g p x y X kr k)
  (fun id X _ _=>X id)
  (fun _ _ _ _ _=>cV)
  (fun _ _ _ _=>cV)
  (fun _ _ _ _=>cV)
  (fun _ kr _=>kr)
  (fun _ _ _ _=>cV) c
def jU (f : FuncId) (args : List DV) (h : Hp) : aH :=
 match C.P.funcs[f]? with
 | some fn=>match fn.body with
  | some c=>pK C rec fn.ntmps n I c (fun _=>cV) (aR C fn) (aR C fn) (aJ args) h
  | none=>none
 | none=>none
end
def gP : Code → Bool
 | .skip=>true
 | .region _ ops _=>ops.toList.all fY
 | .seq x y=>gP x && gP y
 | .cond _ x y=>gP x && gP y
 | .block _ x=>gP x
 | .loop x=>gP x
 | .rangeFunc _ _ x y=>eK x && eK y
 | .exit _=>true
 | .ret=>true
 | _=>false
def GDs (G : Gd) (Ds : List Nat) : Gd:=⟨G.B,fun k=>G.X k ∨ k ∈ Ds,G.N,G.W,G.ok⟩
def mkD (D : Nat) : Deferred:={ target:=.collected D,args := #[] }
theorem Ex.ofGDs {G : Gd} {Ds : List Nat} {ρ ρ' : Ren} (h : Ex (GDs G Ds) ρ ρ') : Ex G ρ ρ':=⟨h.ext,h.new⟩
theorem Kp.ofGDs {G : Gd} {Ds : List Nat} {w w' : World} (h : Kp (GDs G Ds) w w') : Kp G w w':=⟨h.low,fun k hk=>h.ex k (.inl hk)⟩
section
variable {C : Cfg} {G : Gd} {rec : FuncId → List DV → Hp → aH} {nt n : Nat} {I : ItC}
def StL (G : Gd) (nt : Nat) (ρ : Ren) (w0 : World) (k : K) (r : DV × Hp) (a : Act) (w : World) : Prop :=
 ∃ Ds ρ' env h,Ex G ρ ρ' ∧ HR (GDs G Ds) ρ' h w ∧ EnvR ρ' env a ∧ Kp G w0 w ∧ nt ≤ a.tmps.size ∧ a.defers = Ds.map mkD ∧ Ds.Nodup ∧ (∀ D ∈ Ds,Own G D ∧ w.heap[D]? = some (.deferred (some []))) ∧ k env h = some r
def QL (G : Gd) (nt : Nat) (ρ : Ren) (w0 : World) (X : Nat → K) (kr k : K) (r : DV × Hp) : Exit → Act → World → Prop
 | .normal,a,w=>StL G nt ρ w0 k r a w
 | .exit id,a,w=>StL G nt ρ w0 (X id) r a w
 | .ret,a,w=>StL G nt ρ w0 kr r a w
 | _,_,_=>False
theorem bUa {N : Nat} (K : OkC C rec) (hm : C.P.follows .mixedOrders = true) (iOk : ItOk C.P I) {ρ : Ren} {w0 : World} {r : DV × Hp} : ∀ (c : Code),gP c = true → ∀ (X : Nat → Dd.K) (kr k : Dd.K) (a : Act) (w : World),
  StL G nt ρ w0 (pK C rec nt n I c X kr k) r a w → c.wpIn (Fw none) N C.P (QL G nt ρ w0 X kr k r) a w:=by
 have plain : ∀ (c : Code),eK c = true → ∀ (X : Nat → Dd.K) (kr k : Dd.K) (a : Act) (w : World),StL G nt ρ w0 (aM C rec nt n c X kr k) r a w → c.wpIn (Fw none) N C.P (QL G nt ρ w0 X kr k r) a w:=by
  rintro c hc X kr k a w ⟨Ds, ρ',env,h,e1,e2,e3,e4,e5,e6,e7,e8,e9⟩
  have back : ∀ (J : Dd.K) (a' : Act) (w' : World),St (Ds.map mkD) (GDs G Ds) nt ρ' w J r a' w' → StL G nt ρ w0 J r a' w':=by
   rintro J a' w' ⟨ρ2,env2,h2,q1,q2,q3,q4,q5,q6,q7⟩
   exact ⟨Ds, ρ2,env2,h2,e1.trans q1.ofGDs,q2,q3,e4.trans q4.ofGDs,q5,q6,e7,fun D hD=>⟨(e8 D hD).1,by rw [q4.ex D (.inr hD)]; exact (e8 D hD).2⟩,q7⟩
  refine wpIn_mono (aYt (DD:=Ds.map mkD) (G:=GDs G Ds) (ρ := ρ') (w0:=w) K hm c hc X kr k a w ⟨ρ',env,h,Ex.refl _ _,e2,e3,Kp.refl _ _,e5,e6,e9⟩) fun e a' w' hq => ?_
  cases e with
  | normal=>exact back _ _ _ hq
  | exit id=>exact back _ _ _ hq
  | ret=>exact back _ _ _ hq
  | goto l=>exact hq
  | panic ch=>exact hq
  | outgrown=>exact hq
 intro c
 induction c with
 | skip=>intro _ X kr k a w h; exact wpIn_skip h
 | region id ops dr=>intro hpc X kr k a w h; exact plain (.region id ops dr) hpc X kr k a w h
 | seq x y ihx ihy =>
  intro hpc X kr k a w h
  simp only [gP,Bool.and_eq_true] at hpc
  refine wpIn_seq (wpIn_mono (ihx hpc.1 X kr (pK C rec nt n I y X kr k) a w h) fun e a' w' hq => ?_)
  cases e with
  | normal=>exact ihy hpc.2 X kr k a' w' hq
  | exit id=>exact hq
  | ret=>exact hq
  | goto l=>exact hq
  | panic ch=>exact hq
  | outgrown=>exact hq
 | cond c x y ihx ihy =>
  intro hpc X kr k a w h
  simp only [gP,Bool.and_eq_true] at hpc
  obtain ⟨Ds, ρ',env,hp,h1,h2,h3,h4,h5,h6,h8,h9,h7⟩:=h
  change aT (opr env c) (pK C rec nt n I x X kr k env hp) (pK C rec nt n I y X kr k env hp) = some r at h7
  have hc:=aW h3 c
  unfold aT at h7
  split at h7 <;> (try (cases h7; done))
  ·rename_i hcb
   rw [hcb] at hc
   generalize hcv : a.eval c = cv at hc
   cases hc
   exact wpIn_cond_true hcv (ihx hpc.1 X kr k a w ⟨Ds, ρ',env,hp,h1,h2,h3,h4,h5,h6,h8,h9,h7⟩)
  ·rename_i hcb
   rw [hcb] at hc
   generalize hcv : a.eval c = cv at hc
   cases hc
   exact wpIn_cond_false hcv (ihy hpc.2 X kr k a w ⟨Ds, ρ',env,hp,h1,h2,h3,h4,h5,h6,h8,h9,h7⟩)
 | block id x ih =>
  intro hpc X kr k a w h
  refine wpIn_block (wpIn_mono (ih hpc (fun j=>bif Nat.beq j id then k else X j) kr k a w h) fun e a' w' hq => ?_)
  cases e with
  | normal=>exact hq
  | exit id' =>
   simp only [QL] at hq
   simp only [Exit.inBlock,QL]
   split
   ·rename_i e
    subst e
    have hb : Nat.beq id' id' = true:=Nat.beq_refl id'
    rw [hb] at hq
    exact hq
   ·rename_i e
    have : Nat.beq id' id = false:=by
     cases hb : Nat.beq id' id with
     | false=>rfl
     | true=>exact absurd (Nat.eq_of_beq_eq_true hb) e
    rw [this] at hq
    exact hq
  | ret=>exact hq
  | goto l=>exact hq
  | panic ch=>exact hq
  | outgrown=>exact hq
 | loop x ih =>
  intro hpc X kr k a w h
  have key : ∀ (m : Nat) (a : Act) (w : World),StL G nt ρ w0 (aL (fun kk=>pK C rec nt n I x X kr kk) m) r a w → Code.roundsIn (Fw none) N C.P x (QL G nt ρ w0 X kr k r) m a w:=by
   intro m
   induction m with
   | zero =>
    rintro a w ⟨Ds, ρ',env,hp,h1,h2,h3,h4,h5,h6,h8,h9,h7⟩
    cases h7
   | succ m ihm =>
    intro a w hs
    rw [roundsIn_succ]
    refine wpIn_mono (ih hpc X kr (aL (fun kk=>pK C rec nt n I x X kr kk) m) a w hs) fun e a' w' hq => ?_
    cases e with
    | normal=>exact ihm a' w' hq
    | exit id=>exact hq
    | ret=>exact hq
    | goto l=>exact hq
    | panic ch=>exact hq
    | outgrown=>exact hq
  exact wpIn_loop_rounds n (key n a w h)
 | rangeFunc g ps x y ihx ihy =>
  intro hpc X kr k a w h
  simp only [gP,Bool.and_eq_true] at hpc
  obtain ⟨Ds, ρ',env,hp,h1,h2,h3,h4,h5,h6,h8,h9,h7⟩:=h
  change cXw ps (fun p=>nV C rec n I nt g p x y X kr k) env hp = some r at h7
  obtain ⟨p,hps,h7⟩ : ∃ p,ps = #[p] ∧ nV C rec n I nt g p x y X kr k env hp = some r:=by
   unfold cXw at h7
   obtain ⟨l⟩:=ps
   match l,h7 with
   | [p],h7=>exact ⟨p,rfl,h7⟩
   | [],h7=>cases h7
   | _ :: _ :: _,h7=>cases h7
  subst hps
  have back : ∀ (J : Dd.K) (a' : Act) (w' : World),StM (Ds.map mkD) (GDs G Ds) nt ρ' w J r a' w' → StL G nt ρ w0 J r a' w':=by
   rintro J a' w' ⟨D, ρ2,env2,h2,q1,q2,q3,q4,q5,q6,q7,q8,q9⟩
   have hn : D ∉ Ds:=fun hD=>q7.2 (.inr hD)
   refine ⟨D :: Ds, ρ2,env2,h2,h1.trans q1.ofGDs,q2.weak rfl (fun k hk => ?_) (Nat.le_refl _) rfl,q3,h4.trans q4.ofGDs,q5,q6,List.nodup_cons.2 ⟨hn,h8⟩,fun E hE => ?_,q9⟩
   ·rcases hk with hk | hk
    ·exact .inl (.inl hk)
    ·rcases List.mem_cons.1 hk with rfl | hk
     ·exact .inr rfl
     ·exact .inl (.inr hk)
   ·rcases List.mem_cons.1 hE with rfl | hE
    ·exact ⟨⟨q7.1,fun hX=>q7.2 (.inl hX)⟩,q8⟩
    ·exact ⟨(h9 E hE).1,by rw [q4.ex E (.inr hE)]; exact (h9 E hE).2⟩
  refine wpIn_mono (bJl (DD:=Ds.map mkD) (G:=GDs G Ds) (ρ := ρ') (w0:=w) K hm iOk hpc.1 hpc.2 ⟨ρ',env,hp,Ex.refl _ _,h2,h3,Kp.refl _ _,h5,h6,h7⟩) fun e a' w' hq => ?_
  cases e with
  | normal=>exact back _ _ _ hq
  | exit id=>exact back _ _ _ hq
  | ret=>exact back _ _ _ hq
  | goto l=>exact hq
  | panic ch=>exact hq
  | outgrown=>exact hq
 | exit id=>intro _ X kr k a w h; exact wpIn_exit h
 | ret=>intro _ X kr k a w h; exact wpIn_ret h
 | _=>intro hpc; cases hpc
theorem bAw {N : Nat} {fn : Func} {ρ : Ren} {w0 : World} {v : DV} {h1 : Hp} {a : Act} : ∀ (Ds : List Nat) (w : World),(∃ ρ' env h,Ex G ρ ρ' ∧ HR (GDs G Ds) ρ' h w ∧ EnvR ρ' env a ∧ Kp G w0 w ∧ aR C fn env h = some (v,h1)) →
  G.B ≤ w0.heap.size → (∀ k,G.X k → k < w0.heap.size) → Ds.Nodup → (∀ D ∈ Ds,Own G D ∧ w.heap[D]? = some (.deferred (some []))) →
  LeavesInM (Fw none) N C.P fn a.tmps (kV G ρ w0 v h1) (Ds.map mkD) .returning w
 | [],w,⟨ρ',env,h,e1,e2,e3,e4,e5⟩,_,_,_,_=>by
  obtain ⟨rfl,v',r1,r2⟩:=aGg e2 e3 e5
  exact ⟨v',r1, ρ',v',rfl,e1,r2,e2.weak rfl (fun k hk=>.inl hk) (Nat.le_refl _) rfl,e4⟩
 | D :: Ds,w,⟨ρ',env,h,e1,e2,e3,e4,e5⟩,hB,hs,hnd,hD=>by
  obtain ⟨o1,o2⟩:=hD D (by simp)
  have hnd':=List.nodup_cons.1 hnd
  refine ⟨by simp,.inl ⟨D,_,rfl,run_takeDeferred o2, ?_⟩⟩
  refine bAw Ds _ ⟨ρ',env,h,e1,(e2.putX (l:=D) (o:=.deferred (some [])) (o':=.deferred none) o1.1 (.inr (by simp)) o2 rfl rfl).weak rfl (fun k hk => ?_) (Nat.le_refl _) rfl,e3,e4.putX o1 hs hB o2,e5⟩ hB hs hnd'.2 fun E hE => ?_
  ·rcases hk with hk | hk
   ·exact .inl hk
   ·exact .inr (List.mem_cons_of_mem _ hk)
  ·have hne : E ≠ D:=fun e=>hnd'.1 (by rw [← e]; exact hE)
   exact ⟨(hD E (List.mem_cons_of_mem _ hE)).1,by rw [World.putObj_heap_other hne]; exact (hD E (List.mem_cons_of_mem _ hE)).2⟩
theorem bLx (K : OkC C rec) (hP : POk C.P) (iOk : ItOk C.P I) (n : Nat) (f : FuncId) (hc : ∀ fn c,C.P.funcs[f]? = some fn → fn.body = some c → gP c = true) : gG C.P G f (jU C rec n I f):=by
 intro args h v h1 hr ρ w args' H hargs
 unfold jU at hr
 split at hr <;> (try (cases hr; done))
 rename_i fn hf
 split at hr <;> (try (cases hr; done))
 rename_i c hb
 refine .inl ⟨?_, ?_⟩
 ·unfold callFunc
  have hn : ¬ fn.name = "runtime.NumGoroutine" := by simpa using hP.names f fn hf
  simp [hf,hn,hb]
 ·refine (callsIn_wide (n:=3)).1 ?_
  show CallsIn (Fw none) 3 C.P f args' w _
  refine callsIn_of_wp_marks hf hb trivial ?_
  have he:=aPe hargs fn.ntmps []
  have hst : StL G fn.ntmps ρ w (pK C rec fn.ntmps n I c (fun _=>cV) (aR C fn) (aR C fn)) (v,h1) { tmps:=args' ++ Array.replicate (fn.ntmps - args'.size) undef,defers:=[] } w :=
   ⟨[], ρ,aJ args,h,Ex.refl G ρ,H.weak rfl (fun k hk=>by rcases hk with hk | hk; exact hk; cases hk) (Nat.le_refl _) rfl,he,Kp.refl G w,by simp; omega,rfl,List.nodup_nil,(by simp),hr⟩
  refine wpIn_mono (bUa K hP.mixed iOk c (hc fn c hf hb) _ _ _ _ _ hst) fun e a' w' hq => ?_
  have hfin : StL G fn.ntmps ρ w (aR C fn) (v,h1) a' w' → LeavesInM (Fw none) 3 C.P fn a'.tmps (kV G ρ w v h1) a'.defers .returning w':=by
   rintro ⟨Ds, ρ',env,h',e1,e2,e3,e4,e5,e6,e7,e8,e9⟩
   rw [e6]
   exact bAw Ds w' ⟨ρ',env,h',e1,e2,e3,e4,e9⟩ H.sz.1 H.sz.2 e7 e8
  cases e with
  | normal=>exact hfin hq
  | ret=>exact hfin hq
  | exit id =>
   obtain ⟨Ds, ρ',env,h',e1,e2,e3,e4,e5,e6,e7,e8,e9⟩:=hq
   cases e9
  | goto l=>exact hq.elim
  | panic ch=>exact hq.elim
  | outgrown=>exact hq.elim
end
end Go.Dd

namespace Go.Dd
noncomputable section
def WT.get (t : WT) : Nat → Int :=
 WT.rec (motive:=fun _=>Nat → Int) (fun _=>.ofNat 0)
  (fun _ v _ ihl ihr k=>bif Nat.beq k 0 then v else bif Nat.beq (Nat.mod k 2) 1 then ihl (Nat.div k 2) else ihr (Nat.div (Nat.sub k 1) 2)) t
def dYv (x : Int) (fuel : Nat) : Nat → WT → WT :=
 Nat.rec (motive:=fun _=>Nat → WT → WT) (fun _ t=>t)
  (fun _ ih k t=>WT.rec (motive:=fun _=>WT)
   (bif Nat.beq k 0 then .n .e x .e else bif Nat.beq (Nat.mod k 2) 1 then .n (ih (Nat.div k 2) .e) (.ofNat 0) .e else .n .e (.ofNat 0) (ih (Nat.div (Nat.sub k 1) 2) .e))
   (fun l v r _ _=>bif Nat.beq k 0 then .n l x r else bif Nat.beq (Nat.mod k 2) 1 then .n (ih (Nat.div k 2) l) v r else .n l v (ih (Nat.div (Nat.sub k 1) 2) r)) t) fuel
def WT.set (t : WT) (k : Nat) (x : Int) : WT:=dYv x 24 k t
theorem WT.get_e (k : Nat) : WT.e.get k = 0:=rfl
theorem dYo (l : WT) (v : Int) (r : WT) (k : Nat) : (WT.n l v r).get k = if k = 0 then v else if k % 2 = 1 then l.get (k / 2) else r.get ((k - 1) / 2):=by
 show (bif Nat.beq k 0 then v else bif Nat.beq (Nat.mod k 2) 1 then l.get (Nat.div k 2) else r.get (Nat.div (Nat.sub k 1) 2)) = _
 cases h0 : Nat.beq k 0 with
 | true=>have:=Nat.eq_of_beq_eq_true h0; subst this; rfl
 | false =>
  have n0 : k ≠ 0:=by intro e; subst e; cases h0
  rw [if_neg n0]
  cases h1 : Nat.beq (Nat.mod k 2) 1 with
  | true=>have : k % 2 = 1:=Nat.eq_of_beq_eq_true h1; rw [if_pos this]; rfl
  | false =>
   have n1 : k % 2 ≠ 1:=by intro e; have e' : Nat.mod k 2 = 1:=e; rw [e'] at h1; cases h1
   rw [if_neg n1]; rfl
theorem dZm (x : Int) (f k : Nat) (t : WT) : dYv x (f + 1) k t = match t with
  | .e=>if k = 0 then .n .e x .e else if k % 2 = 1 then .n (dYv x f (k / 2) .e) 0 .e else .n .e 0 (dYv x f ((k - 1) / 2) .e)
  | .n l v r=>if k = 0 then .n l x r else if k % 2 = 1 then .n (dYv x f (k / 2) l) v r else .n l v (dYv x f ((k - 1) / 2) r):=by
 have hb : ∀ {α : Type} (a b c : α),(bif Nat.beq k 0 then a else bif Nat.beq (Nat.mod k 2) 1 then b else c) = if k = 0 then a else if k % 2 = 1 then b else c:=by
  intro α a b c
  cases h0 : Nat.beq k 0 with
  | true=>have:=Nat.eq_of_beq_eq_true h0; subst this; rfl
  | false =>
   have n0 : k ≠ 0:=by intro e; subst e; cases h0
   rw [if_neg n0]
   cases h1 : Nat.beq (Nat.mod k 2) 1 with
   | true=>have : k % 2 = 1:=Nat.eq_of_beq_eq_true h1; rw [if_pos this]; rfl
   | false =>
    have n1 : k % 2 ≠ 1:=by intro e; have e' : Nat.mod k 2 = 1:=e; rw [e'] at h1; cases h1
    rw [if_neg n1]; rfl
 cases t with
 | e=>exact hb _ _ _
 | n l v r=>exact hb _ _ _
theorem dZg (x : Int) : ∀ (f k : Nat) (t : WT) (j : Nat),k + 1 < 2 ^ f → (dYv x f k t).get j = if j = k then x else t.get j
 | 0,k,t,j,h=>by simp at h
 | f + 1,k,t,j,h=>by
  have h2 : 2 ^ (f + 1) = 2 * 2 ^ f:=by rw [Nat.pow_succ]; omega
  have ih:=fun k t j (h : k + 1 < 2 ^ f)=>dZg x f k t j h
  rw [dZm]
  cases t with
  | e =>
   simp only
   split
   ·subst_vars
    rw [dYo]
    split
    ·rfl
    ·simp [WT.get_e]
   ·split
    ·rw [dYo]
     split
     ·subst_vars; rw [if_neg (by omega)]; rfl
     ·split
      ·rw [ih _ _ _ (by omega),WT.get_e,WT.get_e]
       by_cases hj : j = k
       ·rw [if_pos hj,if_pos (by omega)]
       ·rw [if_neg hj,if_neg (by omega)]
      ·rw [WT.get_e,if_neg (by omega)]; rfl
    ·rw [dYo]
     split
     ·subst_vars; rw [if_neg (by omega)]; rfl
     ·split
      ·rw [WT.get_e,if_neg (by omega)]; rfl
      ·rw [ih _ _ _ (by omega),WT.get_e,WT.get_e]
       by_cases hj : j = k
       ·rw [if_pos hj,if_pos (by omega)]
       ·rw [if_neg hj,if_neg (by omega)]
  | n l v r =>
   simp only
   split
   ·subst_vars
    rw [dYo,dYo]
    split
    ·rfl
    ·rfl
   ·split
    ·rw [dYo,dYo]
     split
     ·subst_vars; rw [if_neg (by omega)]
     ·split
      ·rw [ih _ _ _ (by omega)]
       by_cases hj : j = k
       ·rw [if_pos hj,if_pos (by omega)]
       ·rw [if_neg hj,if_neg (by omega)]
      ·rw [if_neg (by omega)]
    ·rw [dYo,dYo]
     split
     ·subst_vars; rw [if_neg (by omega)]
     ·split
      ·rw [if_neg (by omega)]
      ·rw [ih _ _ _ (by omega)]
       by_cases hj : j = k
       ·rw [if_pos hj,if_pos (by omega)]
       ·rw [if_neg hj,if_neg (by omega)]
theorem WT.get_set (t : WT) (k : Nat) (x : Int) (j : Nat) (h : k < 16000000) : (t.set k x).get j = if j = k then x else t.get j :=
 dZg x 24 k t j (by omega)
def iO (n : Nat) (t : WT) : List DV:=(List.range n).map fun i=>.i .i64 (t.get i)
def wE (g : Bool) : Ob → Ob → Prop
 | .big n t,o=>if g then o = .big n t else o = .row .ex (iO n t)
 | .mi t,o=>if g then o = .mi t else ∃ es,o = .mp es ∧ ∀ a : Int,fQ (.int .i64) (.i .i64 a) es = some (if 0 ≤ a ∧ t.get a.toNat ≠ 0 then some (.b true) else none)
 | o,o'=>o' = o
structure Sim (g : Bool) (h h' : Hp) : Prop where
 next : h'.next = h.next
 get : ∀ b o,h.bl.get b = some o → ∃ o',h'.bl.get b = some o' ∧ wE g o o'
def SimR (g : Bool) (r r' : aH) : Prop:=∀ v h,r = some (v,h) → ∃ h',r' = some (v,h') ∧ Sim g h h'
def SimP (g : Bool) (p p' : Hp → aH) : Prop:=∀ h h',Sim g h h' → SimR g (p h) (p' h')
variable {h h' : Hp} {g : Bool}
theorem Sim.row (S : Sim g h h') {b : Pos} {k : Kind} {l : List DV} (hb : h.bl.get b = some (.row k l)) : h'.bl.get b = some (.row k l):=by
 obtain ⟨o',h1,h2⟩:=S.get b _ hb
 rw [h1,show o' = .row k l from h2]
theorem Sim.it (S : Sim g h h') {b : Pos} {s : List Nat} {p : Nat} (hb : h.bl.get b = some (.it s p)) : h'.bl.get b = some (.it s p):=by
 obtain ⟨o',h1,h2⟩:=S.get b _ hb
 rw [h1,show o' = .it s p from h2]
theorem Sim.mp (S : Sim g h h') {b : Pos} {es : List (DV × DV)} (hb : h.bl.get b = some (.mp es)) : h'.bl.get b = some (.mp es):=by
 obtain ⟨o',h1,h2⟩:=S.get b _ hb
 rw [h1,show o' = .mp es from h2]
theorem Sim.set (S : Sim g h h') {o o' : Ob} (hr : wE g o o') (b n : Pos) : Sim g ⟨n,Tr.set o b h.bl⟩ ⟨n,Tr.set o' b h'.bl⟩:=by
 refine ⟨rfl,fun x ob hx => ?_⟩
 by_cases e : x = b
 ·subst e
  simp only [dXv,aU] at hx ⊢
  subst hx
  exact ⟨o',rfl,hr⟩
 ·simp only [dXu _ _ _ _ e] at hx ⊢
  exact S.get x ob hx
theorem Sim.setR (S : Sim g h h') (k : Kind) (l : List DV) (b n : Pos) : Sim g ⟨n,Tr.set (.row k l) b h.bl⟩ ⟨n,Tr.set (.row k l) b h'.bl⟩:=S.set (show wE g (.row k l) (.row k l) from rfl) b n
theorem Sim.setM (S : Sim g h h') (es : List (DV × DV)) (b n : Pos) : Sim g ⟨n,Tr.set (.mp es) b h.bl⟩ ⟨n,Tr.set (.mp es) b h'.bl⟩:=S.set (show wE g (.mp es) (.mp es) from rfl) b n
theorem Sim.setI (S : Sim g h h') (s : List Nat) (p : Nat) (b n : Pos) : Sim g ⟨n,Tr.set (.it s p) b h.bl⟩ ⟨n,Tr.set (.it s p) b h'.bl⟩:=S.set (show wE g (.it s p) (.it s p) from rfl) b n
theorem Sim.new (S : Sim g h h') {o o' : Ob} (hr : wE g o o') : Sim g ⟨h.next.succ,Tr.set o h.next h.bl⟩ ⟨h'.next.succ,Tr.set o' h'.next h'.bl⟩:=by
 rw [S.next]; exact S.set hr _ _
theorem SimR.none (r : aH) : SimR g none r:=fun v h e=>by cases e
theorem SimR.some (S : Sim g h h') (v : DV) : SimR g (some (v,h)) (some (v,h')):=fun u k e=>by
 simp only [aU,bG] at e
 obtain ⟨rfl,rfl⟩:=e
 exact ⟨h',rfl,S⟩
theorem dXy {F : Hp → aH} (hF : PureP F) : SimP g F F:=fun h h' S v k e=>by
 obtain ⟨rfl,h2⟩:=hF h v k e
 exact ⟨h',h2 h',S⟩
theorem Sim.rowOf (S : Sim g h h') {b : Pos} {l : List DV} (hb : rowOf b h = some l) : rowOf b h' = some l:=by
 unfold Dd.rowOf at hb ⊢
 split at hb <;> (try (cases hb; done))
 rename_i k l0 h0
 rw [S.row h0]; exact hb
theorem Sim.cellsAt (S : Sim g h h') {b : Pos} {o n : Nat} {cs : List DV} (hb : cellsAt b o n h = some cs) : cellsAt b o n h' = some cs:=by
 unfold Dd.cellsAt at hb ⊢
 split at hb <;> (try (cases hb; done))
 rename_i l h0
 rw [S.rowOf h0]; exact hb
theorem Sim.cellD (S : Sim g h h') {b : Pos} {o : Nat} {v : DV} (hb : cellD b o h = some v) : cellD b o h' = some v:=by
 unfold Dd.cellD at hb ⊢
 split at hb <;> (try (cases hb; done))
 rename_i l h0
 rw [S.rowOf h0]; exact hb
theorem Sim.storeAt (S : Sim g h h') {b : Pos} {o : Nat} {vs : List DV} {k : Hp} (hb : cE b o vs h = some k) : ∃ k',cE b o vs h' = some k' ∧ Sim g k k':=by
 unfold cE at hb ⊢
 split at hb <;> (try (cases hb; done))
 rename_i kd l h0
 rw [S.row h0]
 dsimp only
 split at hb <;> (try (cases hb; done))
 rename_i hw
 rw [if_pos hw]
 split at hb <;> (try (cases hb; done))
 rename_i l' hp
 simp only [aU] at hb
 subst hb
 try simp only [hp]
 exact ⟨_,rfl,by rw [S.next]; exact S.set (show wE g (.row kd l') (.row kd l') from rfl) _ _⟩
theorem aJr (cs : List DV) : SimP g (bY cs) (bY cs):=fun h h' S v k e=>by
 simp only [bY,aU,bG] at e ⊢
 obtain ⟨rfl,rfl⟩:=e
 exact ⟨_,⟨by rw [S.next],rfl⟩,S.new rfl⟩
theorem aCp (b : Pos) (cs : List DV) : SimP g (mW b cs) (mW b cs):=fun h h' S v k e=>by
 simp only [mW,aU,bG] at e ⊢
 obtain ⟨rfl,rfl⟩:=e
 exact ⟨_,⟨rfl,rfl⟩,by rw [S.next]; first | exact S.setR _ _ _ _ | exact S.setM _ _ _ | exact S.setI _ _ _ _⟩
theorem cLl (x : DV) : SimP g (dA x) (dA x):=by
 unfold dA
 cases dD x with
 | none=>exact fun h h' S=>SimR.none _
 | some cs=>exact aJr cs
theorem bHl (b : Pos) (x : DV) : SimP g (yY b x) (yY b x):=by
 unfold yY
 cases dD x with
 | none=>exact fun h h' S=>SimR.none _
 | some cs=>exact aCp b cs
theorem lT (x : DV) : SimP g (aA x) (aA x):=fun h h' S v k e=>by
 unfold aA at e ⊢
 split at e <;> (try (cases e; done))
 split at e <;> (try (cases e; done))
 rename_i hc
 simp only [aU,bG] at e
 obtain ⟨rfl,rfl⟩:=e
 simp only [S.cellD hc]
 exact ⟨_,rfl,S⟩
theorem lP (n : Nat) (x : DV) : SimP g (aK n x) (aK n x):=fun h h' S v k e=>by
 unfold aK at e ⊢
 split at e <;> (try (cases e; done))
 split at e <;> (try (cases e; done))
 rename_i hc
 simp only [aU,bG] at e
 obtain ⟨rfl,rfl⟩:=e
 simp only [S.cellsAt hc]
 exact ⟨_,rfl,S⟩
theorem mI (n : Nat) (x y : DV) : SimP g (aG n x y) (aG n x y):=fun h h' S v k e=>by
 unfold aG at e ⊢
 split at e <;> (try (cases e; done))
 rename_i b o cs hc
 try rw [hc]
 try dsimp only
 split at e <;> (try (cases e; done))
 rename_i hn
 rw [if_pos hn]
 split at e <;> (try (cases e; done))
 rename_i k0 hs
 simp only [aU,bG] at e
 obtain ⟨rfl,rfl⟩:=e
 obtain ⟨k',h1,h2⟩:=S.storeAt hs
 try simp only [h1]
 exact ⟨_,rfl,h2⟩
theorem bEx (size : Nat) (x : DV) (lo hi : Option DV) : SimP g (dF size x lo hi) (dF size x lo hi):=fun h h' S v k e=>by
 unfold dF at e ⊢
 split at e <;> (try (cases e; done))
 ·split at e <;> (try (cases e; done))
  rename_i en he
  try simp only [he]
  split at e <;> (try (cases e; done))
  rename_i s hs
  try simp only [hs]
  split at e <;> (try (cases e; done))
  ·rename_i l0 hb
   rw [S.row hb]
   simp only [aU,bG] at e
   obtain ⟨rfl,rfl⟩:=e
   exact ⟨_,rfl,S⟩
  ·rename_i l0 hb
   rw [S.row hb]
   simp only [aU,bG] at e
   obtain ⟨rfl,rfl⟩:=e
   exact ⟨_,rfl,S⟩
  ·rename_i k0 l0 n1 n2 hb
   rw [S.row hb]
   cases k0 with
   | ro=>exact absurd rfl n1
   | ex=>exact absurd rfl n2
   | gr es =>
    dsimp only
    split at e
    ·rename_i hcs
     simp only [aU,bG] at e
     obtain ⟨rfl,rfl⟩:=e
     rw [if_pos hcs]
     exact ⟨_,rfl,S⟩
    ·rename_i hcs
     simp only [aU,bG] at e
     obtain ⟨rfl,rfl⟩:=e
     rw [if_neg hcs]
     exact ⟨_,rfl,S⟩
   | sp =>
    dsimp only
    split at e
    ·rename_i hcs
     simp only [aU,bG] at e
     obtain ⟨rfl,rfl⟩:=e
     rw [if_pos hcs]
     exact ⟨_,rfl,S⟩
    ·rename_i hcs
     simp only [aU,bG] at e
     obtain ⟨rfl,rfl⟩:=e
     rw [if_neg hcs]
     exact ⟨_,rfl,S⟩
 all_goals
  split at e <;> (try (cases e; done))
  rename_i en he
  try simp only [he]
  split at e <;> (try (cases e; done))
  rename_i s hs
  try simp only [hs]
  simp only [aU,bG] at e
  obtain ⟨rfl,rfl⟩:=e
  exact ⟨_,rfl,S⟩
theorem aSm (x : DV) (lo : Option DV) (hi mx : DV) : SimP g (oU x lo hi mx) (oU x lo hi mx):=fun h h' S v k e=>by
 unfold oU at e ⊢
 split at e <;> (try (cases e; done))
 all_goals
  split at e <;> (try (cases e; done))
 ·rename_i m e1
  try simp only [e1]
  split at e <;> (try (cases e; done))
  rename_i n e2
  try simp only [e2]
  simp only [aU,bG] at e
  obtain ⟨rfl,rfl⟩:=e
  exact ⟨_,rfl,S⟩
 ·rename_i m e1
  try simp only [e1]
  split at e <;> (try (cases e; done))
  rename_i n e2
  try simp only [e2]
  simp only [aU,bG] at e
  obtain ⟨rfl,rfl⟩:=e
  exact ⟨_,rfl,S⟩
 ·rename_i n1 n2 e1 e2
  try simp only [e1,e2]
  simp only [aU,bG] at e
  obtain ⟨rfl,rfl⟩:=e
  exact ⟨_,rfl,S⟩
 ·rename_i n1 n2 e1 e2
  try simp only [e1,e2]
  simp only [aU,bG] at e
  obtain ⟨rfl,rfl⟩:=e
  exact ⟨_,rfl,S⟩
theorem bEm (x : DV) : SimP g (eZ x) (eZ x):=fun h h' S v k e=>by
 unfold eZ at e ⊢
 split at e <;> (try (cases e; done))
 ·simp only [aU,bG] at e
  obtain ⟨rfl,rfl⟩:=e
  exact ⟨_,rfl,S⟩
 ·split at e <;> (try (cases e; done))
  rename_i cs hc
  simp only [S.cellsAt hc]
  split at e <;> (try (cases e; done))
  rename_i l hl
  try simp only [hl]
  simp only [aU,bG] at e
  obtain ⟨rfl,rfl⟩:=e
  exact ⟨_,rfl,S⟩
theorem aAg (z : List DV) (n : Nat) (ps : List (Nat × Nat × DV)) : SimP g (aO z n ps) (aO z n ps):=fun h h' S v k e=>by
 unfold aO at e ⊢
 split at e <;> (try (cases e; done))
 rename_i cs hf
 try simp only [hf]
 simp only [aU,bG] at e ⊢
 obtain ⟨rfl,rfl⟩:=e
 exact ⟨_,⟨by rw [S.next],rfl⟩,S.new rfl⟩
theorem uP (b : Pos) (z : List DV) (n : Nat) (ps : List (Nat × Nat × DV)) : SimP g (cS b z n ps) (cS b z n ps):=fun h h' S v k e=>by
 unfold cS at e ⊢
 split at e <;> (try (cases e; done))
 rename_i cs hf
 try simp only [hf]
 simp only [aU,bG] at e ⊢
 obtain ⟨rfl,rfl⟩:=e
 exact ⟨_,⟨rfl,rfl⟩,by rw [S.next]; first | exact S.setR _ _ _ _ | exact S.setM _ _ _ | exact S.setI _ _ _ _⟩
theorem aMk : SimP g dW dW:=fun h h' S v k e=>by
 simp only [dW,aU,bG] at e ⊢
 obtain ⟨rfl,rfl⟩:=e
 exact ⟨_,⟨by rw [S.next],rfl⟩,S.new rfl⟩
theorem Sim.entries (S : Sim g h h') {x : DV} {es : List (DV × DV)} (he : hU x h = some es) : hU x h' = some es:=by
 unfold hU at he ⊢
 split at he <;> (try (cases he; done))
 ·exact he
 ·split at he <;> (try (cases he; done))
  rename_i hb
  rw [S.mp hb]; exact he
theorem zQ (d : TypeDesc) (z : DV) (ok : Bool) (x key : DV) : SimP g (eH d z ok x key) (eH d z ok x key):=fun h h' S v k e=>by
 unfold eH at e ⊢
 split at e <;> (try (cases e; done))
 rename_i es he
 simp only [S.entries he]
 split at e <;> (try (cases e; done))
 all_goals
  rename_i hf
  try simp only [hf]
  simp only [aU,bG] at e
  obtain ⟨rfl,rfl⟩:=e
  exact ⟨_,rfl,S⟩
theorem aBk (d : TypeDesc) (x key y : DV) : SimP g (dS d x key y) (dS d x key y):=fun h h' S v k e=>by
 unfold dS at e ⊢
 split at e <;> (try (cases e; done))
 split at e <;> (try (cases e; done))
 rename_i b _ es hb
 rw [S.mp hb]
 dsimp only
 split at e <;> (try (cases e; done))
 rename_i hf
 try simp only [hf]
 simp only [aU,bG] at e
 obtain ⟨rfl,rfl⟩:=e
 exact ⟨_,rfl,by rw [S.next]; first | exact S.setR _ _ _ _ | exact S.setM _ _ _ | exact S.setI _ _ _ _⟩
theorem aLq (d : TypeDesc) (z x key : DV) : SimP g (jC d z x key) (jC d z x key):=fun h h' S v k e=>by
 unfold jC at e ⊢
 split at e <;> (try (cases e; done))
 split at e <;> (try (cases e; done))
 rename_i b _ es hb
 rw [S.mp hb]
 dsimp only
 split at e <;> (try (cases e; done))
 all_goals
  rename_i hf
  try simp only [hf]
  simp only [aU,bG] at e
  obtain ⟨rfl,rfl⟩:=e
  exact ⟨_,rfl,by rw [S.next]; first | exact S.setR _ _ _ _ | exact S.setM _ _ _ | exact S.setI _ _ _ _⟩
theorem aBy (x s y : DV) : SimP g (fX x s y) (fX x s y):=fun h h' S v k e=>by
 unfold fX at e ⊢
 split at e <;> (try (cases e; done))
 split at e <;> (try (cases e; done))
 rename_i es hb
 rw [S.mp hb]
 dsimp only
 split at e <;> (try (cases e; done))
 rename_i hf
 try simp only [hf]
 simp only [aU,bG] at e
 obtain ⟨rfl,rfl⟩:=e
 exact ⟨_,rfl,by rw [S.next]; first | exact S.setR _ _ _ _ | exact S.setM _ _ _ | exact S.setI _ _ _ _⟩
theorem aCh (size bytes : Nat) (z : List DV) (n c : DV) : SimP g (bU size bytes z n c) (bU size bytes z n c):=fun h h' S v k e=>by
 unfold bU at e ⊢
 split at e <;> (try (cases e; done))
 split at e <;> (try (cases e; done))
 rename_i hc
 rw [if_pos hc]
 simp only [aU,bG] at e ⊢
 obtain ⟨rfl,rfl⟩:=e
 exact ⟨_,⟨by rw [S.next],rfl⟩,S.new rfl⟩
theorem bIj (z : List DV) (x : DV) : SimP g (kG z x) (kG z x):=fun h h' S v k e=>by
 unfold kG at e ⊢
 split at e <;> (try (cases e; done))
 ·simp only [aU,bG] at e
  obtain ⟨rfl,rfl⟩:=e
  exact ⟨_,rfl,S⟩
 ·simp only [aU,bG] at e
  obtain ⟨rfl,rfl⟩:=e
  exact ⟨_,rfl,S⟩
 ·split at e
  ·rename_i hn
   simp only [aU,bG] at e
   obtain ⟨rfl,rfl⟩:=e
   simp only [hn,if_true]
   exact ⟨_,rfl,S⟩
  ·rename_i hn
   rw [if_neg hn]
   split at e <;> (try (cases e; done))
   rename_i k0 hs
   simp only [aU,bG] at e
   obtain ⟨rfl,rfl⟩:=e
   obtain ⟨k',h1,h2⟩:=S.storeAt hs
   try simp only [h1]
   exact ⟨_,rfl,h2⟩
theorem Sim.src (S : Sim g h h') {size : Nat} {x : DV} {r : Nat × List DV} (hs : lM size x h = some r) : lM size x h' = some r:=by
 unfold lM at hs ⊢
 split at hs <;> (try (cases hs; done))
 ·exact hs
 ·exact hs
 ·split at hs <;> (try (cases hs; done))
  rename_i hc
  simp only [S.cellsAt hc]; exact hs
 ·split at hs <;> (try (cases hs; done))
  rename_i hc
  simp only [S.cellsAt hc]; exact hs
 ·exact hs
theorem aVm (size bytes : Nat) (s x : DV) : SimP g (bB size bytes s x) (bB size bytes s x):=fun h h' S v k e=>by
 unfold bB at e ⊢
 split at e <;> (try (cases e; done))
 rename_i n new hs
 simp only [S.src hs]
 split at e <;> (try (cases e; done))
 ·split at e
  ·rename_i hn
   rw [if_pos hn]
   simp only [aU,bG] at e
   obtain ⟨rfl,rfl⟩:=e
   exact ⟨_,rfl,S⟩
  ·rename_i hn
   rw [if_neg hn]
   split at e <;> (try (cases e; done))
   rename_i hr
   rw [if_pos hr]
   simp only [aU,bG] at e ⊢
   obtain ⟨rfl,rfl⟩:=e
   exact ⟨_,⟨by rw [S.next],rfl⟩,S.new rfl⟩
 ·split at e <;> (try (cases e; done))
  rename_i hn
  rw [if_pos hn]
  simp only [aU,bG] at e
  obtain ⟨rfl,rfl⟩:=e
  exact ⟨_,rfl,S⟩
 ·rename_i b o len cap
  split at e
  ·rename_i hle
   rw [if_pos hle]
   split at e <;> (try (cases e; done))
   rename_i k0 hst
   simp only [aU,bG] at e
   obtain ⟨rfl,rfl⟩:=e
   obtain ⟨k',h1,h2⟩:=S.storeAt hst
   try simp only [h1]
   exact ⟨_,rfl,h2⟩
  ·rename_i hle
   rw [if_neg hle]
   split at e <;> (try (cases e; done))
   rename_i k0 l old hb hold
   rw [S.row hb,S.cellsAt hold]
   dsimp only
   split at e <;> (try (cases e; done))
   rename_i hroom
   rw [if_pos hroom]
   split at e <;> (try (cases e; done))
   ·simp only [aU,bG] at e ⊢
    obtain ⟨rfl,rfl⟩:=e
    exact ⟨_,⟨by rw [S.next],rfl⟩,S.new rfl⟩
   ·simp only [aU,bG] at e ⊢
    obtain ⟨rfl,rfl⟩:=e
    exact ⟨_,⟨by rw [S.next],rfl⟩,S.new rfl⟩
   ·split at e <;> (try (cases e; done))
    rename_i hes
    rw [if_pos hes]
    simp only [aU,bG] at e ⊢
    obtain ⟨rfl,rfl⟩:=e
    refine ⟨_,⟨by rw [S.next],rfl⟩, ?_⟩
    have S1 : Sim g ⟨h.next,Tr.set (.row .sp (bR o l)) b h.bl⟩ ⟨h'.next,Tr.set (.row .sp (bR o l)) b h'.bl⟩:=by
     rw [S.next]; exact S.set (show wE g (.row .sp (bR o l)) (.row .sp (bR o l)) from rfl) _ _
    exact S1.new rfl
 ·rename_i b o len cap
  split at e
  ·rename_i hn
   rw [if_pos hn]
   split at e <;> (try (cases e; done))
   rename_i hc
   rw [if_pos hc]
   simp only [aU,bG] at e
   obtain ⟨rfl,rfl⟩:=e
   exact ⟨_,rfl,S⟩
  ·rename_i hn
   rw [if_neg hn]
   split at e <;> (try (cases e; done))
   rename_i hc
   rw [if_neg hc]
   split at e <;> (try (cases e; done))
   rename_i old hold
   simp only [S.cellsAt hold]
   split at e <;> (try (cases e; done))
   rename_i hr
   rw [if_pos hr]
   simp only [aU,bG] at e ⊢
   obtain ⟨rfl,rfl⟩:=e
   exact ⟨_,⟨by rw [S.next],rfl⟩,S.new rfl⟩
theorem bLd (size : Nat) (x y : DV) : SimP g (rJ size x y) (rJ size x y):=fun h h' S v k e=>by
 unfold rJ at e ⊢
 split at e <;> (try (cases e; done))
 split at e <;> (try (cases e; done))
 rename_i n new hs
 simp only [S.src hs]
 split at e <;> (try (cases e; done))
 rename_i hn
 rw [if_pos hn]
 split at e <;> (try (cases e; done))
 rename_i k0 hst
 simp only [aU,bG] at e
 obtain ⟨rfl,rfl⟩:=e
 obtain ⟨k',h1,h2⟩:=S.storeAt hst
 try simp only [h1]
 exact ⟨_,rfl,h2⟩
theorem aRc (x : DV) : SimP g (oQ x) (oQ x):=fun h h' S v k e=>by
 unfold oQ at e ⊢
 split at e <;> (try (cases e; done))
 simp only [aU,bG] at e ⊢
 obtain ⟨rfl,rfl⟩:=e
 exact ⟨_,⟨by rw [S.next],rfl⟩,S.new rfl⟩
theorem bHt (x : DV) : SimP g (tG x) (tG x):=fun h h' S v k e=>by
 unfold tG at e ⊢
 split at e <;> (try (cases e; done))
 simp only [aU,bG] at e ⊢
 obtain ⟨rfl,rfl⟩:=e
 exact ⟨_,⟨by rw [S.next],rfl⟩,S.new rfl⟩
theorem bWc (x : DV) : SimP g (aDe x) (aDe x):=fun h h' S v k e=>by
 unfold aDe at e ⊢
 split at e <;> (try (cases e; done))
 split at e <;> (try (cases e; done))
 rename_i b _ l pos hb
 rw [S.it hb]
 dsimp only
 split at e
 ·rename_i c hc
  try simp only [hc]
  split at e <;> (try (cases e; done))
  rename_i hlt
  rw [if_pos hlt]
  simp only [aU,bG] at e ⊢
  obtain ⟨rfl,rfl⟩:=e
  exact ⟨_,⟨rfl,rfl⟩,by rw [S.next]; first | exact S.setR _ _ _ _ | exact S.setM _ _ _ | exact S.setI _ _ _ _⟩
 ·rename_i hc
  try simp only [hc]
  simp only [aU,bG] at e ⊢
  obtain ⟨rfl,rfl⟩:=e
  exact ⟨_,⟨rfl,rfl⟩,S⟩
end
end Go.Dd

namespace Go.Dd
theorem SimP.none {gg : Bool} (p : Hp → aH) : SimP gg (fun _=>Option.none) p:=fun h h' S=>SimR.none _
theorem SimP.val {gg : Bool} (v : DV) : SimP gg (fun h=>some (v,h)) (fun h=>some (v,h)):=fun h h' S=>SimR.some S v
section
variable {gg : Bool} {P : Program} {I2 I1 : FuncId → Option (List DV → Hp → aH)} {rec2 rec1 : FuncId → List DV → Hp → aH}
theorem aNn (b : Builtin) (ts : List TypeId) (args : List DV) : SimP gg (kN ⟨P,I2⟩ b ts args) (kN ⟨P,I1⟩ b ts args):=by
 unfold kN
 cases b <;> try exact SimP.none _
 case len =>
  match ts,args with
  | [t],[x] =>
   dsimp only
   cases P.underlying t with
   | none=>exact SimP.none _
   | some d=>cases d <;> first | exact SimP.none _ | exact dXy (aDq x) | exact dXy (nX x)
  | [],_=>exact SimP.none _
  | [_],[]=>exact SimP.none _
  | [_],_ :: _ :: _=>exact SimP.none _
  | _ :: _ :: _,_=>exact SimP.none _
 case min =>
  show SimP gg (tN args) (tN args)
  unfold tN
  match args with
  | [x,y]=>exact dXy (aLs x y)
  | []=>exact SimP.none _
  | [_]=>exact SimP.none _
  | _ :: _ :: _ :: _=>exact SimP.none _
 case max =>
  show SimP gg (tF args) (tF args)
  unfold tF
  match args with
  | [x,y]=>exact dXy (aNj x y)
  | []=>exact SimP.none _
  | [_]=>exact SimP.none _
  | _ :: _ :: _ :: _=>exact SimP.none _
 case clear =>
  match ts,args with
  | [t],[x] =>
   dsimp only
   cases P.underlying t with
   | none=>exact SimP.none _
   | some d =>
    cases d <;> try exact SimP.none _
    rename_i e
    dsimp only
    cases P.info? e with
    | none=>exact SimP.none _
    | some i =>
     dsimp only
     cases i.zero with
     | none=>exact SimP.none _
     | some z =>
      dsimp only
      by_cases h0 : 0 < z.cells.size
      ·simp only [h0,if_true]; exact bIj _ _
      ·simp only [h0,if_false]; exact SimP.none _
  | [],_=>exact SimP.none _
  | [_],[]=>exact SimP.none _
  | [_],_ :: _ :: _=>exact SimP.none _
  | _ :: _ :: _,_=>exact SimP.none _
 case append =>
  match ts,args with
  | [t,u],[s,x] =>
   dsimp only
   have hmain : ∀ e,SimP gg (fun h=>match P.info? e with
     | some i=>match i.zero with
      | some z=>if 0 < i.size ∧ 0 < i.bytes ∧ z.cells.size = i.size then bB i.size i.bytes s x h else none
      | none=>none
     | none=>none) (fun h=>match P.info? e with
     | some i=>match i.zero with
      | some z=>if 0 < i.size ∧ 0 < i.bytes ∧ z.cells.size = i.size then bB i.size i.bytes s x h else none
      | none=>none
     | none=>none):=by
    intro e
    cases P.info? e with
    | none=>exact SimP.none _
    | some i =>
     dsimp only
     cases i.zero with
     | none=>exact SimP.none _
     | some z =>
      dsimp only
      split
      ·exact aVm _ _ _ _
      ·exact SimP.none _
   cases P.underlying t with
   | none=>exact SimP.none _
   | some d =>
    cases d <;> try exact SimP.none _
    rename_i e
    cases P.underlying u with
    | none=>exact SimP.none _
    | some d2=>cases d2 <;> first | exact SimP.none _ | exact hmain e
  | [],_=>exact SimP.none _
  | [_],_=>exact SimP.none _
  | [_,_],[]=>exact SimP.none _
  | [_,_],[_]=>exact SimP.none _
  | [_,_],_ :: _ :: _ :: _=>exact SimP.none _
  | _ :: _ :: _ :: _,_=>exact SimP.none _
 case copy =>
  match ts,args with
  | [t,u],[x,y] =>
   dsimp only
   cases P.underlying t with
   | none=>exact SimP.none _
   | some d =>
    cases d <;> try exact SimP.none _
    rename_i e
    dsimp only
    cases P.info? e with
    | none=>exact SimP.none _
    | some i =>
     dsimp only
     by_cases h0 : 0 < i.size
     ·simp only [h0,if_true]; exact bLd _ _ _
     ·simp only [h0,if_false]; exact SimP.none _
  | [],_=>exact SimP.none _
  | [_],_=>exact SimP.none _
  | [_,_],[]=>exact SimP.none _
  | [_,_],[_]=>exact SimP.none _
  | [_,_],_ :: _ :: _ :: _=>exact SimP.none _
  | _ :: _ :: _ :: _,_=>exact SimP.none _
theorem aCy (HC : ∀ g args,SimP gg (cD ⟨P,I2⟩ rec2 g args) (cD ⟨P,I1⟩ rec1 g args)) (o : Oper) (env : bA) : SimP gg (jX ⟨P,I2⟩ rec2 o env) (jX ⟨P,I1⟩ rec1 o env):=by
 obtain ⟨dst,op,ty,pos,after,guard⟩:=o
 unfold jX
 cases op <;> (try dsimp only) <;> try exact SimP.none _
 case move x=>exact SimP.val _
 case assign x=>exact SimP.val _
 case pick c x y=>exact dXy (aDa _ _ _)
 case alloc t =>
  cases P.info? t with
  | none=>exact SimP.none _
  | some i =>
   try dsimp only
   cases i.zero with
   | none=>exact SimP.none _
   | some z=>exact aJr _
 case box t x=>exact cLl _
 case build t ps =>
  cases P.underlying t with
  | none=>exact SimP.none _
  | some d =>
   cases d <;> (try dsimp only) <;> try exact SimP.none _
   case array n e =>
    cases P.info? t with
    | none=>exact SimP.none _
    | some i =>
     try dsimp only
     split
     ·exact dXy (mX _ _)
     ·exact SimP.none _
   rename_i fs
   cases P.info? t with
   | none=>exact SimP.none _
   | some i =>
    try dsimp only
    cases i.zero with
    | none=>exact SimP.none _
    | some z =>
     try dsimp only
     generalize fs.toList.mapM (fun f=>(P.info? f.type).map fun fi=>(f.offset,fi.size)) = pl
     cases pl with
     | none=>exact SimP.none _
     | some pl =>
      try dsimp only
      generalize ps.toList.mapM (fun (q : Nat × Operand)=>(pl[q.1]?).map fun s=>(s.1,s.2,opr env q.2)) = l
      cases l with
      | none=>exact SimP.none _
      | some l=>exact dXy (mX _ _)
 case buildSlice t n ps =>
  cases P.underlying t with
  | none=>exact SimP.none _
  | some d =>
   cases d <;> (try dsimp only) <;> try exact SimP.none _
   rename_i e
   cases P.info? e with
   | none=>exact SimP.none _
   | some i =>
    try dsimp only
    cases i.zero with
    | none=>exact SimP.none _
    | some z =>
     try dsimp only
     split
     ·exact aAg _ _ _
     ·exact SimP.none _
 case load t x =>
  cases P.underlying t with
  | none=>exact SimP.none _
  | some d =>
   cases P.info? t with
   | none=>exact SimP.none _
   | some i =>
    try dsimp only
    cases jW d with
    | true=>exact lP _ _
    | false=>exact lT _
 case store t x y =>
  cases P.info? t with
  | none=>exact SimP.none _
  | some i=>exact mI _ _ _
 case nilCheck x=>exact dXy (aLw _)
 case binOp op t x y yt =>
  cases P.underlying t with
  | none=>exact SimP.none _
  | some d=>cases d <;> first | exact dXy (aOx _ _ _ _) | exact dXy (aOi _ _ _ _ _) | exact dXy (aNk _ _ _ _)
 case unOp op t x=>exact dXy (bCw _ _)
 case convert src dst x =>
  cases P.underlying src with
  | none=>exact SimP.none _
  | some d =>
   cases P.underlying dst with
   | none=>cases d <;> exact SimP.none _
   | some d2 =>
    cases d2 <;> cases d <;> (try dsimp only) <;> first | exact SimP.none _ | exact dXy (qP _ _) | exact dXy (qW _) | skip
    all_goals
     rename_i e
     cases P.underlying e with
     | none=>exact SimP.none _
     | some d3 =>
      cases d3 <;> (try dsimp only) <;> try exact SimP.none _
      rename_i k
      cases k <;> first | exact SimP.none _ | exact bEm _ | exact aRc _
 case makeInterface t x =>
  cases P.underlying t with
  | none=>exact SimP.none _
  | some d=>cases d <;> first | exact SimP.none _ | exact SimP.val _
 case makeFunc fn first cap =>
  cases fn <;> first | exact SimP.none _ | exact SimP.val _
 case slice t x lo hi mx =>
  cases P.underlying t with
  | none=>exact SimP.none _
  | some d =>
   cases mx with
   | none =>
    cases d <;> (try dsimp only) <;> first | exact SimP.none _ | exact dXy (oA _ _ _) | skip
    rename_i e
    cases P.info? e with
    | none=>exact SimP.none _
    | some i=>exact bEx _ _ _ _
   | some m =>
    cases d <;> (try dsimp only) <;> try exact SimP.none _
    rename_i e
    cases P.info? e with
    | none=>exact SimP.none _
    | some i =>
     cases hi with
     | none=>exact SimP.none _
     | some hv=>exact aSm _ _ _ _
 case fieldAddr t x f =>
  cases P.underlying t with
  | none=>exact SimP.none _
  | some d =>
   cases d <;> (try dsimp only) <;> try exact SimP.none _
   rename_i fs
   cases fs[f]? with
   | none=>exact SimP.none _
   | some fl =>
    try dsimp only
    cases P.info? fl.type with
    | none=>exact SimP.none _
    | some i =>
     try dsimp only
     split
     ·exact SimP.none _
     ·exact dXy (zK _ _)
 case field t x f =>
  cases P.underlying t with
  | none=>exact SimP.none _
  | some d =>
   cases d <;> (try dsimp only) <;> try exact SimP.none _
   rename_i fs
   cases fs[f]? with
   | none=>exact SimP.none _
   | some fl =>
    try dsimp only
    cases P.underlying fl.type with
    | none=>exact SimP.none _
    | some d2 =>
     cases P.info? fl.type with
     | none=>exact SimP.none _
     | some i =>
      try dsimp only
      cases jW d2 with
      | true=>exact dXy (aAj _ _ _)
      | false=>exact dXy (zB _ _)
 case indexAddr t x ix =>
  cases P.underlying t with
  | none=>exact SimP.none _
  | some d =>
   cases d <;> (try dsimp only) <;> try exact SimP.none _
   ·rename_i e
    cases P.info? e with
    | none=>exact SimP.none _
    | some i=>exact dXy (oB _ _ _)
   ·rename_i n e
    cases P.info? e with
    | none=>exact SimP.none _
    | some i=>exact dXy (pM _ _ _ _)
 case index t x ix =>
  cases P.underlying t with
  | none=>exact SimP.none _
  | some d=>cases d <;> first | exact SimP.none _ | exact dXy (vG _ _)
 case extract x i=>exact dXy (sL _ _)
 case range t x =>
  cases P.underlying t with
  | none=>exact SimP.none _
  | some d=>cases d <;> first | exact SimP.none _ | exact bHt _
 case next x str =>
  cases str with
  | true=>simp only [if_true]; exact bWc _
  | false=>simp only [Bool.false_eq_true,if_false]; exact SimP.none _
 case makeMap t r=>cases r <;> first | exact SimP.none _ | exact aMk
 case lookup t x k ok =>
  cases P.underlying t with
  | none=>exact SimP.none _
  | some d =>
   cases d <;> (try dsimp only) <;> try exact SimP.none _
   rename_i kt et
   cases P.underlying kt with
   | none=>exact SimP.none _
   | some d2 =>
    cases P.info? et with
    | none=>exact SimP.none _
    | some i =>
     try dsimp only
     cases i.zero with
     | none=>exact SimP.none _
     | some z =>
      try dsimp only
      cases iP d2 with
      | true=>exact zQ _ _ _ _ _
      | false =>
       simp only [cond_false]
       cases uM P d2 && bHe d2 (opr env k) with
       | true=>exact zQ _ _ _ _ _
       | false=>exact SimP.none _
 case mapUpdate t m k x =>
  cases P.underlying t with
  | none=>exact SimP.none _
  | some d =>
   cases d <;> (try dsimp only) <;> try exact SimP.none _
   rename_i kt et
   cases P.underlying kt with
   | none=>exact SimP.none _
   | some d2 =>
    try dsimp only
    cases iP d2 with
    | true=>exact aBk _ _ _ _
    | false=>exact SimP.none _
 case insert t m k x =>
  cases P.underlying t with
  | none=>exact SimP.none _
  | some d =>
   cases d <;> (try dsimp only) <;> try exact SimP.none _
   rename_i kt et
   cases P.underlying kt with
   | none=>exact SimP.none _
   | some d2 =>
    try dsimp only
    cases iP d2 with
    | true=>exact aBk _ _ _ _
    | false=>exact SimP.none _
 case mapEntry t m k =>
  cases P.underlying t with
  | none=>exact SimP.none _
  | some d =>
   cases d <;> (try dsimp only) <;> try exact SimP.none _
   rename_i kt et
   cases P.underlying kt with
   | none=>exact SimP.none _
   | some d2 =>
    cases P.info? et with
    | none=>exact SimP.none _
    | some i =>
     try dsimp only
     cases i.zero with
     | none=>exact SimP.none _
     | some z =>
      try dsimp only
      cases iP d2 with
      | true=>exact aLq _ _ _ _
      | false=>exact SimP.none _
 case entryStore t m s x=>exact aBy _ _ _
 case makeSlice t n c =>
  cases P.underlying t with
  | none=>exact SimP.none _
  | some d =>
   cases d <;> (try dsimp only) <;> try exact SimP.none _
   rename_i e
   cases P.info? e with
   | none=>exact SimP.none _
   | some i =>
    try dsimp only
    cases i.zero with
    | none=>exact SimP.none _
    | some z =>
     try dsimp only
     split
     ·exact aCh _ _ _ _ _
     ·exact SimP.none _
 case call c =>
  obtain ⟨callee,args,ats⟩:=c
  cases callee with
  | value f =>
   try dsimp only
   unfold jY
   cases opr env f <;> first | exact SimP.none _ | exact HC _ _
  | invoke r m =>
   try dsimp only
   unfold aUm
   cases opr env r <;> (try dsimp only) <;> try exact SimP.none _
   rename_i t v
   cases bXd P t m with
   | none=>exact SimP.none _
   | some f=>exact HC _ _
  | builtin b=>exact aNn _ _ _
theorem mE (HC : ∀ g args,SimP gg (cD ⟨P,I2⟩ rec2 g args) (cD ⟨P,I1⟩ rec1 g args)) (all : Array Oper) (o : Oper) (env : bA) :
  SimP gg (bL ⟨P,I2⟩ rec2 all o env) (bL ⟨P,I1⟩ rec1 all o env):=by
 unfold bL
 cases o.guard with
 | none=>exact aCy HC o env
 | some g =>
  obtain ⟨j,want⟩:=g
  dsimp only
  unfold gD
  cases aXr all j env <;> try exact SimP.none _
  ·rename_i x
   dsimp only
   split
   ·exact aCy HC o env
   ·exact SimP.val _
  ·rename_i vs
   cases vs with
   | nil=>exact SimP.val _
   | cons a b=>exact SimP.none _
def SimK (gg : Bool) (k k' : K) : Prop:=∀ env,SimP gg (k env) (k' env)
theorem dYc {r r' : aH} {k k' : DV → Hp → aH} (h : SimR gg r r') (hk : ∀ v,SimP gg (k v) (k' v)) : SimR gg (bnd r k) (bnd r' k'):=by
 intro v h1 e
 obtain ⟨u,h0,e1,e2⟩:=cZ e
 obtain ⟨h0',f1,S⟩:=h u h0 e1
 obtain ⟨h1',g1,S1⟩:=hk u h0 h0' S v h1 e2
 exact ⟨h1',by rw [f1]; exact g1,S1⟩
theorem dYw {b b' : Bool} {r r' : aH} (hb : b = true → b' = true) (h : SimR gg r r') : SimR gg (cnd b r) (cnd b' r'):=by
 cases b with
 | false=>exact fun v k e=>by cases e
 | true=>rw [hb rfl]; exact h
theorem sB (HC : ∀ g args,SimP gg (cD ⟨P,I2⟩ rec2 g args) (cD ⟨P,I1⟩ rec1 g args)) (nt : Nat) (all : Array Oper) {k k' : K} (hk : SimK gg k k') :
  ∀ l : List Oper,SimK gg (gY ⟨P,I2⟩ rec2 nt all l k) (gY ⟨P,I1⟩ rec1 nt all l k')
 | []=>hk
 | o :: l=>fun env h h' S=>by
  change SimR gg (cnd (dK nt o.dst) (bnd (bL ⟨P,I2⟩ rec2 all o env h) fun v h1=>gY ⟨P,I2⟩ rec2 nt all l k (bO env o.dst v) h1))
   (cnd (dK nt o.dst) (bnd (bL ⟨P,I1⟩ rec1 all o env h') fun v h1=>gY ⟨P,I1⟩ rec1 nt all l k' (bO env o.dst v) h1))
  exact dYw id (dYc (mE HC all o env h h' S) fun v=>sB HC nt all hk l _)
theorem aCm {gg : Bool} (b : Pos) : SimP gg (kQ b) (kQ b):=by
 intro h h' S v k e
 simp only [kQ,aU,bG] at e ⊢
 obtain ⟨rfl,rfl⟩:=e
 exact ⟨_,⟨rfl,rfl⟩,by rw [S.next]; first | exact S.setR _ _ _ _ | exact S.setM _ _ _ | exact S.setI _ _ _ _⟩
theorem dEq (o : Oper) (b : Pos) (env : bA) : SimP gg (eI ⟨P,I2⟩ o b env) (eI ⟨P,I1⟩ o b env):=by
 obtain ⟨dst,op,ty,pos,after,guard⟩:=o
 unfold eI
 cases op <;> (try dsimp only) <;> try exact SimP.none _
 case alloc t =>
  cases P.info? t with
  | none=>exact SimP.none _
  | some i =>
   dsimp only
   cases i.zero with
   | none=>exact SimP.none _
   | some z=>exact aCp _ _
 case makeMap t r=>cases r with
  | none=>exact aCm _
  | some _=>exact SimP.none _
 case box t x=>exact bHl _ _
 case buildSlice t n ps =>
  cases P.underlying t with
  | none=>exact SimP.none _
  | some d =>
   cases d <;> (try dsimp only) <;> try exact SimP.none _
   rename_i e
   cases P.info? e with
   | none=>exact SimP.none _
   | some i =>
    dsimp only
    cases i.zero with
    | none=>exact SimP.none _
    | some z =>
     dsimp only
     split
     ·exact uP _ _ _ _
     ·exact SimP.none _
theorem SimR.same {r r' : aH} (h : SimR gg r r') {v : DV} (hs : bJ r v = true) : bJ r' v = true:=by
 unfold bJ at hs ⊢
 split at hs
 ·rename_i x k
  obtain ⟨k',e,_⟩:=h x k rfl
  rw [e]; exact hs
 ·cases hs
inductive SimHs (gg : Bool) : List (Option Nat × Hp) → List (Option Nat × Hp) → Prop
 | nil : SimHs gg [] []
 | cons {j : Option Nat} {h h' : Hp} {l l' : List (Option Nat × Hp)} (S : Sim gg h h') (T : SimHs gg l l') : SimHs gg ((j,h) :: l) ((j,h') :: l')
theorem vJ (m : Array Nat) (i : Nat) (v : DV) {look look' : Hp → aH} (hl : SimP gg look look') : ∀ (dirty : Bool) {hs hs' : List (Option Nat × Hp)},SimHs gg hs hs' →
  eY m i v look dirty hs = true → eY m i v look' dirty hs' = true
 | dirty,_,_,.nil,h=>h
 | dirty,_,_,.cons (j:=j) S T,h=>by
  unfold eY at h ⊢
  rw [Bool.and_eq_true] at h ⊢
  refine ⟨?_, ?_⟩
  ·have h1:=h.1
   cases dirty with
   | true=>exact SimR.same (hl _ _ S) h1
   | false=>exact h1
  ·have h2:=h.2
   cases j with
   | none=>exact h2
   | some j =>
    dsimp only at h2 ⊢
    cases ho : gL m j i with
    | true=>rfl
    | false =>
     rw [ho] at h2
     exact vJ m i v hl true T h2
inductive SimSeen (gg : Bool) : List Seen → List Seen → Prop
 | nil : SimSeen gg [] []
 | cons {i : Nat} {look look' : Hp → aH} {v : DV} {l l' : List Seen} (S : SimP gg look look') (T : SimSeen gg l l') : SimSeen gg (⟨i,look,v⟩ :: l) (⟨i,look',v⟩ :: l')
theorem SimSeen.all {m : Array Nat} {i : Nat} {h h' : Hp} (S : Sim gg h h') : ∀ {l l' : List Seen},SimSeen gg l l' →
  l.all (fun q=>gL m q.at_ i || bJ (q.look h) q.v) = true → l'.all (fun q=>gL m q.at_ i || bJ (q.look h') q.v) = true
 | _,_,.nil,e=>e
 | _,_,.cons (i:=i0) (v:=v) S1 T,e=>by
  rw [List.all_cons,Bool.and_eq_true] at e ⊢
  refine ⟨?_,SimSeen.all S T e.2⟩
  have h1:=e.1
  rw [Bool.or_eq_true] at h1 ⊢
  exact h1.imp id fun hs=>SimR.same (S1 _ _ S) hs
theorem oG (HC : ∀ g args,SimP gg (cD ⟨P,I2⟩ rec2 g args) (cD ⟨P,I1⟩ rec1 g args)) (nt : Nat) (all : Array Oper) (m : Array Nat) (p0 : Pos) {k k' : K} (hk : SimK gg k k') :
  ∀ (l : List Oper) (i c : Nat) (dirty : Bool) {rd rd' : List Seen} {hs hs' : List (Option Nat × Hp)},SimSeen gg rd rd' → SimHs gg hs hs' →
   SimK gg (eV ⟨P,I2⟩ rec2 nt all m p0 l k i c dirty rd hs) (eV ⟨P,I1⟩ rec1 nt all m p0 l k' i c dirty rd' hs')
 | [],i,c,dirty,rd,rd',hs,hs',R,T=>hk
 | o :: l,i,c,dirty,rd,rd',hs,hs',R,T=>fun env h h' S=>by
  change SimR gg (cnd (dK nt o.dst) (
   match bV P o.op with
   | .pure=>bnd (bL ⟨P,I2⟩ rec2 all o env h) fun v h'=>eV ⟨P,I2⟩ rec2 nt all m p0 l k (i + 1) c dirty rd hs (bO env o.dst v) h'
   | .reads=>bnd (bL ⟨P,I2⟩ rec2 all o env h) fun v h' =>
     cnd (eY m i v (bL ⟨P,I2⟩ rec2 all o env) dirty hs) (eV ⟨P,I2⟩ rec2 nt all m p0 l k (i + 1) c dirty (⟨i,bL ⟨P,I2⟩ rec2 all o env,v⟩ :: rd) hs (bO env o.dst v) h')
   | .makes=>bnd (eI ⟨P,I2⟩ o (cW c p0) env h) fun v h'=>eV ⟨P,I2⟩ rec2 nt all m p0 l k (i + 1) (c + 1) true rd hs (bO env o.dst v) h'
   | .acts=>bnd (bL ⟨P,I2⟩ rec2 all o env h) fun v h' =>
     cnd (rd.all (fun q=>gL m q.at_ i || bJ (q.look h') q.v)) (eV ⟨P,I2⟩ rec2 nt all m p0 l k (i + 1) c false rd ((some i,h') :: hs) (bO env o.dst v) h')))
   (cnd (dK nt o.dst) (
   match bV P o.op with
   | .pure=>bnd (bL ⟨P,I1⟩ rec1 all o env h') fun v h'=>eV ⟨P,I1⟩ rec1 nt all m p0 l k' (i + 1) c dirty rd' hs' (bO env o.dst v) h'
   | .reads=>bnd (bL ⟨P,I1⟩ rec1 all o env h') fun v h' =>
     cnd (eY m i v (bL ⟨P,I1⟩ rec1 all o env) dirty hs') (eV ⟨P,I1⟩ rec1 nt all m p0 l k' (i + 1) c dirty (⟨i,bL ⟨P,I1⟩ rec1 all o env,v⟩ :: rd') hs' (bO env o.dst v) h')
   | .makes=>bnd (eI ⟨P,I1⟩ o (cW c p0) env h') fun v h'=>eV ⟨P,I1⟩ rec1 nt all m p0 l k' (i + 1) (c + 1) true rd' hs' (bO env o.dst v) h'
   | .acts=>bnd (bL ⟨P,I1⟩ rec1 all o env h') fun v h' =>
     cnd (rd'.all (fun q=>gL m q.at_ i || bJ (q.look h') q.v)) (eV ⟨P,I1⟩ rec1 nt all m p0 l k' (i + 1) c false rd' ((some i,h') :: hs') (bO env o.dst v) h')))
  refine dYw id ?_
  cases bV P o.op with
  | pure=>exact dYc (mE HC all o env h h' S) fun v=>oG HC nt all m p0 hk l _ _ _ R T _
  | reads =>
   exact dYc (mE HC all o env h h' S) fun v h1 h1' S1=>dYw (vJ m i v (mE HC all o env) dirty T)
    (oG HC nt all m p0 hk l _ _ _ (.cons (mE HC all o env) R) T _ _ _ S1)
  | makes=>exact dYc (dEq o _ env h h' S) fun v=>oG HC nt all m p0 hk l _ _ _ R T _
  | acts =>
   exact dYc (mE HC all o env h h' S) fun v h1 h1' S1=>dYw (SimSeen.all S1 R)
    (oG HC nt all m p0 hk l _ _ _ R (.cons S1 T) _ _ _ S1)
theorem Sim.resv {gg : Bool} {h h' : Hp} (S : Sim gg h h') (k : Nat) : Sim gg (resv k h) (resv k h'):=by
 cases k with
 | zero=>exact S
 | succ k=>exact ⟨by show cW (k + 1) h'.next = cW (k + 1) h.next; rw [S.next],S.get⟩
theorem bSg (HC : ∀ g args,SimP gg (cD ⟨P,I2⟩ rec2 g args) (cD ⟨P,I1⟩ rec1 g args)) (nt : Nat) (ops : Array Oper) {k k' : K} (hk : SimK gg k k') :
  SimK gg (iS ⟨P,I2⟩ rec2 nt ops k) (iS ⟨P,I1⟩ rec1 nt ops k'):=fun env h h' S=>by
 unfold iS
 rw [S.next]
 exact oG HC nt ops _ _ hk _ _ _ _ .nil (.cons (S.resv _) .nil) env _ _ (S.resv _)
theorem aHd {c : DV} {a b a' b' : aH} (ha : SimR gg a a') (hb : SimR gg b b') : SimR gg (aT c a b) (aT c a' b'):=by
 unfold aT
 cases c <;> try exact SimR.none _
 rename_i x
 cases x
 ·exact hb
 ·exact ha
theorem rR {b b' : K → K} (hb : ∀ k k',SimK gg k k' → SimK gg (b k) (b' k')) : ∀ (n d : Nat),SimK gg (aL b n) (aL b' (n + d))
 | 0,d=>fun env h h' S v k e=>by cases e
 | n + 1,d=>by
  rw [show n + 1 + d = (n + d) + 1 from by omega]
  exact hb _ _ (rR hb n d)
theorem gI (HC : ∀ g args,SimP gg (cD ⟨P,I2⟩ rec2 g args) (cD ⟨P,I1⟩ rec1 g args)) (nt n d : Nat) : ∀ (c : Code) (X X' : Nat → K) (kr kr' k k' : K),(∀ j,SimK gg (X j) (X' j)) → SimK gg kr kr' → SimK gg k k' →
  SimK gg (aM ⟨P,I2⟩ rec2 nt n c X kr k) (aM ⟨P,I1⟩ rec1 nt (n + d) c X' kr' k'):=by
 intro c
 have hfail : ∀ k',SimK gg cV k':=fun k' env h h' S v k e=>by cases e
 induction c with
 | skip=>intro X X' kr kr' k k' hX hr hk; exact hk
 | region id ops dr =>
  intro X X' kr kr' k k' hX hr hk
  change SimK gg (Bool.rec (motive:=fun _=>K) (gY ⟨P,I2⟩ rec2 nt ops ops.toList k) (Bool.rec (motive:=fun _=>K) cV (iS ⟨P,I2⟩ rec2 nt ops k) (fC P ops)) dr)
   (Bool.rec (motive:=fun _=>K) (gY ⟨P,I1⟩ rec1 nt ops ops.toList k') (Bool.rec (motive:=fun _=>K) cV (iS ⟨P,I1⟩ rec1 nt ops k') (fC P ops)) dr)
  cases dr with
  | false=>exact sB HC nt ops hk _
  | true =>
   cases fC P ops with
   | false=>exact hfail _
   | true=>exact bSg HC nt ops hk
 | seq x y ihx ihy=>intro X X' kr kr' k k' hX hr hk; exact ihx _ _ _ _ _ _ hX hr (ihy _ _ _ _ _ _ hX hr hk)
 | cond c x y ihx ihy =>
  intro X X' kr kr' k k' hX hr hk env h h' S
  exact aHd (ihx _ _ _ _ _ _ hX hr hk env h h' S) (ihy _ _ _ _ _ _ hX hr hk env h h' S)
 | block id x ih =>
  intro X X' kr kr' k k' hX hr hk
  refine ih _ _ _ _ _ _ (fun j => ?_) hr hk
  cases hj : Nat.beq j id with
  | true=>exact hk
  | false=>exact hX j
 | loop x ih =>
  intro X X' kr kr' k k' hX hr hk
  exact rR (fun k k' hk=>ih _ _ _ _ _ _ hX hr hk) n d
 | rangeFunc f ps x y ihx ihy=>intro X X' kr kr' k k' hX hr hk; exact hfail _
 | exit id=>intro X X' kr kr' k k' hX hr hk; exact hX id
 | scope x ih=>intro X X' kr kr' k k' hX hr hk; exact ih _ _ _ _ _ _ hX hr hk
 | label l=>intro X X' kr kr' k k' hX hr hk; exact hk
 | goto l=>intro X X' kr kr' k k' hX hr hk; exact hfail _
 | ret=>intro X X' kr kr' k k' hX hr hk; exact hr
 | refuse why=>intro X X' kr kr' k k' hX hr hk; exact hfail _
theorem bHc {h h' : Hp} (S : Sim gg h h') (t : TypeId) (x : DV) {k k' : DV → aH} (hk : ∀ v,SimR gg (k v) (k' v)) : SimR gg (aDf ⟨P,I2⟩ t x h k) (aDf ⟨P,I1⟩ t x h' k'):=by
 unfold aDf
 dsimp only
 cases P.underlying t with
 | none=>exact SimR.none _
 | some d =>
  cases P.info? t with
  | none=>exact SimR.none _
  | some i =>
   dsimp only
   refine dYc ?_ fun v _ _ _=>hk v
   cases jW d with
   | true=>exact lP _ _ h h' S
   | false=>exact lT _ h h' S
theorem uT {h h' : Hp} (S : Sim gg h h') (env : bA) : ∀ (l : List ResultVar) (k k' : List DV → aH),(∀ vs,SimR gg (k vs) (k' vs)) → SimR gg (aWe ⟨P,I2⟩ env h l k) (aWe ⟨P,I1⟩ env h' l k')
 | [],k,k',hk=>hk []
 | .tmp t :: l,k,k',hk=>uT S env l _ _ fun vs=>hk _
 | .cell a t :: l,k,k',hk=>bHc S t (env a) fun v=>uT S env l _ _ fun vs=>hk _
theorem sY (fn : Func) : SimK gg (aR ⟨P,I2⟩ fn) (aR ⟨P,I1⟩ fn):=fun env h h' S=>by
 unfold aR
 refine uT S env _ _ _ fun vs => ?_
 unfold bXi
 match vs with
 | [v]=>exact SimR.some S _
 | []=>exact SimR.some S _
 | _ :: _ :: _=>exact SimR.some S _
theorem nY (HC : ∀ g args,SimP gg (cD ⟨P,I2⟩ rec2 g args) (cD ⟨P,I1⟩ rec1 g args)) (n d : Nat) (f : FuncId) (args : List DV) :
  SimP gg (aF ⟨P,I2⟩ rec2 n f args) (aF ⟨P,I1⟩ rec1 (n + d) f args):=by
 intro h h' S
 unfold aF
 dsimp only
 cases P.funcs[f]? with
 | none=>exact SimR.none _
 | some fn =>
  dsimp only
  cases fn.body with
  | none=>exact SimR.none _
  | some c=>exact gI HC fn.ntmps n d c _ _ _ _ _ _ (fun _ _ _ _ _ _ _ e=>by cases e) (sY fn) (sY fn) _ h h' S
end
theorem bMq {gg : Bool} {P : Program} {I2 I1 : FuncId → Option (List DV → Hp → aH)} (d : Nat) (h0 : ∀ g,I2 g = none → I1 g = none)
  (hI : ∀ g F,I2 g = some F → ∀ n args,SimP gg (F args) (cD ⟨P,I1⟩ (mS ⟨P,I1⟩ (n + d)) g args)) : ∀ (n : Nat) (f : FuncId) (args : List DV),SimP gg (mS ⟨P,I2⟩ n f args) (mS ⟨P,I1⟩ (n + d) f args)
 | 0,f,args=>fun h h' S v k e=>by cases e
 | n + 1,f,args=>by
  rw [show n + 1 + d = (n + d) + 1 from by omega]
  refine nY (fun g az => ?_) n d f args
  unfold cD
  dsimp only
  cases hg : I2 g with
  | none =>
   rw [h0 g hg]
   exact bMq d h0 hI n g az
  | some F =>
   have:=hI g F hg n az
   unfold cD at this
   exact this
end Go.Dd

namespace Go.Dd
section
variable {gg : Bool} {P : Program} {I2 I1 : FuncId → Option (List DV → Hp → aH)} {rec2 rec1 : FuncId → List DV → Hp → aH}
theorem oR {c : Bool} {q q' : aH} (h : SimR gg q q') : SimR gg (cnd c q) (cnd c q'):=by
 cases c with
 | false=>exact SimR.none _
 | true=>exact h
theorem dYa (k' : K) : SimK gg cV k':=fun env h h' S v k e=>by cases e
theorem aAy (HC : ∀ g args,SimP gg (cD ⟨P,I2⟩ rec2 g args) (cD ⟨P,I1⟩ rec1 g args)) (n d : Nat) (I : ItC) (b : Bool) {kr kr' k k' : K} (hr : SimK gg kr kr') (hk : SimK gg k k') (e1 : bA) :
  SimP gg (sN ⟨P,I2⟩ rec2 n I b kr k e1) (sN ⟨P,I1⟩ rec1 (n + d) I b kr' k' e1):=fun h h' S =>
 oR (sB HC I.nt I.ops (gI HC I.nt n d I.after _ _ _ _ _ _ (fun _=>dYa _) hr hk) _ _ h h' S)
theorem bGb (HC : ∀ g args,SimP gg (cD ⟨P,I2⟩ rec2 g args) (cD ⟨P,I1⟩ rec1 g args)) (n d : Nat) (I : ItC) (nt : Nat) (p : Tmp) (x y : Code) (env : bA) {X X' : Nat → K} {kr kr' kk kk' : K} (hX : ∀ j,SimK gg (X j) (X' j)) (hr : SimK gg kr kr') (hk : SimK gg kk kk') :
  SimK gg (aGx ⟨P,I2⟩ rec2 n I nt p x y env X kr kk) (aGx ⟨P,I1⟩ rec1 (n + d) I nt p x y env X' kr' kk'):=fun e1 h h' S =>
 oR (gI HC nt n d x _ _ _ _ _ _ (fun _=>dYa _) (dYa _)
  (gI HC nt n d y _ _ _ _ _ _ (fun i _=>aAy HC n d I false (fun _=>hX i env) (dYa _) e1) (fun _=>aAy HC n d I false (fun _=>hr env) (dYa _) e1)
   (fun _=>aAy HC n d I true (dYa _) (gI HC I.nt n d I.post _ _ _ _ _ _ (fun _=>dYa _) (dYa _) (gI HC I.nt n d I.step _ _ _ _ _ _ (fun _=>dYa _) (dYa _) hk)) e1)) _ h h' S)
theorem aRr (HC : ∀ g args,SimP gg (cD ⟨P,I2⟩ rec2 g args) (cD ⟨P,I1⟩ rec1 g args)) (n d : Nat) (I : ItC) (nt : Nat) (g : Operand) (p : Tmp) (x y : Code) {X X' : Nat → K} {kr kr' k k' : K} (hX : ∀ j,SimK gg (X j) (X' j)) (hr : SimK gg kr kr') (hk : SimK gg k k') :
  SimK gg (nV ⟨P,I2⟩ rec2 n I nt g p x y X kr k) (nV ⟨P,I1⟩ rec1 (n + d) I nt g p x y X' kr' k'):=by
 intro env h h' S
 unfold nV
 cases opr env g with
 | f gf first cap =>
  cases first with
  | cons _ _=>exact SimR.none _
  | nil =>
   refine oR ?_
   rw [S.next]
   refine gI HC I.nt n d I.pre _ _ _ _ _ _ (fun _=>dYa _) (dYa _) (rR (fun kk kk' hkk => ?_) n d) _ _ _ (S.resv 2)
   refine gI HC I.nt n d I.test _ _ _ _ _ _ (fun j => ?_) (dYa _) (sB HC I.nt I.ops ?_ I.front)
   ·cases Nat.beq j I.b0 with
    | true=>exact fun _=>hk env
    | false=>exact dYa _
   ·intro e1 h1 h1' S1
    exact oR (c:=ylB (e1 I.yt) h.next) (bGb HC n d I nt p x y env hX hr hkk e1 h1 h1' S1)
 | _=>exact SimR.none _
theorem bFf (HC : ∀ g args,SimP gg (cD ⟨P,I2⟩ rec2 g args) (cD ⟨P,I1⟩ rec1 g args)) (nt n d : Nat) (I : ItC) : ∀ (c : Code) (X X' : Nat → K) (kr kr' k k' : K),(∀ j,SimK gg (X j) (X' j)) → SimK gg kr kr' → SimK gg k k' →
  SimK gg (pK ⟨P,I2⟩ rec2 nt n I c X kr k) (pK ⟨P,I1⟩ rec1 nt (n + d) I c X' kr' k'):=by
 intro c
 induction c with
 | skip=>intro X X' kr kr' k k' hX hr hk; exact hk
 | region id ops dr=>intro X X' kr kr' k k' hX hr hk; exact gI HC nt n d (.region id ops dr) _ _ _ _ _ _ hX hr hk
 | seq x y ihx ihy=>intro X X' kr kr' k k' hX hr hk; exact ihx _ _ _ _ _ _ hX hr (ihy _ _ _ _ _ _ hX hr hk)
 | cond c x y ihx ihy =>
  intro X X' kr kr' k k' hX hr hk env h h' S
  exact aHd (ihx _ _ _ _ _ _ hX hr hk env h h' S) (ihy _ _ _ _ _ _ hX hr hk env h h' S)
 | block id x ih =>
  intro X X' kr kr' k k' hX hr hk
  refine ih _ _ _ _ _ _ (fun j => ?_) hr hk
  cases hj : Nat.beq j id with
  | true=>exact hk
  | false=>exact hX j
 | loop x ih =>
  intro X X' kr kr' k k' hX hr hk
  exact rR (fun k k' hk=>ih _ _ _ _ _ _ hX hr hk) n d
 | rangeFunc g ps x y ihx ihy =>
  intro X X' kr kr' k k' hX hr hk
  obtain ⟨l⟩:=ps
  match l with
  | [p]=>exact aRr HC n d I nt g p x y hX hr hk
  | []=>exact dYa _
  | _ :: _ :: _=>exact dYa _
 | exit id=>intro X X' kr kr' k k' hX hr hk; exact hX id
 | ret=>intro X X' kr kr' k k' hX hr hk; exact hr
 | _=>intros; exact dYa _
theorem bFq (HC : ∀ g args,SimP gg (cD ⟨P,I2⟩ rec2 g args) (cD ⟨P,I1⟩ rec1 g args)) (n d : Nat) (I : ItC) (f : FuncId) (args : List DV) :
  SimP gg (jU ⟨P,I2⟩ rec2 n I f args) (jU ⟨P,I1⟩ rec1 (n + d) I f args):=by
 intro h h' S
 unfold jU
 dsimp only
 cases P.funcs[f]? with
 | none=>exact SimR.none _
 | some fn =>
  dsimp only
  cases fn.body with
  | none=>exact SimR.none _
  | some c=>exact bFf HC fn.ntmps n d I c _ _ _ _ _ _ (fun _=>dYa _) (sY fn) (sY fn) _ h h' S
end
end Go.Dd

namespace Go.Dd
def fnR (C : Cfg) (I : ItC) (q : FuncId → Bool) (n : Nat) : FuncId → List DV → Hp → aH :=
 Nat.rec (motive:=fun _=>FuncId → List DV → Hp → aH) (fun _ _ _=>none) (fun m ih f=>bif q f then jU C ih m I f else aF C ih m f) n
theorem bQt {C : Cfg} {I : ItC} {q : FuncId → Bool} (hP : POk C.P) (hI : ∀ G g F,C.I g = some F → gG C.P G g F) (iOk : ItOk C.P I) (hq : ∀ f,q f = true → ∀ fn c,C.P.funcs[f]? = some fn → fn.body = some c → gP c = true) :
  ∀ (n : Nat) (G : Gd) (f : FuncId),gG C.P G f (fnR C I q n f)
 | 0,G,f=>fun args h v h1 hr=>by cases hr
 | n + 1,G,f=>by
  show gG C.P G f (bif q f then jU C (fnR C I q n) n I f else aF C (fnR C I q n) n f)
  have K : OkC C (fnR C I q n):=⟨hI,fun G g=>bQt hP hI iOk hq n G g⟩
  cases hf : q f with
  | true=>exact bLx K hP iOk n f (hq f hf)
  | false=>exact sS K hP n f
theorem aFc {gg : Bool} {P : Program} {I2 I1 : FuncId → Option (List DV → Hp → aH)} {I : ItC} {q : FuncId → Bool} (d : Nat) (h0 : ∀ g,I2 g = none → I1 g = none)
  (hI : ∀ g F,I2 g = some F → ∀ n args,SimP gg (F args) (cD ⟨P,I1⟩ (fnR ⟨P,I1⟩ I q (n + d)) g args)) : ∀ (n : Nat) (f : FuncId) (args : List DV),SimP gg (fnR ⟨P,I2⟩ I q n f args) (fnR ⟨P,I1⟩ I q (n + d) f args)
 | 0,f,args=>fun h h' S v k e=>by cases e
 | n + 1,f,args=>by
  rw [show n + 1 + d = (n + d) + 1 from by omega]
  have HC : ∀ g az,SimP gg (cD ⟨P,I2⟩ (fnR ⟨P,I2⟩ I q n) g az) (cD ⟨P,I1⟩ (fnR ⟨P,I1⟩ I q (n + d)) g az):=fun g az=>by
   unfold cD
   dsimp only
   cases hg : I2 g with
   | none =>
    rw [h0 g hg]
    exact aFc d h0 hI n g az
   | some F =>
    have:=hI g F hg n az
    unfold cD at this
    exact this
  show SimP gg ((bif q f then jU ⟨P,I2⟩ (fnR ⟨P,I2⟩ I q n) n I f else aF ⟨P,I2⟩ (fnR ⟨P,I2⟩ I q n) n f) args) ((bif q f then jU ⟨P,I1⟩ (fnR ⟨P,I1⟩ I q (n + d)) (n + d) I f else aF ⟨P,I1⟩ (fnR ⟨P,I1⟩ I q (n + d)) (n + d) f) args)
  cases q f with
  | true=>exact bFq HC n d I f args
  | false=>exact nY HC n d f args
end Go.Dd

namespace Go.Dd
noncomputable section
def kS (w : Int) : Nat :=
 match w with
 | .ofNat w=>bif Nat.beq (Nat.mod w 2) 0 && (Nat.ble 6 w && Nat.ble w 262144) then Nat.div w 2 else 0
 | .negSucc _=>0
def iT (w : Int) : Bool :=
 match w with
 | .ofNat w=>Nat.beq (Nat.mod w 2) 1 && Nat.blt w 2147483648
 | .negSucc w=>Nat.beq (Nat.mod w 2) 0 && Nat.blt w 2147483648
def cRe (w : Int) : Int :=
 match w with
 | .ofNat w=>.ofNat (Nat.div w 2)
 | .negSucc w=>.negSucc (Nat.div w 2)
structure MemV where
 wb : Pos
 n : Nat
 fin : Nat
 made : Nat
 pb : Pos
 t : WT
 pl : WT
def sT (m : Pos) (h : Hp) : Option MemV :=
 match h.bl.get m with
 | some (.row .ex [.l wb 0 n c,.i .i64 (.ofNat fin),.i .i64 (.ofNat made),.m pb]) =>
  match h.bl.get wb,h.bl.get pb with
  | some (.big n' t),some (.mi pl)=>bif Nat.beq n n' && Nat.beq n c then (bif Nat.blt n 1000000 && (Nat.ble fin n && Nat.blt made 1000000) then some ⟨wb,n,fin,made,pb,t,pl⟩ else none) else none
  | _,_=>none
 | _=>none
def gO (o : Int) (pl : WT) : Nat :=
 bif Nat.beq (kS o) 0 then 0 else match pl.get (kS o) with
  | .ofNat 0=>0
  | _=>kS o
def aLo (w : Int) (pl : WT) : Bool :=
 match w with
 | .ofNat 0=>true
 | .ofNat 2=>true
 | .ofNat 4=>true
 | w=>iT w || !(Nat.beq (gO w pl) 0)
def aCg (w : Int) (pl : WT) : Bool :=
 match w with
 | .ofNat 0=>true
 | w => !(Nat.beq (gO w pl) 0)
def rV (args : List DV) (h : Hp) (k : MemV → List DV → aH) : aH :=
 match args with
 | .p m 0 :: rest=>match sT m h with
  | some M=>k M rest
  | none=>none
 | _=>none
def err (e : Nat) (h : Hp) : aH:=some (.t [.i .i64 (.ofNat 0),.i .i64 (.ofNat e)],h)
def isF (args : List DV) (h : Hp) : aH:=rV args h fun M r=>match r with
 | [.i .i64 w]=>some (.b (!(Nat.beq (gO w M.pl) 0)),h)
 | _=>none
def bRa (args : List DV) (h : Hp) : aH:=rV args h fun M r=>match r with
 | [.i .i64 w]=>some (.b (aLo w M.pl),h)
 | _=>none
def aPd (args : List DV) (h : Hp) : aH:=rV args h fun M r=>match r with
 | []=>some (.i .i64 (.ofNat M.n),h)
 | _=>none
def aXd (args : List DV) (h : Hp) : aH:=rV args h fun M r=>match r with
 | []=>some (.i .i64 (.ofNat (Nat.sub M.n M.fin)),h)
 | _=>none
def nH (M : MemV) (o : Int) (k : Nat → aH) : aH :=
 bif Nat.blt (Nat.add (gO o M.pl) 1) M.n then (match M.t.get (gO o M.pl) with
  | .ofNat hd=>bif Nat.blt hd 1000000000000 then k hd else none
  | .negSucc _=>none) else none
def uV (args : List DV) (h : Hp) : aH:=rV args h fun M r=>match r with
 | [.i .i64 o]=>nH M o fun _=>some (.i .i64 (M.t.get (Nat.add (gO o M.pl) 1)),h)
 | _=>none
def wK (args : List DV) (h : Hp) : aH:=rV args h fun M r=>match r with
 | [.i .i64 o]=>nH M o fun hd=>some (.i .i64 (.ofNat (Nat.mod hd 4)),h)
 | _=>none
def sR (args : List DV) (h : Hp) : aH:=rV args h fun M r=>match r with
 | [.i .i64 o]=>nH M o fun hd=>some (.i .i64 (.ofNat (Nat.div hd 4)),h)
 | _=>none
def lD (M : MemV) (o i : Int) (bad : Nat → aH) (k : Nat → Nat → aH) : aH :=
 bif Nat.beq (gO o M.pl) 0 then bad 1 else match i with
  | .negSucc _=>bad 5
  | .ofNat i=>nH M o fun hd=>bif Nat.ble (Nat.div hd 4) i then bad 5 else
    (bif Nat.blt (Nat.add (Nat.add (gO o M.pl) 3) i) M.n then k hd (Nat.add (Nat.add (gO o M.pl) 3) i) else none)
def bOi (args : List DV) (h : Hp) : aH:=rV args h fun M r=>match r with
 | [.i .i64 o,.i .i64 i]=>lD M o i (fun e=>err e h) fun _ a=>some (.t [.i .i64 (M.t.get a),.i .i64 (.ofNat 0)],h)
 | _=>none
def sM (M : MemV) (a : Nat) (w : Int) (h : Hp) : aH:=some (.i .i64 (.ofNat 0),⟨h.next,Tr.set (.big M.n (M.t.set a w)) M.wb h.bl⟩)
def aMi (args : List DV) (h : Hp) : aH:=rV args h fun M r=>match r with
 | [.i .i64 o,.i .i64 i,.i .i64 w]=>lD M o i (fun e=>some (.i .i64 (.ofNat e),h)) fun hd a =>
   match Nat.mod hd 4 with
   | 0=>bif aLo w M.pl then sM M a w h else some (.i .i64 (.ofNat 6),h)
   | 2=>(match w with
    | .ofNat c=>bif Nat.ble c 255 then sM M a w h else some (.i .i64 (.ofNat 6),h)
    | .negSucc _=>some (.i .i64 (.ofNat 6),h))
   | _=>sM M a w h
 | _=>none
def lV (args : List DV) (h : Hp) : aH:=rV args h fun M r=>match r with
 | [.i .i64 o,.i .i64 c]=>bif Nat.beq (gO o M.pl) 0 || !(aCg c M.pl) then some (.i .i64 (.ofNat 1),h) else
   (bif Nat.blt (Nat.add (gO o M.pl) 1) M.n then sM M (Nat.add (gO o M.pl) 1) c h else none)
 | _=>none
def pU (t : WT) (c : Nat) : Nat → WT :=
 Nat.rec (motive:=fun _=>Nat → WT) (fun _=>t) (fun _ ih a=>(ih (Nat.add a 1)).set a (.ofNat 0)) c
def uZ (args : List DV) (h : Hp) : aH :=
 match args with
 | [.p m 0,.i .i64 cls,.i .i64 fmt,.i .i64 cnt]=>match sT m h with
  | none=>none
  | some M=>bif !(aCg cls M.pl) then err 1 h else match fmt,cnt with
   | .ofNat f,.ofNat c=>bif Nat.ble f 2 && Nat.ble c 256 then
     (bif Nat.blt (Nat.sub M.n M.fin) (Nat.add c 3) then err 4 h else
      (bif Nat.ble 3 M.fin && Nat.ble M.fin 131072 then
       some (.t [.i .i64 (.ofNat (Nat.mul M.fin 2)),.i .i64 (.ofNat 0)],
        ⟨h.next,Tr.set (.row .ex [.l M.wb 0 M.n M.n,.i .i64 (.ofNat (Nat.add M.fin (Nat.add c 3))),.i .i64 (.ofNat (Nat.succ M.made)),.m M.pb]) m
         (Tr.set (.mi (M.pl.set M.fin (.ofNat 1))) M.pb
          (Tr.set (.big M.n (pU (((M.t.set M.fin (.ofNat (Nat.add (Nat.mul c 4) f))).set (Nat.add M.fin 1) cls).set (Nat.add M.fin 2) (.ofNat (Nat.succ M.made))) c (Nat.add M.fin 3))) M.wb h.bl))⟩)
       else none))
     else err 1 h
   | _,_=>err 1 h
 | _=>none
def aUy (args : List DV) (h : Hp) : aH :=
 match args with
 | [.i .i64 (.ofNat n)]=>bif Nat.blt n 16 || Nat.blt 131072 n then some (.p0,h) else
   some (.p (cW 2 h.next) 0,⟨cW 3 h.next,Tr.set (.row .ex [.l h.next 0 n n,.i .i64 (.ofNat 3),.i .i64 (.ofNat 0),.m (cW 1 h.next)]) (cW 2 h.next)
    (Tr.set (.mi .e) (cW 1 h.next) (Tr.set (.big n .e) h.next h.bl))⟩)
 | [.i .i64 (.negSucc _)]=>some (.p0,h)
 | _=>none
def kI (args : List DV) (h : Hp) : aH :=
 match args with
 | [.i .i64 w]=>some (.b (iT w),h)
 | _=>none
def tS (args : List DV) (h : Hp) : aH :=
 match args with
 | [.i .i64 w]=>bif iT w then some (.i .i64 (cRe w),h) else some (.i .i64 (.ofNat 0),h)
 | _=>none
def rD (args : List DV) (h : Hp) : aH :=
 match args with
 | [.i .i64 (.ofNat n)]=>bif Nat.blt n 1073741824 then some (.t [.i .i64 (.ofNat (Nat.succ (Nat.mul n 2))),.b true],h) else some (.t [.i .i64 (.ofNat 0),.b false],h)
 | [.i .i64 (.negSucc n)]=>bif Nat.blt n 1073741824 then some (.t [.i .i64 (.negSucc (Nat.mul n 2)),.b true],h) else some (.t [.i .i64 (.ofNat 0),.b false],h)
 | _=>none
def aKp (g : Nat) : Option (List DV → Hp → aH) :=
 bif Nat.beq g 132 then some bRa else bif Nat.beq g 196 then some isF else bif Nat.beq g 108 then some aPd else bif Nat.beq g 126 then some aXd else
 bif Nat.beq g 77 then some uZ else bif Nat.beq g 76 then some aUy else bif Nat.beq g 80 then some lV else bif Nat.beq g 84 then some aMi else
 bif Nat.beq g 243 then some uV else bif Nat.beq g 136 then some wK else bif Nat.beq g 201 then some sR else bif Nat.beq g 200 then some kI else
 bif Nat.beq g 134 then some rD else bif Nat.beq g 216 then some tS else bif Nat.beq g 245 then some bOi else none
end
end Go.Dd

namespace Go.Dd
abbrev Bs:=List Nat
def eQ (c : Nat) : Bs → Option (Bs × Bs)
 | []=>none
 | x :: t=>if x = c then some ([],t) else (eQ c t).map fun p=>(x :: p.1,p.2)
def cA (c : Nat) : Bs → List Bs
 | []=>[[]]
 | x :: t=>if x = c then [] :: cA c t else match cA c t with
  | []=>[[x]]
  | l :: r=>(x :: l) :: r
theorem sE (c : Nat) (s : Bs) : cA c s ≠ []:=by
 cases s with
 | nil=>simp [cA]
 | cons x t =>
  unfold cA
  split
  ·simp
  ·split <;> simp
theorem jA {c : Nat} : ∀ {s : Bs},eQ c s = none → cA c s = [s]
 | [],_=>rfl
 | x :: t,h=>by
  unfold eQ at h
  split at h
  ·cases h
  ·rename_i hx
   have h' : eQ c t = none:=by
    cases e : eQ c t with
    | none=>rfl
    | some p=>rw [e] at h; cases h
   unfold cA
   rw [if_neg hx,jA h']
theorem kD {c : Nat} : ∀ {s a r : Bs},eQ c s = some (a,r) → cA c s = a :: cA c r
 | [],a,r,h=>by cases h
 | x :: t,a,r,h=>by
  unfold eQ at h
  split at h
  ·rename_i hx
   cases h
   rw [cA,if_pos hx]
  ·rename_i hx
   cases e : eQ c t with
   | none=>rw [e] at h; cases h
   | some p =>
    obtain ⟨a',r'⟩:=p
    rw [e] at h
    simp only [Option.map_some,aU,bG] at h
    obtain ⟨rfl,rfl⟩:=h
    rw [cA,if_neg hx,kD e]
theorem kA {c : Nat} : ∀ {s a r : Bs},eQ c s = some (a,r) → s = a ++ c :: r
 | [],a,r,h=>by cases h
 | x :: t,a,r,h=>by
  unfold eQ at h
  split at h
  ·rename_i hx
   cases h
   rw [hx]; rfl
  ·cases e : eQ c t with
   | none=>rw [e] at h; cases h
   | some p =>
    obtain ⟨a',r'⟩:=p
    rw [e] at h
    simp only [Option.map_some,aU,bG] at h
    obtain ⟨rfl,rfl⟩:=h
    rw [kA e]; rfl
def oN (x : Nat) : Bool:=Nat.ble 48 x && Nat.ble x 57
def lZ : Nat → Bs → Nat
 | a,[]=>a
 | a,x :: t=>lZ (10 * a + (x - 48)) t
def eR (s : Bs) : Option Nat:=if s.length < 1 ∨ s.length > 9 ∨ (s.length > 1 ∧ s.head? = some 48) ∨ s.all oN = false then none else some (lZ 0 s)
structure Stp where
 op : Int
 nm : Bs
 sup : Bs
 names : List Bs
 tx : Bs
 n : Int
deriving DecidableEq
def st0 (op : Int) : Stp:=⟨op,[],[],[],[],0⟩
def dI : Bs:=[99,108,97,115,115]
def eF : Bs:=[109,101,116,104,111,100]
def wDo : Bs:=[100,111]
def iQ : Bs:=[102,97,115,116]
def kH : Bs:=[115,108,111,119]
def jT : Bs:=[101,118,101,114,121]
def jN : Bs:=[99,111,108,108,101,99,116]
def oL : Bs:=[102,108,117,115,104]
def oF : Bs:=[105,109,97,103,101]
def aLi (w r : Bs) : Option Stp :=
 if w = dI then (let l:=cA 32 r; if l.length < 2 ∨ [] ∈ l then none else some ⟨1,l.getD 0 [],l.getD 1 [],l.drop 2,[],0⟩)
 else if w = eF then (match eQ 32 r with
  | some (a,b)=>if a = [] then none else some ⟨2,a,[],[],b,0⟩
  | none=>none)
 else if w = wDo then (match eQ 32 r with
  | some (a,b)=>(match eR a with
   | some n=>some ⟨3,[],[],[],b,n⟩
   | none=>none)
  | none=>none)
 else if w = iQ then (let l:=cA 32 r; if l.length ≠ 2 ∨ [] ∈ l then none else some ⟨4,l.getD 0 [],[],[],l.getD 1 [],1⟩)
 else if w = kH then (let l:=cA 32 r; if l.length ≠ 2 ∨ [] ∈ l then none else some ⟨4,l.getD 0 [],[],[],l.getD 1 [],0⟩)
 else if w = jT then (match eR r with
  | some n=>some ⟨8,[],[],[],[],n⟩
  | none=>none)
 else none
def kW (l : Bs) : Option Stp :=
 if l = jN then some (st0 5) else if l = oL then some (st0 6) else if l = oF then some (st0 7) else
 match eQ 32 l with
 | none=>none
 | some (w,r)=>aLi w r
def iI (l : Bs) : Option Stp :=
 let w:=cA 32 l
 if w.length = 1 then (if l = jN then some (st0 5) else if l = oL then some (st0 6) else if l = oF then some (st0 7) else none)
 else
  let empty:=[] ∈ w.drop 1
  let w0:=w.getD 0 []
  let w1:=w.getD 1 []
  if w0 = dI then (if w.length < 3 ∨ empty then none else some ⟨1,w1,w.getD 2 [],w.drop 3,[],0⟩)
  else if w0 = eF then (if w.length < 3 ∨ w1 = [] then none else some ⟨2,w1,[],[],l.drop (7 + w1.length + 1),0⟩)
  else if w0 = wDo then (if w.length < 3 then none else match eR w1 with
   | none=>none
   | some n=>some ⟨3,[],[],[],l.drop (3 + w1.length + 1),n⟩)
  else if w0 = iQ ∨ w0 = kH then (if w.length ≠ 3 ∨ empty then none else some ⟨4,w1,[],[],w.getD 2 [],if w0 = iQ then 1 else 0⟩)
  else if w0 = jT then (if w.length ≠ 2 then none else match eR w1 with
   | none=>none
   | some n=>some ⟨8,[],[],[],[],n⟩)
  else none
theorem bGw {s : Bs} (h : 32 ∈ s) : eR s = none:=by
 unfold eR
 rw [if_pos]
 right; right; right
 rw [List.all_eq_false]
 exact ⟨32,h,by decide⟩
theorem bCx {c : Nat} {s a r : Bs} (h : eQ c s = some (a,r)) : c ∈ s:=by
 rw [kA h]; simp
theorem tZ {l : Bs} (h : eQ 32 l ≠ none) {w : Bs} (hw : eQ 32 w = none) : l ≠ w:=fun e=>h (e ▸ hw)
theorem bFk (l : Bs) : kW l = iI l:=by
 unfold kW iI
 cases hc : eQ 32 l with
 | none =>
  simp only [jA hc,List.length_singleton,if_true]
 | some p =>
  obtain ⟨w,r⟩:=p
  have hn : eQ 32 l ≠ none:=by rw [hc]; simp
  rw [if_neg (tZ hn (w:=jN) (by decide)),if_neg (tZ hn (w:=oL) (by decide)),if_neg (tZ hn (w:=oF) (by decide))]
  have hl:=kA hc
  simp only [kD hc]
  have hs:=sE 32 r
  obtain ⟨a,t,hr⟩ : ∃ a t,cA 32 r = a :: t:=by
   cases e : cA 32 r with
   | nil=>exact absurd e hs
   | cons a t=>exact ⟨a,t,rfl⟩
  unfold aLi
  simp only [hr,List.length_cons,List.getD_cons_zero,List.getD_cons_succ,List.drop_succ_cons,List.drop_zero]
  rw [if_neg (show ¬ t.length + 1 + 1 = 1 by omega)]
  have cutr : (eQ 32 r = none ∧ t = []) ∨ ∃ b,eQ 32 r = some (a,b) ∧ t ≠ []:=by
   cases e : eQ 32 r with
   | none =>
    have:=jA e
    rw [hr] at this
    cases this
    exact .inl ⟨rfl,rfl⟩
   | some q =>
    obtain ⟨a',b⟩:=q
    have:=kD e
    rw [hr] at this
    cases this
    exact .inr ⟨b,rfl,sE 32 b⟩
  by_cases h1 : w = dI
  ·rw [if_pos h1,if_pos h1]
   by_cases h2 : t.length + 1 < 2 ∨ [] ∈ a :: t
   ·rw [if_pos h2,if_pos (by rcases h2 with h2 | h2; exact .inl (by omega); exact .inr h2)]
   ·rw [if_neg h2,if_neg (by intro h3; exact h2 (by rcases h3 with h3 | h3; exact .inl (by omega); exact .inr h3))]
  rw [if_neg h1,if_neg h1]
  by_cases h2 : w = eF
  ·rw [if_pos h2,if_pos h2]
   rcases cutr with ⟨e,ht⟩ | ⟨b,e,ht⟩
   ·rw [e,ht]
    rw [if_pos (.inl (by simp))]
   ·have h3 : ¬ t.length + 1 + 1 < 3:=by
     cases t with
     | nil=>exact absurd rfl ht
     | cons _ _=>simp
    rw [e]
    simp only [h3,false_or]
    by_cases h4 : a = []
    ·rw [if_pos h4,if_pos h4]
    ·rw [if_neg h4,if_neg h4,hl,h2,kA e]
     have : (eF ++ 32 :: (a ++ 32 :: b)).drop (7 + a.length + 1) = b:=by
      have e1 : eF ++ 32 :: (a ++ 32 :: b) = (eF ++ [32] ++ a ++ [32]) ++ b:=by simp
      rw [e1,List.drop_append_of_le_length (by simp [eF]; omega)]
      rw [List.drop_of_length_le (by simp [eF]; omega)]
      rfl
     rw [this]
  rw [if_neg h2,if_neg h2]
  by_cases h3 : w = wDo
  ·rw [if_pos h3,if_pos h3]
   rcases cutr with ⟨e,ht⟩ | ⟨b,e,ht⟩
   ·rw [e,ht,if_pos (by simp)]
   ·have h4 : ¬ t.length + 1 + 1 < 3:=by
     cases t with
     | nil=>exact absurd rfl ht
     | cons _ _=>simp
    rw [e,if_neg h4]
    cases hna : eR a with
    | none=>simp only [hna]
    | some n =>
     have : l.drop (3 + a.length + 1) = b:=by
      rw [hl,h3,kA e]
      have e1 : wDo ++ 32 :: (a ++ 32 :: b) = (wDo ++ [32] ++ a ++ [32]) ++ b:=by simp
      rw [e1,List.drop_append_of_le_length (by simp [wDo]; omega),List.drop_of_length_le (by simp [wDo]; omega)]
      rfl
     simp only [hna,this]
  rw [if_neg h3,if_neg h3]
  have tier : (t.length + 1 ≠ 2 ∨ [] ∈ a :: t) ↔ (t.length + 1 + 1 ≠ 3 ∨ [] ∈ a :: t) :=
   ⟨fun h=>h.elim (fun h=>.inl (by omega)) .inr,fun h=>h.elim (fun h=>.inl (by omega)) .inr⟩
  by_cases h4 : w = iQ
  ·rw [if_pos h4,if_pos (Or.inl h4)]
   by_cases h5 : t.length + 1 ≠ 2 ∨ [] ∈ a :: t
   ·rw [if_pos h5,if_pos (tier.1 h5)]
   ·rw [if_neg h5,if_neg (fun h=>h5 (tier.2 h)),if_pos h4]
  rw [if_neg h4]
  by_cases h5 : w = kH
  ·rw [if_pos h5,if_pos (Or.inr h5)]
   by_cases h6 : t.length + 1 ≠ 2 ∨ [] ∈ a :: t
   ·rw [if_pos h6,if_pos (tier.1 h6)]
   ·rw [if_neg h6,if_neg (fun h=>h6 (tier.2 h)),if_neg h4]
  have h45 : ¬ (w = iQ ∨ w = kH):=fun h=>h.elim h4 h5
  rw [if_neg h5,if_neg h45]
  by_cases h6 : w = jT
  ·rw [if_pos h6,if_pos h6]
   rcases cutr with ⟨e,ht⟩ | ⟨b,e,ht⟩
   ·have : cA 32 r = [r]:=jA e
    rw [hr] at this
    cases this
    rw [if_neg (by simp)]
    cases hna : eR r <;> simp only [hna]
   ·rw [bGw (bCx e),if_pos]
    intro h
    cases t with
    | nil=>exact ht rfl
    | cons _ _=>simp at h
  rw [if_neg h6,if_neg h6]
theorem aMd {c : Nat} : ∀ {a : Bs},c ∉ a → ∀ r,cA c (a ++ c :: r) = a :: cA c r
 | [],_,r=>by show cA c (c :: r) = _; rw [cA,if_pos rfl]
 | x :: a,h,r=>by
  have hx : x ≠ c:=fun e=>h (by simp [e])
  have ha : c ∉ a:=fun e=>h (by simp [e])
  show cA c (x :: (a ++ c :: r)) = _
  rw [cA,if_neg hx,aMd ha]
def yP (sep : Bs) : List Bs → Bs
 | []=>[]
 | [x]=>x
 | x :: y :: l=>x ++ (sep ++ yP sep (y :: l))
def fG : List Bs → Bs
 | []=>[]
 | x :: l=>32 :: (x ++ fG l)
theorem zV (x : Bs) : ∀ l : List Bs,yP [32] (x :: l) = x ++ fG l
 | []=>by simp [yP,fG]
 | y :: l=>by
  show x ++ ([32] ++ yP [32] (y :: l)) = x ++ (32 :: (y ++ fG l))
  rw [zV y l]
  rfl
def dU (dg : Int → Bs) (s : Stp) : Bs :=
 if s.op = 1 then yP [32] (dI :: s.nm :: s.sup :: s.names)
 else if s.op = 2 then eF ++ 32 :: (s.nm ++ 32 :: s.tx)
 else if s.op = 3 then wDo ++ 32 :: (dg s.n ++ 32 :: s.tx)
 else if s.op = 4 then (if s.n = 1 then iQ else kH) ++ 32 :: (s.nm ++ 32 :: s.tx)
 else if s.op = 5 then jN else if s.op = 6 then oL else if s.op = 7 then oF
 else jT ++ 32 :: dg s.n
def mT (dg : Int → Bs) : Bs → List Stp → Option Bs
 | out,[]=>some out
 | out,s :: l =>
  let t:=dU dg s
  if kW t = some s ∧ 10 ∉ t then mT dg (out ++ t ++ [10]) l else none
theorem bNr {t : Bs} : (cA 10 t).length > 1 ↔ 10 ∈ t:=by
 constructor
 ·intro h
  cases e : eQ 10 t with
  | none=>rw [jA e] at h; simp at h
  | some p=>obtain ⟨a,r⟩:=p; exact bCx e
 ·intro h
  cases e : eQ 10 t with
  | none =>
   exfalso
   have : ∀ s : Bs,eQ 10 s = none → 10 ∉ s:=by
    intro s
    induction s with
    | nil=>intro _; simp
    | cons x s ih =>
     intro hs
     unfold eQ at hs
     split at hs
     ·cases hs
     ·rename_i hx
      have : eQ 10 s = none:=by
       cases q : eQ 10 s with
       | none=>rfl
       | some p=>rw [q] at hs; cases hs
      simp only [List.mem_cons,not_or]
      exact ⟨fun e=>hx e.symm,ih this⟩
   exact this t e h
  | some p =>
   obtain ⟨a,r⟩:=p
   rw [kD e]
   have:=sE 10 r
   cases q : cA 10 r with
   | nil=>exact absurd q this
   | cons _ _=>simp
def cY : Bs → Bs
 | []=>[]
 | x :: t=>if x = 10 then 92 :: 110 :: cY t else if x = 34 ∨ x = 92 then 92 :: x :: cY t else x :: cY t
end Go.Dd

namespace Go.Dd
open Go.Proofs
def cf (f : Func) : Code:=match f.body with
 | some c=>c
 | none=>.skip
def cL : Code → Code
 | .seq a _=>a
 | .cond _ a _=>a
 | .block _ a=>a
 | .loop a=>a
 | .scope a=>a
 | c=>c
def cR : Code → Code
 | .seq _ b=>b
 | .cond _ _ b=>b
 | c=>c
def cC : Code → Operand
 | .cond c _ _=>c
 | _=>.const .nilFunc
def x0 : Nat → K:=fun _=>cV
def xs (X : Nat → K) (i : Nat) (k : K) : Nat → K:=fun j=>bif Nat.beq j i then k else X j
def sU (c : Nat) : List Nat → Nat → Int
 | [],_=>.negSucc 0
 | x :: l,i=>bif Nat.beq x c then .ofNat i else sU c l (i + 1)
def aNu (args : List DV) (h : Hp) : aH :=
 match args with
 | [.s l,.i .u8 (.ofNat c)]=>bif Nat.blt c 256 then some (.i .i64 (sU c l 0),h) else none
 | _=>none
def CF0 : Cfg:=⟨Tryz.prog,fun _=>none⟩
def nS (p : Pos) : Pos → Bool:=Pos.rec (motive:=fun _=>Pos → Bool) (fun q=>Pos.rec (motive:=fun _=>Bool) true (fun _ _=>false) (fun _ _=>false) q)
 (fun _ ih q=>Pos.rec (motive:=fun _=>Bool) false (fun q _=>ih q) (fun _ _=>false) q) (fun _ ih q=>Pos.rec (motive:=fun _=>Bool) false (fun _ _=>false) (fun q _=>ih q) q) p
def kR (q : Pos) (l1 : DV) (cs : List DV) (h : Hp) : aH :=
 match l1 with
 | .l0=>some (.l h.next 0 1 1,⟨h.next.succ,Tr.set (.row (.gr 4) cs) h.next h.bl⟩)
 | .l b o len cap=>cnd (Nat.ble cap len && !(nS b q)) (match h.bl.get b,cellsAt b o (len * 4) h with
  | some (.row (.gr es) l),some old=>if es = 4 ∧ o + cap * 4 = l.length ∧ (len + 1) * 56 ≤ kY then
    some (.l h.next 0 (len + 1) (len + 1),⟨h.next.succ,Tr.set (.row (.gr 4) (old ++ cs)) h.next (Tr.set (.row .sp (bR o l)) b h.bl)⟩) else none
  | _,_=>none)
 | _=>none
def uS (c q : Pos) (h : Hp) : aH :=
 bnd (aA (.p c 4) h) fun l1 _ =>
 bnd (cB l1 h) fun n _ =>
 bnd (aK 4 (.p q 0) h) fun x _ =>
 match x with
 | .a cs=>cnd (!(nS c q)) (
  bnd (kR q l1 cs ⟨h.next.succ.succ,h.bl⟩) fun l2 h3 =>
  bnd (aG 1 (.p c 4) l2 h3) fun _ h4=>some (n,h4))
 | _=>none
def bFm (args : List DV) (h : Hp) : aH :=
 match args with
 | [.p c 0,.a lit] =>
  bnd (bY lit h) fun _ h1 =>
  bnd (aA (.p c 4) h1) fun ls h2 =>
  bnd (mS CF0 60 425 [ls,.f 426 [] [.p h.next 0]] h2) fun i h3 =>
  bnd (aD .lss i (.i .i64 (Int.ofNat 0)) h3) fun t h4 =>
  aT t (uS c h.next h4) (some (i,h4))
 | _=>none
def aMv (c : Nat) (new : List Nat) : List Nat → List Nat
 | []=>[]
 | x :: l=>bif Nat.beq x c then new ++ aMv c new l else x :: aMv c new l
def aDd (args : List DV) (h : Hp) : aH :=
 match args with
 | [.s s,.s [c],.s new]=>bif Nat.blt c 256 then (bif Nat.ble s.length 4000000000 then (bif Nat.ble new.length 1000 then some (.s (aMv c new s),h) else none) else none) else none
 | _=>none
def iC : Nat → Nat → List Nat → List Nat
 | 0,_,acc=>acc
 | f + 1,n,acc=>bif Nat.ble 10 n then iC f (Nat.div n 10) (Nat.add 48 (Nat.mod n 10) :: acc) else Nat.add 48 n :: acc
def cG : Int → List Nat
 | .ofNat n=>iC 20 n []
 | .negSucc n=>45 :: iC 20 (Nat.succ n) []
def jP (args : List DV) (h : Hp) : aH :=
 match args with
 | [.i .i64 n]=>bif decide (-9223372036854775808 ≤ n) && decide (n ≤ 9223372036854775807) then some (.s (cG n),h) else none
 | _=>none
def jK (sep : List Nat) : List (List Nat) → List Nat
 | []=>[]
 | [x]=>x
 | x :: y :: l=>x ++ (sep ++ jK sep (y :: l))
def nO : List DV → Option (List (List Nat))
 | []=>some []
 | .s x :: l=>(nO l).map (x :: ·)
 | _ :: _=>none
def bKy (x : DV) : Bool:=match x with
 | .l _ _ n c=>Nat.ble n c
 | .lx _ _ _ _=>false
 | _=>true
def pT (args : List DV) (h : Hp) : aH :=
 match args with
 | [.s _,_]=>none
 | [x,.s sep]=>match lM 1 x h with
  | some (n,cells)=>match nO cells with
   | some l=>bif Nat.ble (jK sep l).length 100000000000 then (bif Nat.ble n 100000000000 && bKy x then some (.s (jK sep l),h) else none) else none
   | none=>none
  | none=>none
 | _=>none
def mU (args : List DV) (h : Hp) : aH :=
 match args with
 | [.s s,.s [c],.i .i64 (.ofNat 0),.i .i64 (.negSucc 0)]=>bif Nat.blt c 256 then (bif Nat.ble s.length 4000000000 then (fun l=>some (.l h.next 0 l.length l.length,⟨h.next.succ,Tr.set (.row .ex (l.map DV.s)) h.next h.bl⟩)) (cA c s) else none) else none
 | _=>none
def tL (args : List DV) (h : Hp) : aH :=
 match args with
 | [.s s,.s [c]]=>bif Nat.blt c 256 then (bif Nat.ble s.length 4000000000 then (match eQ c s with
  | some (a,r)=>some (.t [.s a,.s r,.b true],h)
  | none=>some (.t [.s s,.s [],.b false],h)) else none) else none
 | _=>none
def aCc (s : List Nat) : Int:=match Lib.atoiAll (s.map UInt8.ofNat) with
 | .ok v=>v
 | Lib.NumEnd.syntax=>0
 | .range=>Lib.atoiSat (s.map UInt8.ofNat)
def gK (args : List DV) (h : Hp) : aH :=
 match args with
 | [.s s]=>bif Nat.ble s.length 4000000000 then (match eR s with
  | some n=>some (.t [.i .i64 (.ofNat n),.b true],h)
  | none=>some (.t [.i .i64 (aCc s),.b false],h)) else none
 | _=>none
def lB (args : List DV) (h : Hp) : aH :=
 match args with
 | [.s s]=>bif Nat.ble s.length 100000 then some (.s (34 :: (cY s ++ [34])),h) else none
 | _=>none
def qC (g : FuncId) : Option (List DV → Hp → aH):=bif Nat.beq g 68 then some aNu else bif Nat.beq g 351 then some bFm else bif Nat.beq g 24 then some jP else bif Nat.beq g 235 then some aDd else bif Nat.beq g 23 then some pT else bif Nat.beq g 32 then some mU else bif Nat.beq g 33 then some tL else bif Nat.beq g 74 then some gK else bif Nat.beq g 25 then some lB else none
def orI (a b : Option (List DV → Hp → aH)) : Option (List DV → Hp → aH):=match a with
 | some F=>some F
 | none=>b
def CF1 : Cfg:=⟨Tryz.prog,qC⟩
def CF : Cfg:=⟨Tryz.prog,fun g=>orI (qC g) (aKp g)⟩
def fU : Code → Array Oper
 | .region _ ops _=>ops
 | _ => #[]
def itL : Code:=cL (cL (cR (cf Tryz.f414)))
def itB : Code:=cL (cL (cR itL))
def dPp : List Oper → Nat → Oper
 | [],_=>⟨none,.move (.const .nilFunc),0,"", #[],none⟩
 | o :: _,0=>o
 | _ :: l,n + 1=>dPp l n
def itm : ItC:={ gf:=414,nt:=31,pre:=cL (cf Tryz.f414),b0:=0,test:=cL itL,b1:=1,rid:=3,front:=(fU (cL (cL itB))).toList.take 4,y:=dPp (fU (cL (cL itB))).toList 4,back:=(fU (cL (cL itB))).toList.drop 5,after:=cR (cL itB),post:=cR itB,step:=cR (cR itL),yd:=26,yt:=22,yx:=25 }
def rgB (g : FuncId) : Bool:=Nat.beq g 495 || Nat.beq g 283
abbrev fT (C : Cfg) (n : Nat) : FuncId → List DV → Hp → aH:=fnR C itm rgB n
theorem cI (f : FuncId) (hf : rgB f = false) (C : Cfg) (n : Nat) (args : List DV) (h : Hp) : fT C (n + 1) f args h = aF C (fT C n) n f args h:=by
 show (bif rgB f then jU C (fT C n) n itm f else aF C (fT C n) n f) args h = _
 rw [hf]
 rfl
theorem dHv (f : FuncId) (hf : rgB f = true) (C : Cfg) (n : Nat) (args : List DV) (h : Hp) : fT C (n + 1) f args h = jU C (fT C n) n itm f args h:=by
 show (bif rgB f then jU C (fT C n) n itm f else aF C (fT C n) n f) args h = _
 rw [hf]
 rfl
abbrev RT:=FuncId → List DV → Hp → aH
abbrev TT0:=Hp → aH
abbrev TT1:=DV → Hp → aH
abbrev TT2:=DV → DV → Hp → aH
abbrev dP:=DV → DV → DV → Hp → aH
abbrev eJ:=DV → DV → DV → DV → Hp → aH
abbrev dJ:=DV → DV → DV → DV → DV → Hp → aH
abbrev gU:=DV → DV → DV → DV → DV → DV → Hp → aH
abbrev TT7:=DV → DV → DV → DV → DV → DV → DV → Hp → aH
abbrev TT8:=DV → DV → DV → DV → DV → DV → DV → DV → Hp → aH
abbrev TT9:=DV → DV → DV → DV → DV → DV → DV → DV → DV → Hp → aH
abbrev aTv:=DV → DV → DV → DV → DV → DV → DV → DV → DV → DV → Hp → aH
abbrev dIy:=DV → DV → DV → DV → DV → DV → DV → DV → DV → DV → DV → Hp → aH
abbrev dUp:=DV → DV → DV → DV → DV → DV → DV → DV → DV → DV → DV → DV → Hp → aH
abbrev dRt:=DV → DV → DV → DV → DV → DV → DV → DV → DV → DV → DV → DV → DV → Hp → aH
abbrev dRk:=DV → DV → DV → DV → DV → DV → DV → DV → DV → DV → DV → DV → DV → DV → Hp → aH
abbrev dXk:=DV → DV → DV → DV → DV → DV → DV → DV → DV → DV → DV → DV → DV → DV → DV → Hp → aH
abbrev dRv:=DV → DV → DV → DV → DV → DV → DV → DV → DV → DV → DV → DV → DV → DV → DV → DV → Hp → aH
abbrev dVs:=DV → DV → DV → DV → DV → DV → DV → DV → DV → DV → DV → DV → DV → DV → DV → DV → DV → Hp → aH
abbrev dVn:=DV → DV → DV → DV → DV → DV → DV → DV → DV → DV → DV → DV → DV → DV → DV → DV → DV → DV → Hp → aH
abbrev dRl:=DV → DV → DV → DV → DV → DV → DV → DV → DV → DV → DV → DV → DV → DV → DV → DV → DV → DV → DV → Hp → aH
abbrev dVr:=DV → DV → DV → DV → DV → DV → DV → DV → DV → DV → DV → DV → DV → DV → DV → DV → DV → DV → DV → DV → Hp → aH
abbrev K0 (f : TT0) : K:=fun env h=>f h
abbrev K1 (f : TT1) (a0 : Nat) : K:=fun env h=>f (env a0) h
abbrev K2 (f : TT2) (a0 a1 : Nat) : K:=fun env h=>f (env a0) (env a1) h
abbrev K3 (f : dP) (a0 a1 a2 : Nat) : K:=fun env h=>f (env a0) (env a1) (env a2) h
abbrev K4 (f : eJ) (a0 a1 a2 a3 : Nat) : K:=fun env h=>f (env a0) (env a1) (env a2) (env a3) h
abbrev K5 (f : dJ) (a0 a1 a2 a3 a4 : Nat) : K:=fun env h=>f (env a0) (env a1) (env a2) (env a3) (env a4) h
abbrev K6 (f : gU) (a0 a1 a2 a3 a4 a5 : Nat) : K:=fun env h=>f (env a0) (env a1) (env a2) (env a3) (env a4) (env a5) h
abbrev K7 (f : TT7) (a0 a1 a2 a3 a4 a5 a6 : Nat) : K:=fun env h=>f (env a0) (env a1) (env a2) (env a3) (env a4) (env a5) (env a6) h
abbrev K8 (f : TT8) (a0 a1 a2 a3 a4 a5 a6 a7 : Nat) : K:=fun env h=>f (env a0) (env a1) (env a2) (env a3) (env a4) (env a5) (env a6) (env a7) h
abbrev K9 (f : TT9) (a0 a1 a2 a3 a4 a5 a6 a7 a8 : Nat) : K:=fun env h=>f (env a0) (env a1) (env a2) (env a3) (env a4) (env a5) (env a6) (env a7) (env a8) h
abbrev K10 (f : aTv) (a0 a1 a2 a3 a4 a5 a6 a7 a8 a9 : Nat) : K:=fun env h=>f (env a0) (env a1) (env a2) (env a3) (env a4) (env a5) (env a6) (env a7) (env a8) (env a9) h
abbrev K11 (f : dIy) (a0 a1 a2 a3 a4 a5 a6 a7 a8 a9 a10 : Nat) : K:=fun env h=>f (env a0) (env a1) (env a2) (env a3) (env a4) (env a5) (env a6) (env a7) (env a8) (env a9) (env a10) h
abbrev K12 (f : dUp) (a0 a1 a2 a3 a4 a5 a6 a7 a8 a9 a10 a11 : Nat) : K:=fun env h=>f (env a0) (env a1) (env a2) (env a3) (env a4) (env a5) (env a6) (env a7) (env a8) (env a9) (env a10) (env a11) h
abbrev K13 (f : dRt) (a0 a1 a2 a3 a4 a5 a6 a7 a8 a9 a10 a11 a12 : Nat) : K:=fun env h=>f (env a0) (env a1) (env a2) (env a3) (env a4) (env a5) (env a6) (env a7) (env a8) (env a9) (env a10) (env a11) (env a12) h
abbrev K14 (f : dRk) (a0 a1 a2 a3 a4 a5 a6 a7 a8 a9 a10 a11 a12 a13 : Nat) : K:=fun env h=>f (env a0) (env a1) (env a2) (env a3) (env a4) (env a5) (env a6) (env a7) (env a8) (env a9) (env a10) (env a11) (env a12) (env a13) h
abbrev K15 (f : dXk) (a0 a1 a2 a3 a4 a5 a6 a7 a8 a9 a10 a11 a12 a13 a14 : Nat) : K:=fun env h=>f (env a0) (env a1) (env a2) (env a3) (env a4) (env a5) (env a6) (env a7) (env a8) (env a9) (env a10) (env a11) (env a12) (env a13) (env a14) h
abbrev K16 (f : dRv) (a0 a1 a2 a3 a4 a5 a6 a7 a8 a9 a10 a11 a12 a13 a14 a15 : Nat) : K:=fun env h=>f (env a0) (env a1) (env a2) (env a3) (env a4) (env a5) (env a6) (env a7) (env a8) (env a9) (env a10) (env a11) (env a12) (env a13) (env a14) (env a15) h
abbrev K17 (f : dVs) (a0 a1 a2 a3 a4 a5 a6 a7 a8 a9 a10 a11 a12 a13 a14 a15 a16 : Nat) : K:=fun env h=>f (env a0) (env a1) (env a2) (env a3) (env a4) (env a5) (env a6) (env a7) (env a8) (env a9) (env a10) (env a11) (env a12) (env a13) (env a14) (env a15) (env a16) h
abbrev K18 (f : dVn) (a0 a1 a2 a3 a4 a5 a6 a7 a8 a9 a10 a11 a12 a13 a14 a15 a16 a17 : Nat) : K:=fun env h=>f (env a0) (env a1) (env a2) (env a3) (env a4) (env a5) (env a6) (env a7) (env a8) (env a9) (env a10) (env a11) (env a12) (env a13) (env a14) (env a15) (env a16) (env a17) h
abbrev K19 (f : dRl) (a0 a1 a2 a3 a4 a5 a6 a7 a8 a9 a10 a11 a12 a13 a14 a15 a16 a17 a18 : Nat) : K:=fun env h=>f (env a0) (env a1) (env a2) (env a3) (env a4) (env a5) (env a6) (env a7) (env a8) (env a9) (env a10) (env a11) (env a12) (env a13) (env a14) (env a15) (env a16) (env a17) (env a18) h
abbrev K20 (f : dVr) (a0 a1 a2 a3 a4 a5 a6 a7 a8 a9 a10 a11 a12 a13 a14 a15 a16 a17 a18 a19 : Nat) : K:=fun env h=>f (env a0) (env a1) (env a2) (env a3) (env a4) (env a5) (env a6) (env a7) (env a8) (env a9) (env a10) (env a11) (env a12) (env a13) (env a14) (env a15) (env a16) (env a17) (env a18) (env a19) h
theorem okG {d s : K} (m : d = s) (args : List DV) (h : Hp) {a b : aH} (e1 : a = d (aJ args) h) (e2 : s (aJ args) h = b) : a = b :=
 e1.trans ((congrFun (congrFun m (aJ args)) h).trans e2)
abbrev aN (n : Nat) : DV:=.i .i64 (Int.ofNat n)
abbrev zr6 : List DV:=[(.i .i64 (Int.ofNat 0)),(.s []),(.i .i64 (Int.ofNat 0)),.l0,.l0,.l0]
abbrev aV (args : List DV) (i : Nat) : DV:=args.getD i aS
end Go.Dd

namespace Go.Dd
open Go.Proofs
variable (r : RT) (n : Nat) (args : List DV) (h : Hp)
def cCu (r : RT) (n : Nat) (x0 : DV) (h0 : Hp) : aH :=
 bnd (r 8 [x0] h0) fun v1 h1 =>
 bnd (aC 0 v1 h1) fun v2 h2 =>
 bnd (aC 1 v1 h2) fun v3 h3 =>
 bnd (aC 2 v1 h3) fun v4 h4 =>
 bnd (r 9 [x0] h4) fun v5 h5 =>
 bnd (aC 0 v5 h5) fun v6 h6 =>
 bnd (aC 1 v5 h6) fun v7 h7 =>
 bnd (aC 2 v5 h7) fun v8 h8 =>
 bnd (r 10 [v2,v6] h8) fun v9 h9 =>
 bnd (gD v9 true (some (v3,h9)) h9) fun v10 h10 =>
 bnd (gD v9 true (some (v7,h10)) h10) fun v11 h11 =>
 bnd (gD v9 true (aD .eql v10 v11 h11) h11) fun v12 h12 =>
 bnd (aP v9 v12 (.b false) h12) fun v13 h13 =>
 bnd (gD v13 true (some (v4,h13)) h13) fun v14 h14 =>
 bnd (gD v13 true (some (v8,h14)) h14) fun v15 h15 =>
 bnd (gD v13 true (aD .eql v14 v15 h15) h15) fun v16 h16 =>
 bnd (aP v13 v16 (.b false) h16) fun v17 h17 =>
 bnd (gD v17 true (r 11 [] h17) h17) fun v18 h18 =>
 bnd (aP v17 v18 (.b false) h18) fun v19 h19 =>
 some (v19,h19)
def dAl (r : RT) (n : Nat) (x0 : DV) (h0 : Hp) : aH :=
 bnd (cM x0 h0) fun v1 h1 =>
 bnd (aD .gtr v1 (.i .i64 (Int.ofNat 2000)) h1) fun v2 h2 =>
 aT v2 (
 bnd (cK x0 none (some (.i .i64 (Int.ofNat 2000))) h2) fun v3 h3 =>
  cCu r n v3 h3) (
  cCu r n x0 h2)
def s3 (r : RT) (n : Nat) (x0 : DV) (h0 : Hp) : aH :=
 dAl r n x0 h0
abbrev c3 : Code:=cf Tryz.f3
abbrev cKp : Code:=cR c3
abbrev dSk : Code:=cR cKp
abbrev dOt : Code:=cL cKp
abbrev dMo : Code:=cL c3
abbrev r3 : K:=aR CF Tryz.f3
def D3 (r : RT) (n : Nat) (c : Code) (X : Nat → K) (k : K) : K:=aM CF r 44 n c X r3 k
theorem dJt : D3 r n dSk x0 r3 = (K1 (cCu r n) 0) :=
 (by kernel_rfl)
theorem cWz : D3 r n cKp x0 r3 = D3 r n dOt x0 (K1 (cCu r n) 0) :=
 congrArg (fun k=>D3 r n dOt x0 k) (dJt r n)
theorem dLn : D3 r n cKp x0 r3 = (K1 (dAl r n) 0) :=
 (cWz r n).trans
 ((by kernel_rfl))
theorem dVm : D3 r n c3 x0 r3 = D3 r n dMo x0 (K1 (dAl r n) 0) :=
 congrArg (fun k=>D3 r n dMo x0 k) (dLn r n)
theorem s3m : D3 r n c3 x0 r3 = (K1 (s3 r n) 0) :=
 (dVm r n).trans
 ((by kernel_rfl))
theorem dXm : aF CF r n 3 args h = s3 r n (aV args 0) h :=
 (by kernel_rfl : aF CF r n 3 args h = D3 r n c3 x0 r3 (aJ args) h).trans ((congrFun (congrFun (s3m r n) (aJ args)) h).trans (by kernel_rfl))
def iE (r : RT) (n : Nat) (x8 x9 x11 x12 x13 x14 : DV) (h0 : Hp) : aH :=
 bnd (eZ x14 h0) fun v1 h1 =>
 bnd (r 8 [v1] h1) fun v2 h2 =>
 bnd (aC 0 v2 h2) fun v3 h3 =>
 bnd (aC 1 v2 h3) fun v4 h4 =>
 bnd (aC 2 v2 h4) fun v5 h5 =>
 bnd (eZ x14 h5) fun v6 h6 =>
 bnd (bI .add v6 (.s [34]) h6) fun v7 h7 =>
 bnd (r 8 [v7] h7) fun v8 h8 =>
 bnd (aC 0 v8 h8) fun v9 h9 =>
 bnd (aC 1 v8 h9) fun v10 h10 =>
 bnd (aC 2 v8 h10) fun v11 h11 =>
 bnd (gD x13 true (some (x8,h11)) h11) fun v12 h12 =>
 bnd (gD x13 true (some (x11,h12)) h12) fun v13 h13 =>
 bnd (gD x13 true (aD .eql v12 v13 h13) h13) fun v14 h14 =>
 bnd (aP x13 v14 (.b false) h14) fun v15 h15 =>
 bnd (gD v15 true (some (x9,h15)) h15) fun v16 h16 =>
 bnd (gD v15 true (some (x12,h16)) h16) fun v17 h17 =>
 bnd (gD v15 true (aD .eql v16 v17 h17) h17) fun v18 h18 =>
 bnd (aP v15 v18 (.b false) h18) fun v19 h19 =>
 bnd (gD v19 true (some (v4,h19)) h19) fun v20 h20 =>
 bnd (gD v19 true (aD .eql v20 (.i .i64 (Int.ofNat 0)) h20) h20) fun v21 h21 =>
 bnd (aP v19 v21 (.b false) h21) fun v22 h22 =>
 bnd (gD v22 true (some (v5,h22)) h22) fun v23 h23 =>
 bnd (gD v22 true (aD .eql v23 (.i .i64 (Int.ofNat 0)) h23) h23) fun v24 h24 =>
 bnd (aP v22 v24 (.b false) h24) fun v25 h25 =>
 bnd (gD v25 true (some (v10,h25)) h25) fun v26 h26 =>
 bnd (gD v25 true (aD .eql v26 (.i .i64 (Int.ofNat 0)) h26) h26) fun v27 h27 =>
 bnd (aP v25 v27 (.b false) h27) fun v28 h28 =>
 bnd (gD v28 true (some (v11,h28)) h28) fun v29 h29 =>
 bnd (gD v28 true (aD .eql v29 (.i .i64 (Int.ofNat 31)) h29) h29) fun v30 h30 =>
 bnd (aP v28 v30 (.b false) h30) fun v31 h31 =>
 bnd (gD v31 true (r 11 [] h31) h31) fun v32 h32 =>
 bnd (aP v31 v32 (.b false) h32) fun v33 h33 =>
 some (v33,h33)
def bNv (r : RT) (n : Nat) (kk12 : TT7) (x8 x9 x11 x12 x13 x14 x15 : DV) (h0 : Hp) : aH :=
 bnd (cB x14 h0) fun v1 h1 =>
 bnd (aD .lss x15 v1 h1) fun v2 h2 =>
 aT v2 (
 bnd (aE 1 x14 x15 h2) fun v3 h3 =>
 bnd (aG 1 v3 (.i .u8 (Int.ofNat 10)) h3) fun _ h4 =>
 bnd (aD .add x15 (.i .i64 (Int.ofNat 1)) h4) fun v5 h5 =>
      kk12 x8 x9 x11 x12 x13 x14 v5 h5) (
      iE r n x8 x9 x11 x12 x13 x14 h2)
def aHh (r : RT) (n : Nat) (m : Nat) : TT7 :=
 Nat.rec (motive:=fun _=>TT7) (fun _ _ _ _ _ _ _ _=>none) (fun _ ih=>bNv r n ih) m
def cTy (r : RT) (n : Nat) : TT7:=aHh r n n
def bXa (r : RT) (n : Nat) (x8 x9 x11 x12 x13 x14 x15 : DV) (h0 : Hp) : aH :=
 cTy r n x8 x9 x11 x12 x13 x14 x15 h0
def bQw (r : RT) (n : Nat) (x8 x9 x11 x12 x13 x14 : DV) (h0 : Hp) : aH :=
 bXa r n x8 x9 x11 x12 x13 x14 (.i .i64 (Int.ofNat 0)) h0
def cNo (r : RT) (n : Nat) (x8 x9 x11 x12 x13 : DV) (h0 : Hp) : aH :=
 bnd (bU 1 1 [(.i .u8 (Int.ofNat 0))] (.i .i64 (Int.ofNat 20000)) (.i .i64 (Int.ofNat 20000)) h0) fun v1 h1 =>
  bQw r n x8 x9 x11 x12 x13 v1 h1
def dFy (r : RT) (n : Nat) (x7 x8 x9 x10 x11 x12 : DV) (h0 : Hp) : aH :=
 bnd (r 10 [x7,x10] h0) fun v1 h1 =>
  cNo r n x8 x9 x11 x12 v1 h1
def cYt (r : RT) (n : Nat) (x5 x7 x8 x9 : DV) (h0 : Hp) : aH :=
 bnd (r 9 [x5] h0) fun v1 h1 =>
 bnd (aC 0 v1 h1) fun v2 h2 =>
 bnd (aC 1 v1 h2) fun v3 h3 =>
 bnd (aC 2 v1 h3) fun v4 h4 =>
  dFy r n x7 x8 x9 v2 v3 v4 h4
def mZ (r : RT) (n : Nat) (x5 : DV) (h0 : Hp) : aH :=
 bnd (r 8 [x5] h0) fun v1 h1 =>
 bnd (aC 0 v1 h1) fun v2 h2 =>
 bnd (aC 1 v1 h2) fun v3 h3 =>
 bnd (aC 2 v1 h3) fun v4 h4 =>
  cYt r n x5 v2 v3 v4 h4
def bWk (r : RT) (n : Nat) (kk14 : eJ) (x0 x1 x5 x6 : DV) (h0 : Hp) : aH :=
 bnd (aD .rem x1 (.i .i64 (Int.ofNat 100)) h0) fun v1 h1 =>
 bnd (aD .lss x6 v1 h1) fun v2 h2 =>
 aT v2 (
 bnd (bI .add x5 x0 h2) fun v3 h3 =>
 bnd (bI .add v3 (.s [10]) h3) fun v4 h4 =>
 bnd (aD .add x6 (.i .i64 (Int.ofNat 1)) h4) fun v5 h5 =>
      kk14 x0 x1 v4 v5 h5) (
      mZ r n x5 h2)
def aJt (r : RT) (n : Nat) (m : Nat) : eJ :=
 Nat.rec (motive:=fun _=>eJ) (fun _ _ _ _ _=>none) (fun _ ih=>bWk r n ih) m
def cUf (r : RT) (n : Nat) : eJ:=aJt r n n
def bOj (r : RT) (n : Nat) (x0 x1 x5 x6 : DV) (h0 : Hp) : aH :=
 cUf r n x0 x1 x5 x6 h0
def cYn (r : RT) (n : Nat) (x0 x1 x5 : DV) (h0 : Hp) : aH :=
 bOj r n x0 x1 x5 (.i .i64 (Int.ofNat 0)) h0
def cEc (r : RT) (n : Nat) (x0 x1 : DV) (h0 : Hp) : aH :=
 cYn r n x0 x1 (.s []) h0
def cFs (r : RT) (n : Nat) (x0 x1 : DV) (h0 : Hp) : aH :=
 bnd (aD .lss x1 (.i .i64 (Int.ofNat 0)) h0) fun v1 h1 =>
 aT v1 (
 bnd (aD .add x1 (.i .i64 (Int.ofNat 1)) h1) fun v2 h2 =>
 bnd (gQ .neg v2 h2) fun v3 h3 =>
  cEc r n x0 v3 h3) (
  cEc r n x0 x1 h1)
def cUy (r : RT) (n : Nat) (x0 x1 : DV) (h0 : Hp) : aH :=
 bnd (cM x0 h0) fun v1 h1 =>
 bnd (aD .gtr v1 (.i .i64 (Int.ofNat 60)) h1) fun v2 h2 =>
 aT v2 (
 bnd (cK x0 none (some (.i .i64 (Int.ofNat 60))) h2) fun v3 h3 =>
  cFs r n v3 x1 h3) (
  cFs r n x0 x1 h2)
def s4 (r : RT) (n : Nat) (x0 x1 : DV) (h0 : Hp) : aH :=
 cUy r n x0 x1 h0
abbrev c4 : Code:=cf Tryz.f4
abbrev cFo : Code:=cR c4
abbrev cJt : Code:=cR cFo
abbrev cMw : Code:=cR cJt
abbrev cMq : Code:=cR cMw
abbrev cOt : Code:=cR cMq
abbrev cHf : Code:=cR cOt
abbrev cNs : Code:=cR cHf
abbrev cLx : Code:=cR cNs
abbrev cPy : Code:=cR cLx
abbrev dQo : Code:=cR cPy
abbrev aOe : Code:=cL cPy
abbrev bOg : Code:=cR aOe
abbrev aZs : Code:=cL bOg
abbrev aAh : Code:=cL aZs
abbrev cRq : Code:=cL aOe
abbrev bUd : Code:=cL cLx
abbrev cQl : Code:=cL cNs
abbrev cSm : Code:=cL cHf
abbrev cTm : Code:=cL cOt
abbrev aOw : Code:=cL cMq
abbrev bVk : Code:=cR aOw
abbrev bCq : Code:=cL bVk
abbrev aBq : Code:=cL bCq
abbrev cRf : Code:=cL aOw
abbrev cSl : Code:=cL cMw
abbrev cRj : Code:=cL cJt
abbrev cTq : Code:=cL cFo
abbrev cQz : Code:=cL c4
abbrev r4 : K:=aR CF Tryz.f4
def D4 (r : RT) (n : Nat) (c : Code) (X : Nat → K) (k : K) : K:=aM CF r 112 n c X r4 k
theorem cWq : D4 r n dQo x0 r4 = (K6 (iE r n) 8 9 11 12 13 14) :=
 (by kernel_rfl)
theorem cNe (kk12 : TT7) : D4 r n aAh (xs x0 2 (K6 (iE r n) 8 9 11 12 13 14)) (K7 kk12 8 9 11 12 13 14 15) = (K7 (bNv r n kk12) 8 9 11 12 13 14 15) :=
 (by kernel_rfl)
theorem cKq (m : Nat) : aL (fun kk=>D4 r n aAh (xs x0 2 (K6 (iE r n) 8 9 11 12 13 14)) kk) m = (K7 (aHh r n m) 8 9 11 12 13 14 15):=by
 induction m with
 | zero=>exact (by kernel_rfl : aL (fun kk=>D4 r n aAh (xs x0 2 (K6 (iE r n) 8 9 11 12 13 14)) kk) 0 = (K7 (aHh r n 0) 8 9 11 12 13 14 15))
 | succ m ih =>
  refine (by kernel_rfl : aL (fun kk=>D4 r n aAh (xs x0 2 (K6 (iE r n) 8 9 11 12 13 14)) kk) (m + 1) = D4 r n aAh (xs x0 2 (K6 (iE r n) 8 9 11 12 13 14)) (aL (fun kk=>D4 r n aAh (xs x0 2 (K6 (iE r n) 8 9 11 12 13 14)) kk) m)).trans ?_
  rw [ih]
  exact (cNe r n (aHh r n m)).trans (by kernel_rfl)
theorem cVl : D4 r n aZs (xs x0 2 (K6 (iE r n) 8 9 11 12 13 14)) (K6 (iE r n) 8 9 11 12 13 14) = (K7 (cTy r n) 8 9 11 12 13 14 15) :=
 (by kernel_rfl : D4 r n aZs (xs x0 2 (K6 (iE r n) 8 9 11 12 13 14)) (K6 (iE r n) 8 9 11 12 13 14) = aL (fun kk=>D4 r n aAh (xs x0 2 (K6 (iE r n) 8 9 11 12 13 14)) kk) n).trans ((cKq r n n).trans (by kernel_rfl))
theorem dBs : D4 r n bOg x0 (K6 (iE r n) 8 9 11 12 13 14) = (K7 (bXa r n) 8 9 11 12 13 14 15) :=
 (by kernel_rfl : D4 r n bOg x0 (K6 (iE r n) 8 9 11 12 13 14) = D4 r n aZs (xs x0 2 (K6 (iE r n) 8 9 11 12 13 14)) (K6 (iE r n) 8 9 11 12 13 14)).trans
 ((cVl r n).trans (by kernel_rfl))
theorem dEu : D4 r n cPy x0 r4 = D4 r n aOe x0 (K6 (iE r n) 8 9 11 12 13 14) :=
 congrArg (fun k=>D4 r n aOe x0 k) (cWq r n)
theorem cXh : D4 r n aOe x0 (K6 (iE r n) 8 9 11 12 13 14) = D4 r n cRq x0 (K7 (bXa r n) 8 9 11 12 13 14 15) :=
 congrArg (fun k=>D4 r n cRq x0 k) (dBs r n)
theorem dNp : D4 r n cPy x0 r4 = (K6 (bQw r n) 8 9 11 12 13 14) :=
 (dEu r n).trans
 ((cXh r n).trans
 ((by kernel_rfl)))
theorem cYz : D4 r n cLx x0 r4 = D4 r n bUd x0 (K6 (bQw r n) 8 9 11 12 13 14) :=
 congrArg (fun k=>D4 r n bUd x0 k) (dNp r n)
theorem cYp (q0 : gU) : D4 r n bUd x0 (K6 q0 8 9 11 12 13 14) = fun (env : bA) (h : Hp) =>
 bnd (bU 1 1 [(.i .u8 (Int.ofNat 0))] (.i .i64 (Int.ofNat 20000)) (.i .i64 (Int.ofNat 20000)) h) fun v1 h1 =>
  q0 (env 8) (env 9) (env 11) (env 12) (env 13) v1 h1:=by kernel_rfl
theorem cHq : (fun (env : bA) (h : Hp) =>
 bnd (bU 1 1 [(.i .u8 (Int.ofNat 0))] (.i .i64 (Int.ofNat 20000)) (.i .i64 (Int.ofNat 20000)) h) fun v1 h1 =>
  bQw r n (env 8) (env 9) (env 11) (env 12) (env 13) v1 h1) = (K5 (cNo r n) 8 9 11 12 13):=by kernel_rfl
theorem dQe : D4 r n cLx x0 r4 = (K5 (cNo r n) 8 9 11 12 13) :=
 (cYz r n).trans
 ((cYp r n (bQw r n)).trans (cHq r n))
theorem dEr : D4 r n cNs x0 r4 = D4 r n cQl x0 (K5 (cNo r n) 8 9 11 12 13) :=
 congrArg (fun k=>D4 r n cQl x0 k) (dQe r n)
theorem dLb : D4 r n cNs x0 r4 = (K6 (dFy r n) 7 8 9 10 11 12) :=
 (dEr r n).trans
 ((by kernel_rfl))
theorem cZw : D4 r n cHf x0 r4 = D4 r n cSm x0 (K6 (dFy r n) 7 8 9 10 11 12) :=
 congrArg (fun k=>D4 r n cSm x0 k) (dLb r n)
theorem dLf : D4 r n cHf x0 r4 = (K4 (cYt r n) 5 7 8 9) :=
 (cZw r n).trans
 ((by kernel_rfl))
theorem dDi : D4 r n cOt x0 r4 = D4 r n cTm x0 (K4 (cYt r n) 5 7 8 9) :=
 congrArg (fun k=>D4 r n cTm x0 k) (dLf r n)
theorem dPw : D4 r n cOt x0 r4 = (K1 (mZ r n) 5) :=
 (dDi r n).trans
 ((by kernel_rfl))
theorem cFn (kk14 : eJ) : D4 r n aBq (xs x0 0 (K1 (mZ r n) 5)) (K4 kk14 0 1 5 6) = (K4 (bWk r n kk14) 0 1 5 6) :=
 (by kernel_rfl)
theorem cGe (m : Nat) : aL (fun kk=>D4 r n aBq (xs x0 0 (K1 (mZ r n) 5)) kk) m = (K4 (aJt r n m) 0 1 5 6):=by
 induction m with
 | zero=>exact (by kernel_rfl : aL (fun kk=>D4 r n aBq (xs x0 0 (K1 (mZ r n) 5)) kk) 0 = (K4 (aJt r n 0) 0 1 5 6))
 | succ m ih =>
  refine (by kernel_rfl : aL (fun kk=>D4 r n aBq (xs x0 0 (K1 (mZ r n) 5)) kk) (m + 1) = D4 r n aBq (xs x0 0 (K1 (mZ r n) 5)) (aL (fun kk=>D4 r n aBq (xs x0 0 (K1 (mZ r n) 5)) kk) m)).trans ?_
  rw [ih]
  exact (cFn r n (aJt r n m)).trans (by kernel_rfl)
theorem dFi : D4 r n bCq (xs x0 0 (K1 (mZ r n) 5)) (K1 (mZ r n) 5) = (K4 (cUf r n) 0 1 5 6) :=
 (by kernel_rfl : D4 r n bCq (xs x0 0 (K1 (mZ r n) 5)) (K1 (mZ r n) 5) = aL (fun kk=>D4 r n aBq (xs x0 0 (K1 (mZ r n) 5)) kk) n).trans ((cGe r n n).trans (by kernel_rfl))
theorem cYa : D4 r n bVk x0 (K1 (mZ r n) 5) = (K4 (bOj r n) 0 1 5 6) :=
 (by kernel_rfl : D4 r n bVk x0 (K1 (mZ r n) 5) = D4 r n bCq (xs x0 0 (K1 (mZ r n) 5)) (K1 (mZ r n) 5)).trans
 ((dFi r n).trans (by kernel_rfl))
theorem dHj : D4 r n cMq x0 r4 = D4 r n aOw x0 (K1 (mZ r n) 5) :=
 congrArg (fun k=>D4 r n aOw x0 k) (dPw r n)
theorem cWp : D4 r n aOw x0 (K1 (mZ r n) 5) = D4 r n cRf x0 (K4 (bOj r n) 0 1 5 6) :=
 congrArg (fun k=>D4 r n cRf x0 k) (cYa r n)
theorem dPl : D4 r n cMq x0 r4 = (K3 (cYn r n) 0 1 5) :=
 (dHj r n).trans
 ((cWp r n).trans
 ((by kernel_rfl)))
theorem cQi : D4 r n cMw x0 r4 = D4 r n cSl x0 (K3 (cYn r n) 0 1 5) :=
 congrArg (fun k=>D4 r n cSl x0 k) (dPl r n)
theorem dPm : D4 r n cMw x0 r4 = (K2 (cEc r n) 0 1) :=
 (cQi r n).trans
 ((by kernel_rfl))
theorem cFz : D4 r n cJt x0 r4 = D4 r n cRj x0 (K2 (cEc r n) 0 1) :=
 congrArg (fun k=>D4 r n cRj x0 k) (dPm r n)
theorem dJo : D4 r n cJt x0 r4 = (K2 (cFs r n) 0 1) :=
 (cFz r n).trans
 ((by kernel_rfl))
theorem cQj : D4 r n cFo x0 r4 = D4 r n cTq x0 (K2 (cFs r n) 0 1) :=
 congrArg (fun k=>D4 r n cTq x0 k) (dJo r n)
theorem dOm : D4 r n cFo x0 r4 = (K2 (cUy r n) 0 1) :=
 (cQj r n).trans
 ((by kernel_rfl))
theorem dIe : D4 r n c4 x0 r4 = D4 r n cQz x0 (K2 (cUy r n) 0 1) :=
 congrArg (fun k=>D4 r n cQz x0 k) (dOm r n)
theorem s4m : D4 r n c4 x0 r4 = (K2 (s4 r n) 0 1) :=
 (dIe r n).trans
 ((by kernel_rfl))
theorem dTj : aF CF r n 4 args h = s4 r n (aV args 0) (aV args 1) h :=
 (by kernel_rfl : aF CF r n 4 args h = D4 r n c4 x0 r4 (aJ args) h).trans ((congrFun (congrFun (s4m r n) (aJ args)) h).trans (by kernel_rfl))
def cFf (r : RT) (n : Nat) (x1 : DV) (h0 : Hp) : aH :=
 bnd (aK 5 x1 h0) fun v1 h1 =>
 bnd (r 12 [v1] h1) fun v2 h2 =>
 bnd (aK 5 x1 h2) fun v3 h3 =>
 cnd (bJ (aK 5 x1 h0) v3 && true) (
 bnd (r 13 [v3] h3) fun v4 h4 =>
 bnd (bI .eql v2 v4 h4) fun v5 h5 =>
 bnd (gD v5 true (r 11 [] h5) h5) fun v6 h6 =>
 bnd (aP v5 v6 (.b false) h6) fun v7 h7 =>
 some (v7,h7))
def cNb (r : RT) (n : Nat) (x1 : DV) (h0 : Hp) : aH :=
 bnd (aB 2 x1 h0) fun v1 h1 =>
 bnd (aA v1 h1) fun v2 h2 =>
 bnd (cM v2 h2) fun v3 h3 =>
 bnd (aD .gtr v3 (.i .i64 (Int.ofNat 300)) h3) fun v4 h4 =>
 aT v4 (
 bnd (aB 2 x1 h4) fun v5 h5 =>
 bnd (aA v5 h5) fun v6 h6 =>
 bnd (cK v6 none (some (.i .i64 (Int.ofNat 300))) h6) fun v7 h7 =>
 bnd (aB 2 x1 h7) fun v8 h8 =>
 bnd (aG 1 v8 v7 h8) fun _ h9 =>
  cFf r n x1 h9) (
  cFf r n x1 h4)
def bRq (r : RT) (n : Nat) (x1 : DV) (h0 : Hp) : aH :=
 bnd (aB 3 x1 h0) fun v1 h1 =>
 bnd (aA v1 h1) fun v2 h2 =>
 bnd (cM v2 h2) fun v3 h3 =>
 bnd (aD .gtr v3 (.i .i64 (Int.ofNat 300)) h3) fun v4 h4 =>
 aT v4 (
 bnd (aB 3 x1 h4) fun v5 h5 =>
 bnd (aA v5 h5) fun v6 h6 =>
 bnd (cK v6 none (some (.i .i64 (Int.ofNat 300))) h6) fun v7 h7 =>
 bnd (aB 3 x1 h7) fun v8 h8 =>
 bnd (aG 1 v8 v7 h8) fun _ h9 =>
  cNb r n x1 h9) (
  cNb r n x1 h4)
def s5 (r : RT) (n : Nat) (x0 : DV) (h0 : Hp) : aH :=
 bnd (dA x0 h0) fun v1 h1 =>
  bRq r n v1 h1
abbrev c5 : Code:=cf Tryz.f5
abbrev cHp : Code:=cR c5
abbrev cHr : Code:=cR cHp
abbrev dWy : Code:=cR cHr
abbrev dOj : Code:=cL cHr
abbrev dPi : Code:=cL cHp
abbrev cYf : Code:=cL c5
abbrev r5 : K:=aR CF Tryz.f5
def D5 (r : RT) (n : Nat) (c : Code) (X : Nat → K) (k : K) : K:=aM CF r 27 n c X r5 k
theorem dJr : D5 r n dWy x0 r5 = (K1 (cFf r n) 1) :=
 (by kernel_rfl)
theorem cXu : D5 r n cHr x0 r5 = D5 r n dOj x0 (K1 (cFf r n) 1) :=
 congrArg (fun k=>D5 r n dOj x0 k) (dJr r n)
theorem dMa : D5 r n cHr x0 r5 = (K1 (cNb r n) 1) :=
 (cXu r n).trans
 ((by kernel_rfl))
theorem dEt : D5 r n cHp x0 r5 = D5 r n dPi x0 (K1 (cNb r n) 1) :=
 congrArg (fun k=>D5 r n dPi x0 k) (dMa r n)
theorem dIt : D5 r n cHp x0 r5 = (K1 (bRq r n) 1) :=
 (dEt r n).trans
 ((by kernel_rfl))
theorem dXh : D5 r n c5 x0 r5 = D5 r n cYf x0 (K1 (bRq r n) 1) :=
 congrArg (fun k=>D5 r n cYf x0 k) (dIt r n)
theorem dVg (q0 : TT1) : D5 r n cYf x0 (K1 q0 1) = fun (env : bA) (h : Hp) =>
 bnd (dA (env 0) h) fun v1 h1 =>
  q0 v1 h1:=by kernel_rfl
theorem dKw : (fun (env : bA) (h : Hp) =>
 bnd (dA (env 0) h) fun v1 h1 =>
  bRq r n v1 h1) = (K1 (s5 r n) 0):=by kernel_rfl
theorem s5m : D5 r n c5 x0 r5 = (K1 (s5 r n) 0) :=
 (dXh r n).trans
 ((dVg r n (bRq r n)).trans (dKw r n))
theorem dXg : aF CF r n 5 args h = s5 r n (aV args 0) h :=
 (by kernel_rfl : aF CF r n 5 args h = D5 r n c5 x0 r5 (aJ args) h).trans ((congrFun (congrFun (s5m r n) (aJ args)) h).trans (by kernel_rfl))
def iZ (r : RT) (n : Nat) (x0 x7 : DV) (h0 : Hp) : aH :=
 bnd (r 8 [x0] h0) fun v1 h1 =>
 bnd (aC 0 v1 h1) fun v2 h2 =>
 bnd (aC 1 v1 h2) fun v3 h3 =>
 bnd (aC 2 v1 h3) fun v4 h4 =>
 bnd (r 8 [x7] h4) fun v5 h5 =>
 bnd (aC 0 v5 h5) fun v6 h6 =>
 bnd (aC 1 v5 h6) fun v7 h7 =>
 bnd (aC 2 v5 h7) fun v8 h8 =>
 bnd (r 10 [v2,v6] h8) fun v9 h9 =>
 bnd (gD v9 true (some (v4,h9)) h9) fun v10 h10 =>
 bnd (gD v9 true (some (v8,h10)) h10) fun v11 h11 =>
 bnd (gD v9 true (aD .eql v10 v11 h11) h11) fun v12 h12 =>
 bnd (aP v9 v12 (.b false) h12) fun v13 h13 =>
 bnd (gD v13 true (some (v7,h13)) h13) fun v14 h14 =>
 bnd (gD v13 true (some (v3,h14)) h14) fun v15 h15 =>
 bnd (gD v13 true (aD .mul (.i .i64 (Int.ofNat 3)) v15 h15) h15) fun v16 h16 =>
 bnd (gD v13 true (aD .eql v14 v16 h16) h16) fun v17 h17 =>
 bnd (aP v13 v17 (.b false) h17) fun v18 h18 =>
 bnd (gD v18 true (r 11 [] h18) h18) fun v19 h19 =>
 bnd (aP v18 v19 (.b false) h19) fun v20 h20 =>
 some (v20,h20)
def aYq (r : RT) (n : Nat) (kk9 : eJ) (x0 x5 x7 x8 : DV) (h0 : Hp) : aH :=
 bnd (aD .add x8 (.i .i64 (Int.ofNat 1)) h0) fun v1 h1 =>
  kk9 x0 x5 x7 v1 h1
def bZg (r : RT) (n : Nat) (kk9 : eJ) (x0 x5 x7 x8 : DV) (h0 : Hp) : aH :=
 bnd (aD .add x8 (.i .i64 (Int.ofNat 1)) h0) fun v1 h1 =>
 bnd (cK x0 (some x8) (some v1) h1) fun v2 h2 =>
 bnd (bI .add x7 v2 h2) fun v3 h3 =>
 bnd (bX x0 x8 h3) fun v4 h4 =>
 bnd (aD .eql v4 (.i .u8 (Int.ofNat 10)) h4) fun v5 h5 =>
 aT v5 (
 bnd (bI .add v3 x5 h5) fun v6 h6 =>
 bnd (bI .add v6 (.s [10,10]) h6) fun v7 h7 =>
  aYq r n kk9 x0 x5 v7 x8 h7) (
  aYq r n kk9 x0 x5 v3 x8 h5)
def cSs (r : RT) (n : Nat) (kk9 : eJ) (x0 x5 x7 x8 : DV) (h0 : Hp) : aH :=
 bnd (cM x0 h0) fun v1 h1 =>
 bnd (aD .lss x8 v1 h1) fun v2 h2 =>
 aT v2 (
   bZg r n kk9 x0 x5 x7 x8 h2) (
   iZ r n x0 x7 h2)
def bAq (r : RT) (n : Nat) (m : Nat) : eJ :=
 Nat.rec (motive:=fun _=>eJ) (fun _ _ _ _ _=>none) (fun _ ih=>cSs r n ih) m
def dOc (r : RT) (n : Nat) : eJ:=bAq r n n
def cWe (r : RT) (n : Nat) (x0 x5 x7 x8 : DV) (h0 : Hp) : aH :=
 dOc r n x0 x5 x7 x8 h0
def dCm (r : RT) (n : Nat) (x0 x5 x7 : DV) (h0 : Hp) : aH :=
 cWe r n x0 x5 x7 (.i .i64 (Int.ofNat 0)) h0
def iY (r : RT) (n : Nat) (x0 x5 : DV) (h0 : Hp) : aH :=
 bnd (bI .add x5 (.s [10,10]) h0) fun v1 h1 =>
  dCm r n x0 x5 v1 h1
def aVp (r : RT) (n : Nat) (kk13 : eJ) (x0 x1 x5 x6 : DV) (h0 : Hp) : aH :=
 bnd (aD .add x6 (.i .i64 (Int.ofNat 1)) h0) fun v1 h1 =>
  kk13 x0 x1 x5 v1 h1
def bUz (r : RT) (n : Nat) (kk13 : eJ) (x0 x1 x5 x6 : DV) (h0 : Hp) : aH :=
 bnd (bX x1 x6 h0) fun v1 h1 =>
 bnd (aD .neq v1 (.i .u8 (Int.ofNat 10)) h1) fun v2 h2 =>
 aT v2 (
 bnd (aD .add x6 (.i .i64 (Int.ofNat 1)) h2) fun v3 h3 =>
 bnd (cK x1 (some x6) (some v3) h3) fun v4 h4 =>
 bnd (bI .add x5 v4 h4) fun v5 h5 =>
  aVp r n kk13 x0 x1 v5 x6 h5) (
  aVp r n kk13 x0 x1 x5 x6 h2)
def bJq (r : RT) (n : Nat) (kk13 : eJ) (x0 x1 x5 x6 : DV) (h0 : Hp) : aH :=
 bnd (cM x1 h0) fun v1 h1 =>
 bnd (aD .lss x6 v1 h1) fun v2 h2 =>
 aT v2 (
   bUz r n kk13 x0 x1 x5 x6 h2) (
   iY r n x0 x5 h2)
def aKa (r : RT) (n : Nat) (m : Nat) : eJ :=
 Nat.rec (motive:=fun _=>eJ) (fun _ _ _ _ _=>none) (fun _ ih=>bJq r n ih) m
def cQw (r : RT) (n : Nat) : eJ:=aKa r n n
def bWi (r : RT) (n : Nat) (x0 x1 x5 x6 : DV) (h0 : Hp) : aH :=
 cQw r n x0 x1 x5 x6 h0
def dBe (r : RT) (n : Nat) (x0 x1 x5 : DV) (h0 : Hp) : aH :=
 bWi r n x0 x1 x5 (.i .i64 (Int.ofNat 0)) h0
def cOo (r : RT) (n : Nat) (x0 x1 : DV) (h0 : Hp) : aH :=
 dBe r n x0 x1 (.s [34]) h0
def cKy (r : RT) (n : Nat) (x0 x1 : DV) (h0 : Hp) : aH :=
 bnd (cM x1 h0) fun v1 h1 =>
 bnd (aD .gtr v1 (.i .i64 (Int.ofNat 20)) h1) fun v2 h2 =>
 aT v2 (
 bnd (cK x1 none (some (.i .i64 (Int.ofNat 20))) h2) fun v3 h3 =>
  cOo r n x0 v3 h3) (
  cOo r n x0 x1 h2)
def dEj (r : RT) (n : Nat) (x0 x1 : DV) (h0 : Hp) : aH :=
 bnd (cM x0 h0) fun v1 h1 =>
 bnd (aD .gtr v1 (.i .i64 (Int.ofNat 400)) h1) fun v2 h2 =>
 aT v2 (
 bnd (cK x0 none (some (.i .i64 (Int.ofNat 400))) h2) fun v3 h3 =>
  cKy r n v3 x1 h3) (
  cKy r n x0 x1 h2)
def s6 (r : RT) (n : Nat) (x0 x1 : DV) (h0 : Hp) : aH :=
 dEj r n x0 x1 h0
abbrev c6 : Code:=cf Tryz.f6
abbrev cPx : Code:=cR c6
abbrev cKf : Code:=cR cPx
abbrev cNn : Code:=cR cKf
abbrev cDv : Code:=cR cNn
abbrev cMc : Code:=cR cDv
abbrev cLm : Code:=cR cMc
abbrev dUo : Code:=cR cLm
abbrev bOb : Code:=cL cLm
abbrev dCi : Code:=cR bOb
abbrev aZe : Code:=cL dCi
abbrev pG : Code:=cL aZe
abbrev aYg : Code:=cR pG
abbrev dMy : Code:=cR aYg
abbrev cTt : Code:=cL aYg
abbrev cQr : Code:=cL pG
abbrev cTz : Code:=cL bOb
abbrev cTl : Code:=cL cMc
abbrev aNa : Code:=cL cDv
abbrev bUo : Code:=cR aNa
abbrev bBm : Code:=cL bUo
abbrev pJ : Code:=cL bBm
abbrev bAc : Code:=cR pJ
abbrev dJx : Code:=cR bAc
abbrev cSo : Code:=cL bAc
abbrev cQx : Code:=cL pJ
abbrev cQt : Code:=cL aNa
abbrev cRv : Code:=cL cNn
abbrev cQn : Code:=cL cKf
abbrev cQv : Code:=cL cPx
abbrev cSa : Code:=cL c6
abbrev r6 : K:=aR CF Tryz.f6
def D6 (r : RT) (n : Nat) (c : Code) (X : Nat → K) (k : K) : K:=aM CF r 96 n c X r6 k
theorem dKq : D6 r n dUo x0 r6 = (K2 (iZ r n) 0 7) :=
 (by kernel_rfl)
theorem dGh (kk9 : eJ) : D6 r n dMy (xs x0 2 (K2 (iZ r n) 0 7)) (K4 kk9 0 5 7 8) = (K4 (aYq r n kk9) 0 5 7 8) :=
 (by kernel_rfl)
theorem cHy (kk9 : eJ) : D6 r n aYg (xs x0 2 (K2 (iZ r n) 0 7)) (K4 kk9 0 5 7 8) = D6 r n cTt (xs x0 2 (K2 (iZ r n) 0 7)) (K4 (aYq r n kk9) 0 5 7 8) :=
 congrArg (fun k=>D6 r n cTt (xs x0 2 (K2 (iZ r n) 0 7)) k) (dGh r n kk9)
theorem cWk (kk9 : eJ) : D6 r n aYg (xs x0 2 (K2 (iZ r n) 0 7)) (K4 kk9 0 5 7 8) = (K4 (bZg r n kk9) 0 5 7 8) :=
 (cHy r n kk9).trans
 ((by kernel_rfl))
theorem dEd (kk9 : eJ) : D6 r n pG (xs x0 2 (K2 (iZ r n) 0 7)) (K4 kk9 0 5 7 8) = D6 r n cQr (xs x0 2 (K2 (iZ r n) 0 7)) (K4 (bZg r n kk9) 0 5 7 8) :=
 congrArg (fun k=>D6 r n cQr (xs x0 2 (K2 (iZ r n) 0 7)) k) (cWk r n kk9)
theorem cXi (kk9 : eJ) : D6 r n pG (xs x0 2 (K2 (iZ r n) 0 7)) (K4 kk9 0 5 7 8) = (K4 (cSs r n kk9) 0 5 7 8) :=
 (dEd r n kk9).trans
 ((by kernel_rfl))
theorem cWa (m : Nat) : aL (fun kk=>D6 r n pG (xs x0 2 (K2 (iZ r n) 0 7)) kk) m = (K4 (bAq r n m) 0 5 7 8):=by
 induction m with
 | zero=>exact (by kernel_rfl : aL (fun kk=>D6 r n pG (xs x0 2 (K2 (iZ r n) 0 7)) kk) 0 = (K4 (bAq r n 0) 0 5 7 8))
 | succ m ih =>
  refine (by kernel_rfl : aL (fun kk=>D6 r n pG (xs x0 2 (K2 (iZ r n) 0 7)) kk) (m + 1) = D6 r n pG (xs x0 2 (K2 (iZ r n) 0 7)) (aL (fun kk=>D6 r n pG (xs x0 2 (K2 (iZ r n) 0 7)) kk) m)).trans ?_
  rw [ih]
  exact (cXi r n (bAq r n m)).trans (by kernel_rfl)
theorem dLh : D6 r n aZe (xs x0 2 (K2 (iZ r n) 0 7)) (K2 (iZ r n) 0 7) = (K4 (dOc r n) 0 5 7 8) :=
 (by kernel_rfl : D6 r n aZe (xs x0 2 (K2 (iZ r n) 0 7)) (K2 (iZ r n) 0 7) = aL (fun kk=>D6 r n pG (xs x0 2 (K2 (iZ r n) 0 7)) kk) n).trans ((cWa r n n).trans (by kernel_rfl))
theorem dOw : D6 r n dCi x0 (K2 (iZ r n) 0 7) = (K4 (cWe r n) 0 5 7 8) :=
 (by kernel_rfl : D6 r n dCi x0 (K2 (iZ r n) 0 7) = D6 r n aZe (xs x0 2 (K2 (iZ r n) 0 7)) (K2 (iZ r n) 0 7)).trans
 ((dLh r n).trans (by kernel_rfl))
theorem cYj : D6 r n cLm x0 r6 = D6 r n bOb x0 (K2 (iZ r n) 0 7) :=
 congrArg (fun k=>D6 r n bOb x0 k) (dKq r n)
theorem dEl : D6 r n bOb x0 (K2 (iZ r n) 0 7) = D6 r n cTz x0 (K4 (cWe r n) 0 5 7 8) :=
 congrArg (fun k=>D6 r n cTz x0 k) (dOw r n)
theorem dQv : D6 r n cLm x0 r6 = (K3 (dCm r n) 0 5 7) :=
 (cYj r n).trans
 ((dEl r n).trans
 ((by kernel_rfl)))
theorem cZm : D6 r n cMc x0 r6 = D6 r n cTl x0 (K3 (dCm r n) 0 5 7) :=
 congrArg (fun k=>D6 r n cTl x0 k) (dQv r n)
theorem dQc : D6 r n cMc x0 r6 = (K2 (iY r n) 0 5) :=
 (cZm r n).trans
 ((by kernel_rfl))
theorem dAs (kk13 : eJ) : D6 r n dJx (xs x0 0 (K2 (iY r n) 0 5)) (K4 kk13 0 1 5 6) = (K4 (aVp r n kk13) 0 1 5 6) :=
 (by kernel_rfl)
theorem cOc (kk13 : eJ) : D6 r n bAc (xs x0 0 (K2 (iY r n) 0 5)) (K4 kk13 0 1 5 6) = D6 r n cSo (xs x0 0 (K2 (iY r n) 0 5)) (K4 (aVp r n kk13) 0 1 5 6) :=
 congrArg (fun k=>D6 r n cSo (xs x0 0 (K2 (iY r n) 0 5)) k) (dAs r n kk13)
theorem dDc (kk13 : eJ) : D6 r n bAc (xs x0 0 (K2 (iY r n) 0 5)) (K4 kk13 0 1 5 6) = (K4 (bUz r n kk13) 0 1 5 6) :=
 (cOc r n kk13).trans
 ((by kernel_rfl))
theorem cNj (kk13 : eJ) : D6 r n pJ (xs x0 0 (K2 (iY r n) 0 5)) (K4 kk13 0 1 5 6) = D6 r n cQx (xs x0 0 (K2 (iY r n) 0 5)) (K4 (bUz r n kk13) 0 1 5 6) :=
 congrArg (fun k=>D6 r n cQx (xs x0 0 (K2 (iY r n) 0 5)) k) (dDc r n kk13)
theorem cFi (kk13 : eJ) : D6 r n pJ (xs x0 0 (K2 (iY r n) 0 5)) (K4 kk13 0 1 5 6) = (K4 (bJq r n kk13) 0 1 5 6) :=
 (cNj r n kk13).trans
 ((by kernel_rfl))
theorem cNr (m : Nat) : aL (fun kk=>D6 r n pJ (xs x0 0 (K2 (iY r n) 0 5)) kk) m = (K4 (aKa r n m) 0 1 5 6):=by
 induction m with
 | zero=>exact (by kernel_rfl : aL (fun kk=>D6 r n pJ (xs x0 0 (K2 (iY r n) 0 5)) kk) 0 = (K4 (aKa r n 0) 0 1 5 6))
 | succ m ih =>
  refine (by kernel_rfl : aL (fun kk=>D6 r n pJ (xs x0 0 (K2 (iY r n) 0 5)) kk) (m + 1) = D6 r n pJ (xs x0 0 (K2 (iY r n) 0 5)) (aL (fun kk=>D6 r n pJ (xs x0 0 (K2 (iY r n) 0 5)) kk) m)).trans ?_
  rw [ih]
  exact (cFi r n (aKa r n m)).trans (by kernel_rfl)
theorem cVf : D6 r n bBm (xs x0 0 (K2 (iY r n) 0 5)) (K2 (iY r n) 0 5) = (K4 (cQw r n) 0 1 5 6) :=
 (by kernel_rfl : D6 r n bBm (xs x0 0 (K2 (iY r n) 0 5)) (K2 (iY r n) 0 5) = aL (fun kk=>D6 r n pJ (xs x0 0 (K2 (iY r n) 0 5)) kk) n).trans ((cNr r n n).trans (by kernel_rfl))
theorem cUz : D6 r n bUo x0 (K2 (iY r n) 0 5) = (K4 (bWi r n) 0 1 5 6) :=
 (by kernel_rfl : D6 r n bUo x0 (K2 (iY r n) 0 5) = D6 r n bBm (xs x0 0 (K2 (iY r n) 0 5)) (K2 (iY r n) 0 5)).trans
 ((cVf r n).trans (by kernel_rfl))
theorem dDl : D6 r n cDv x0 r6 = D6 r n aNa x0 (K2 (iY r n) 0 5) :=
 congrArg (fun k=>D6 r n aNa x0 k) (dQc r n)
theorem cUw : D6 r n aNa x0 (K2 (iY r n) 0 5) = D6 r n cQt x0 (K4 (bWi r n) 0 1 5 6) :=
 congrArg (fun k=>D6 r n cQt x0 k) (cUz r n)
theorem dOr : D6 r n cDv x0 r6 = (K3 (dBe r n) 0 1 5) :=
 (dDl r n).trans
 ((cUw r n).trans
 ((by kernel_rfl)))
theorem cFu : D6 r n cNn x0 r6 = D6 r n cRv x0 (K3 (dBe r n) 0 1 5) :=
 congrArg (fun k=>D6 r n cRv x0 k) (dOr r n)
theorem dPu : D6 r n cNn x0 r6 = (K2 (cOo r n) 0 1) :=
 (cFu r n).trans
 ((by kernel_rfl))
theorem cIz : D6 r n cKf x0 r6 = D6 r n cQn x0 (K2 (cOo r n) 0 1) :=
 congrArg (fun k=>D6 r n cQn x0 k) (dPu r n)
theorem dLv : D6 r n cKf x0 r6 = (K2 (cKy r n) 0 1) :=
 (cIz r n).trans
 ((by kernel_rfl))
theorem cFt : D6 r n cPx x0 r6 = D6 r n cQv x0 (K2 (cKy r n) 0 1) :=
 congrArg (fun k=>D6 r n cQv x0 k) (dLv r n)
theorem dIk : D6 r n cPx x0 r6 = (K2 (dEj r n) 0 1) :=
 (cFt r n).trans
 ((by kernel_rfl))
theorem dPk : D6 r n c6 x0 r6 = D6 r n cSa x0 (K2 (dEj r n) 0 1) :=
 congrArg (fun k=>D6 r n cSa x0 k) (dIk r n)
theorem s6m : D6 r n c6 x0 r6 = (K2 (s6 r n) 0 1) :=
 (dPk r n).trans
 ((by kernel_rfl))
theorem dVf : aF CF r n 6 args h = s6 r n (aV args 0) (aV args 1) h :=
 (by kernel_rfl : aF CF r n 6 args h = D6 r n c6 x0 r6 (aJ args) h).trans ((congrFun (congrFun (s6m r n) (aJ args)) h).trans (by kernel_rfl))
def s7 (r : RT) (n : Nat) (x0 : DV) (h0 : Hp) : aH :=
 bnd (r 14 [x0] h0) fun v1 h1 =>
 bnd (r 15 [v1] h1) fun v2 h2 =>
 bnd (aC 0 v2 h2) fun v3 h3 =>
 bnd (aC 1 v2 h3) fun v4 h4 =>
 bnd (r 16 [v1] h4) fun v5 h5 =>
 bnd (aC 0 v5 h5) fun v6 h6 =>
 bnd (aC 1 v5 h6) fun v7 h7 =>
 bnd (bI .eql v3 v6 h7) fun v8 h8 =>
 bnd (gD v8 true (some (v4,h8)) h8) fun v9 h9 =>
 bnd (gD v8 true (some (v7,h9)) h9) fun v10 h10 =>
 bnd (gD v8 true (aD .eql v9 v10 h10) h10) fun v11 h11 =>
 bnd (aP v8 v11 (.b false) h11) fun v12 h12 =>
 bnd (gD v12 true (r 11 [] h12) h12) fun v13 h13 =>
 bnd (aP v12 v13 (.b false) h13) fun v14 h14 =>
 some (v14,h14)
abbrev c7 : Code:=cf Tryz.f7
abbrev r7 : K:=aR CF Tryz.f7
def D7 (r : RT) (n : Nat) (c : Code) (X : Nat → K) (k : K) : K:=aM CF r 30 n c X r7 k
theorem s7m : D7 r n c7 x0 r7 = (K1 (s7 r n) 0) :=
 (by kernel_rfl)
theorem dIj : aF CF r n 7 args h = s7 r n (aV args 0) h :=
 (by kernel_rfl : aF CF r n 7 args h = D7 r n c7 x0 r7 (aJ args) h).trans ((congrFun (congrFun (s7m r n) (aJ args)) h).trans (by kernel_rfl))
def gJ (r : RT) (n : Nat) (x5 : DV) (h0 : Hp) : aH :=
 some (.t [x5,(aN 0),(aN 0)],h0)
def aRi (r : RT) (n : Nat) (kk6 : eJ) (x5 x14 x15 x16 : DV) (h0 : Hp) : aH :=
 bnd (aD .add x16 (aN 1) h0) fun v1 h1 =>
  kk6 x5 x14 x15 v1 h1
def cDz (r : RT) (n : Nat) (kk6 : eJ) (x5 x14 x15 x16 : DV) (h0 : Hp) : aH :=
 bnd (aE 1 x14 x16 h0) fun v1 h1 =>
 bnd (aA v1 h1) fun v2 h2 =>
 bnd (bI .eql v2 (.s []) h2) fun v3 h3 =>
 bnd (gD v3 false (some (v2,h3)) h3) fun v4 h4 =>
 bnd (gD v3 false (bX v4 (aN 0) h4) h4) fun v5 h5 =>
 bnd (gD v3 false (aD .eql v5 (.i .u8 (Int.ofNat 34)) h5) h5) fun v6 h6 =>
 bnd (aP v3 (.b true) v6 h6) fun v7 h7 =>
 aT v7 (
  aRi r n kk6 x5 x14 x15 x16 h7) (
 bnd (r 18 [v2] h7) fun v8 h8 =>
 bnd (aC 0 v8 h8) fun v9 h9 =>
 bnd (aC 1 v8 h9) fun v10 h10 =>
 bnd (bY [(aN 0),(.s []),(.s []),.l0,(.s []),(aN 0)] h10) fun v11 h11 =>
 bnd (aG 6 v11 v9 h11) fun _ h12 =>
 bnd (gQ .not v10 h12) fun v13 h13 =>
 aT v13 (
 bnd (aD .add x16 (aN 1) h13) fun v14 h14 =>
 some (.t [.l0,v14,(aN 30)],h14)) (
 bnd (cB x5 h13) fun v15 h15 =>
 bnd (aD .eql v15 (aN 60) h15) fun v16 h16 =>
 aT v16 (
 bnd (aD .add x16 (aN 1) h16) fun v17 h17 =>
 some (.t [.l0,v17,(aN 31)],h17)) (
 bnd (aK 6 v11 h16) fun v18 h18 =>
 bnd (aO [(aN 0),(.s []),(.s []),.l0,(.s []),(aN 0)] 1 [(0,6,v18)] h18) fun v19 h19 =>
 bnd (bB 6 88 x5 v19 h19) fun v20 h20 =>
    aRi r n kk6 v20 x14 x15 x16 h20)))
def dGy (r : RT) (n : Nat) (kk6 : eJ) (x5 x14 x15 x16 x17 : DV) (h0 : Hp) : aH :=
 aT x17 (
  cDz r n kk6 x5 x14 x15 x16 h0) (
  gJ r n x5 h0)
def cQu (r : RT) (n : Nat) (kk6 : eJ) (x5 x14 x15 x16 : DV) (h0 : Hp) : aH :=
 bnd (aD .lss x16 x15 h0) fun v1 h1 =>
  dGy r n kk6 x5 x14 x15 x16 v1 h1
def aXi (r : RT) (n : Nat) (m : Nat) : eJ :=
 Nat.rec (motive:=fun _=>eJ) (fun _ _ _ _ _=>none) (fun _ ih=>cQu r n ih) m
def dMt (r : RT) (n : Nat) : eJ:=aXi r n n
def cYm (r : RT) (n : Nat) (x5 x14 x15 x16 : DV) (h0 : Hp) : aH :=
 dMt r n x5 x14 x15 x16 h0
def cZo (r : RT) (n : Nat) (x0 x5 : DV) (h0 : Hp) : aH :=
 bnd (r 17 [x0,(.s [10])] h0) fun v1 h1 =>
 bnd (cB v1 h1) fun v2 h2 =>
  cYm r n x5 v1 v2 (aN 0) h2
def cYr (r : RT) (n : Nat) (x0 : DV) (h0 : Hp) : aH :=
 cZo r n x0 .l0 h0
def cWd (r : RT) (n : Nat) (x0 : DV) (h0 : Hp) : aH :=
 bnd (cM x0 h0) fun v1 h1 =>
 bnd (aD .gtr v1 (aN 20000) h1) fun v2 h2 =>
 aT v2 (
 some (.t [.l0,(aN 0),(aN 31)],h2)) (
  cYr r n x0 h2)
def s8 (r : RT) (n : Nat) (x0 : DV) (h0 : Hp) : aH :=
 cWd r n x0 h0
abbrev c8 : Code:=cf Tryz.f8
abbrev cBv : Code:=cR c8
abbrev cIu : Code:=cR cBv
abbrev cKh : Code:=cR cIu
abbrev dXb : Code:=cR cKh
abbrev bZy : Code:=cL cKh
abbrev dCb : Code:=cR bZy
abbrev cJs : Code:=cL dCb
abbrev aCj : Code:=cL cJs
abbrev cJm : Code:=cR aCj
abbrev aYy : Code:=cR cJm
abbrev dJa : Code:=cR aYy
abbrev cAb : Code:=cL aYy
abbrev cUb : Code:=cL cJm
abbrev cRg : Code:=cL aCj
abbrev cQy : Code:=cL bZy
abbrev cSy : Code:=cL cIu
abbrev cRk : Code:=cL cBv
abbrev cRc : Code:=cL c8
abbrev r8 : K:=aR CF Tryz.f8
def D8 (r : RT) (n : Nat) (c : Code) (X : Nat → K) (k : K) : K:=aM CF r 48 n c X r8 k
theorem dKe : D8 r n dXb x0 r8 = (K1 (gJ r n) 5) :=
 (by kernel_rfl)
theorem dPt (kk6 : eJ) : D8 r n dJa (xs x0 0 (K1 (gJ r n) 5)) (K4 kk6 5 14 15 16) = (K4 (aRi r n kk6) 5 14 15 16) :=
 (by kernel_rfl)
theorem dAb (kk6 : eJ) : D8 r n aYy (xs x0 0 (K1 (gJ r n) 5)) (K4 kk6 5 14 15 16) = D8 r n cAb (xs x0 0 (K1 (gJ r n) 5)) (K4 (aRi r n kk6) 5 14 15 16) :=
 congrArg (fun k=>D8 r n cAb (xs x0 0 (K1 (gJ r n) 5)) k) (dPt r n kk6)
theorem cYh (kk6 : eJ) (q0 : eJ) (q1 : TT1) : D8 r n cAb (xs x0 0 (K1 q1 5)) (K4 q0 5 14 15 16) = fun (env : bA) (h : Hp) =>
 bnd (aE 1 (env 14) (env 16) h) fun v1 h1 =>
 bnd (aA v1 h1) fun v2 h2 =>
 bnd (bI .eql v2 (.s []) h2) fun v3 h3 =>
 bnd (gD v3 false (some (v2,h3)) h3) fun v4 h4 =>
 bnd (gD v3 false (bX v4 (aN 0) h4) h4) fun v5 h5 =>
 bnd (gD v3 false (aD .eql v5 (.i .u8 (Int.ofNat 34)) h5) h5) fun v6 h6 =>
 bnd (aP v3 (.b true) v6 h6) fun v7 h7 =>
 aT v7 (
   q0 (env 5) (env 14) (env 15) (env 16) h7) (
 bnd (r 18 [v2] h7) fun v8 h8 =>
 bnd (aC 0 v8 h8) fun v9 h9 =>
 bnd (aC 1 v8 h9) fun v10 h10 =>
 bnd (bY [(aN 0),(.s []),(.s []),.l0,(.s []),(aN 0)] h10) fun v11 h11 =>
 bnd (aG 6 v11 v9 h11) fun _ h12 =>
 bnd (gQ .not v10 h12) fun v13 h13 =>
 aT v13 (
 bnd (aD .add (env 16) (aN 1) h13) fun v14 h14 =>
 some (.t [.l0,v14,(aN 30)],h14)) (
 bnd (cB (env 5) h13) fun v15 h15 =>
 bnd (aD .eql v15 (aN 60) h15) fun v16 h16 =>
 aT v16 (
 bnd (aD .add (env 16) (aN 1) h16) fun v17 h17 =>
 some (.t [.l0,v17,(aN 31)],h17)) (
 bnd (aK 6 v11 h16) fun v18 h18 =>
 bnd (aO [(aN 0),(.s []),(.s []),.l0,(.s []),(aN 0)] 1 [(0,6,v18)] h18) fun v19 h19 =>
 bnd (bB 6 88 (env 5) v19 h19) fun v20 h20 =>
     q0 v20 (env 14) (env 15) (env 16) h20))):=by kernel_rfl
theorem cPc (kk6 : eJ) : (fun (env : bA) (h : Hp) =>
 bnd (aE 1 (env 14) (env 16) h) fun v1 h1 =>
 bnd (aA v1 h1) fun v2 h2 =>
 bnd (bI .eql v2 (.s []) h2) fun v3 h3 =>
 bnd (gD v3 false (some (v2,h3)) h3) fun v4 h4 =>
 bnd (gD v3 false (bX v4 (aN 0) h4) h4) fun v5 h5 =>
 bnd (gD v3 false (aD .eql v5 (.i .u8 (Int.ofNat 34)) h5) h5) fun v6 h6 =>
 bnd (aP v3 (.b true) v6 h6) fun v7 h7 =>
 aT v7 (
   aRi r n kk6 (env 5) (env 14) (env 15) (env 16) h7) (
 bnd (r 18 [v2] h7) fun v8 h8 =>
 bnd (aC 0 v8 h8) fun v9 h9 =>
 bnd (aC 1 v8 h9) fun v10 h10 =>
 bnd (bY [(aN 0),(.s []),(.s []),.l0,(.s []),(aN 0)] h10) fun v11 h11 =>
 bnd (aG 6 v11 v9 h11) fun _ h12 =>
 bnd (gQ .not v10 h12) fun v13 h13 =>
 aT v13 (
 bnd (aD .add (env 16) (aN 1) h13) fun v14 h14 =>
 some (.t [.l0,v14,(aN 30)],h14)) (
 bnd (cB (env 5) h13) fun v15 h15 =>
 bnd (aD .eql v15 (aN 60) h15) fun v16 h16 =>
 aT v16 (
 bnd (aD .add (env 16) (aN 1) h16) fun v17 h17 =>
 some (.t [.l0,v17,(aN 31)],h17)) (
 bnd (aK 6 v11 h16) fun v18 h18 =>
 bnd (aO [(aN 0),(.s []),(.s []),.l0,(.s []),(aN 0)] 1 [(0,6,v18)] h18) fun v19 h19 =>
 bnd (bB 6 88 (env 5) v19 h19) fun v20 h20 =>
     aRi r n kk6 v20 (env 14) (env 15) (env 16) h20)))) = (K4 (cDz r n kk6) 5 14 15 16):=by kernel_rfl
theorem dKz (kk6 : eJ) : D8 r n aYy (xs x0 0 (K1 (gJ r n) 5)) (K4 kk6 5 14 15 16) = (K4 (cDz r n kk6) 5 14 15 16) :=
 (dAb r n kk6).trans
 ((cYh r n kk6 (aRi r n kk6) (gJ r n)).trans (cPc r n kk6))
theorem cXq (kk6 : eJ) : D8 r n cJm (xs x0 0 (K1 (gJ r n) 5)) (K4 kk6 5 14 15 16) = D8 r n cUb (xs x0 0 (K1 (gJ r n) 5)) (K4 (cDz r n kk6) 5 14 15 16) :=
 congrArg (fun k=>D8 r n cUb (xs x0 0 (K1 (gJ r n) 5)) k) (dKz r n kk6)
theorem dQa (kk6 : eJ) : D8 r n cJm (xs x0 0 (K1 (gJ r n) 5)) (K4 kk6 5 14 15 16) = (K5 (dGy r n kk6) 5 14 15 16 17) :=
 (cXq r n kk6).trans
 ((by kernel_rfl))
theorem dEs (kk6 : eJ) : D8 r n aCj (xs x0 0 (K1 (gJ r n) 5)) (K4 kk6 5 14 15 16) = D8 r n cRg (xs x0 0 (K1 (gJ r n) 5)) (K5 (dGy r n kk6) 5 14 15 16 17) :=
 congrArg (fun k=>D8 r n cRg (xs x0 0 (K1 (gJ r n) 5)) k) (dQa r n kk6)
theorem dGq (kk6 : eJ) : D8 r n aCj (xs x0 0 (K1 (gJ r n) 5)) (K4 kk6 5 14 15 16) = (K4 (cQu r n kk6) 5 14 15 16) :=
 (dEs r n kk6).trans
 ((by kernel_rfl))
theorem cZf (m : Nat) : aL (fun kk=>D8 r n aCj (xs x0 0 (K1 (gJ r n) 5)) kk) m = (K4 (aXi r n m) 5 14 15 16):=by
 induction m with
 | zero=>exact (by kernel_rfl : aL (fun kk=>D8 r n aCj (xs x0 0 (K1 (gJ r n) 5)) kk) 0 = (K4 (aXi r n 0) 5 14 15 16))
 | succ m ih =>
  refine (by kernel_rfl : aL (fun kk=>D8 r n aCj (xs x0 0 (K1 (gJ r n) 5)) kk) (m + 1) = D8 r n aCj (xs x0 0 (K1 (gJ r n) 5)) (aL (fun kk=>D8 r n aCj (xs x0 0 (K1 (gJ r n) 5)) kk) m)).trans ?_
  rw [ih]
  exact (dGq r n (aXi r n m)).trans (by kernel_rfl)
theorem dQs : D8 r n cJs (xs x0 0 (K1 (gJ r n) 5)) (K1 (gJ r n) 5) = (K4 (dMt r n) 5 14 15 16) :=
 (by kernel_rfl : D8 r n cJs (xs x0 0 (K1 (gJ r n) 5)) (K1 (gJ r n) 5) = aL (fun kk=>D8 r n aCj (xs x0 0 (K1 (gJ r n) 5)) kk) n).trans ((cZf r n n).trans (by kernel_rfl))
theorem dPo : D8 r n dCb x0 (K1 (gJ r n) 5) = (K4 (cYm r n) 5 14 15 16) :=
 (by kernel_rfl : D8 r n dCb x0 (K1 (gJ r n) 5) = D8 r n cJs (xs x0 0 (K1 (gJ r n) 5)) (K1 (gJ r n) 5)).trans
 ((dQs r n).trans (by kernel_rfl))
theorem dGb : D8 r n cKh x0 r8 = D8 r n bZy x0 (K1 (gJ r n) 5) :=
 congrArg (fun k=>D8 r n bZy x0 k) (dKe r n)
theorem cYx : D8 r n bZy x0 (K1 (gJ r n) 5) = D8 r n cQy x0 (K4 (cYm r n) 5 14 15 16) :=
 congrArg (fun k=>D8 r n cQy x0 k) (dPo r n)
theorem dNm : D8 r n cKh x0 r8 = (K2 (cZo r n) 0 5) :=
 (dGb r n).trans
 ((cYx r n).trans
 ((by kernel_rfl)))
theorem cUn : D8 r n cIu x0 r8 = D8 r n cSy x0 (K2 (cZo r n) 0 5) :=
 congrArg (fun k=>D8 r n cSy x0 k) (dNm r n)
theorem dNo : D8 r n cIu x0 r8 = (K1 (cYr r n) 0) :=
 (cUn r n).trans
 ((by kernel_rfl))
theorem cUt : D8 r n cBv x0 r8 = D8 r n cRk x0 (K1 (cYr r n) 0) :=
 congrArg (fun k=>D8 r n cRk x0 k) (dNo r n)
theorem dLz : D8 r n cBv x0 r8 = (K1 (cWd r n) 0) :=
 (cUt r n).trans
 ((by kernel_rfl))
theorem dRx : D8 r n c8 x0 r8 = D8 r n cRc x0 (K1 (cWd r n) 0) :=
 congrArg (fun k=>D8 r n cRc x0 k) (dLz r n)
theorem s8m : D8 r n c8 x0 r8 = (K1 (s8 r n) 0) :=
 (dRx r n).trans
 ((by kernel_rfl))
theorem dWr : aF CF r n 8 args h = s8 r n (aV args 0) h :=
 (by kernel_rfl : aF CF r n 8 args h = D8 r n c8 x0 r8 (aJ args) h).trans ((congrFun (congrFun (s8m r n) (aJ args)) h).trans (by kernel_rfl))
def iL (r : RT) (n : Nat) (x5 : DV) (h0 : Hp) : aH :=
 some (.t [x5,(aN 0),(aN 0)],h0)
def aRd (r : RT) (n : Nat) (kk7 : dP) (x5 x6 x7 : DV) (h0 : Hp) : aH :=
 bnd (aD .add x7 (aN 1) h0) fun v1 h1 =>
  kk7 x5 x6 v1 h1
def cKs (r : RT) (n : Nat) (kk7 : dP) (x5 x6 x7 : DV) (h0 : Hp) : aH :=
 bnd (aE 1 x6 x7 h0) fun v1 h1 =>
 bnd (aA v1 h1) fun v2 h2 =>
 bnd (cM v2 h2) fun v3 h3 =>
 bnd (aD .eql v3 (aN 0) h3) fun v4 h4 =>
 bnd (gD v4 false (some (x6,h4)) h4) fun v5 h5 =>
 bnd (gD v4 false (some (x7,h5)) h5) fun v6 h6 =>
 bnd (gD v4 false (aE 1 v5 v6 h6) h6) fun v7 h7 =>
 bnd (gD v4 false (aA v7 h7) h7) fun v8 h8 =>
 bnd (gD v4 false (bX v8 (aN 0) h8) h8) fun v9 h9 =>
 bnd (gD v4 false (aD .eql v9 (.i .u8 (Int.ofNat 34)) h9) h9) fun v10 h10 =>
 bnd (aP v4 (.b true) v10 h10) fun v11 h11 =>
 aT v11 (
  aRd r n kk7 x5 x6 x7 h11) (
 bnd (aE 1 x6 x7 h11) fun v12 h12 =>
 bnd (aA v12 h12) fun v13 h13 =>
 bnd (r 20 [v13] h13) fun v14 h14 =>
 bnd (aC 0 v14 h14) fun v15 h15 =>
 bnd (aC 1 v14 h15) fun v16 h16 =>
 bnd (bY [(aN 0),(.s []),(.s []),.l0,(.s []),(aN 0)] h16) fun v17 h17 =>
 bnd (aG 6 v17 v15 h17) fun _ h18 =>
 bnd (gQ .not v16 h18) fun v19 h19 =>
 aT v19 (
 bnd (aD .add x7 (aN 1) h19) fun v20 h20 =>
 some (.t [.l0,v20,(aN 30)],h20)) (
 bnd (cB x5 h19) fun v21 h21 =>
 bnd (aD .eql v21 (aN 60) h21) fun v22 h22 =>
 aT v22 (
 bnd (aD .add x7 (aN 1) h22) fun v23 h23 =>
 some (.t [.l0,v23,(aN 31)],h23)) (
 bnd (aK 6 v17 h22) fun v24 h24 =>
 bnd (aO [(aN 0),(.s []),(.s []),.l0,(.s []),(aN 0)] 1 [(0,6,v24)] h24) fun v25 h25 =>
 bnd (bB 6 88 x5 v25 h25) fun v26 h26 =>
    aRd r n kk7 v26 x6 x7 h26)))
def cTg (r : RT) (n : Nat) (kk7 : dP) (x5 x6 x7 : DV) (h0 : Hp) : aH :=
 bnd (cB x6 h0) fun v1 h1 =>
 bnd (aD .lss x7 v1 h1) fun v2 h2 =>
 aT v2 (
   cKs r n kk7 x5 x6 x7 h2) (
   iL r n x5 h2)
def aVw (r : RT) (n : Nat) (m : Nat) : dP :=
 Nat.rec (motive:=fun _=>dP) (fun _ _ _ _=>none) (fun _ ih=>cTg r n ih) m
def dKg (r : RT) (n : Nat) : dP:=aVw r n n
def dAn (r : RT) (n : Nat) (x5 x6 x7 : DV) (h0 : Hp) : aH :=
 dKg r n x5 x6 x7 h0
def dCa (r : RT) (n : Nat) (x5 x6 : DV) (h0 : Hp) : aH :=
 dAn r n x5 x6 (aN 0) h0
def cWs (r : RT) (n : Nat) (x0 x5 : DV) (h0 : Hp) : aH :=
 bnd (r 19 [x0,(.i .u8 (Int.ofNat 10))] h0) fun v1 h1 =>
  dCa r n x5 v1 h1
def dCu (r : RT) (n : Nat) (x0 : DV) (h0 : Hp) : aH :=
 cWs r n x0 .l0 h0
def cWb (r : RT) (n : Nat) (x0 : DV) (h0 : Hp) : aH :=
 bnd (cM x0 h0) fun v1 h1 =>
 bnd (aD .gtr v1 (aN 20000) h1) fun v2 h2 =>
 aT v2 (
 some (.t [.l0,(aN 0),(aN 31)],h2)) (
  dCu r n x0 h2)
def s9 (r : RT) (n : Nat) (x0 : DV) (h0 : Hp) : aH :=
 cWb r n x0 h0
abbrev c9 : Code:=cf Tryz.f9
abbrev cPp : Code:=cR c9
abbrev cMt : Code:=cR cPp
abbrev cFh : Code:=cR cMt
abbrev cEa : Code:=cR cFh
abbrev dTm : Code:=cR cEa
abbrev bUb : Code:=cL cEa
abbrev cVc : Code:=cR bUb
abbrev cKj : Code:=cL cVc
abbrev aCl : Code:=cL cKj
abbrev bDg : Code:=cR aCl
abbrev dNz : Code:=cR bDg
abbrev bWj : Code:=cL bDg
abbrev cSh : Code:=cL aCl
abbrev cRw : Code:=cL bUb
abbrev cTo : Code:=cL cFh
abbrev cQp : Code:=cL cMt
abbrev cSg : Code:=cL cPp
abbrev cSr : Code:=cL c9
abbrev r9 : K:=aR CF Tryz.f9
def D9 (r : RT) (n : Nat) (c : Code) (X : Nat → K) (k : K) : K:=aM CF r 57 n c X r9 k
theorem dLa : D9 r n dTm x0 r9 = (K1 (iL r n) 5) :=
 (by kernel_rfl)
theorem dIz (kk7 : dP) : D9 r n dNz (xs x0 0 (K1 (iL r n) 5)) (K3 kk7 5 6 7) = (K3 (aRd r n kk7) 5 6 7) :=
 (by kernel_rfl)
theorem cWi (kk7 : dP) : D9 r n bDg (xs x0 0 (K1 (iL r n) 5)) (K3 kk7 5 6 7) = D9 r n bWj (xs x0 0 (K1 (iL r n) 5)) (K3 (aRd r n kk7) 5 6 7) :=
 congrArg (fun k=>D9 r n bWj (xs x0 0 (K1 (iL r n) 5)) k) (dIz r n kk7)
theorem dCv (kk7 : dP) (q0 : dP) (q1 : TT1) : D9 r n bWj (xs x0 0 (K1 q1 5)) (K3 q0 5 6 7) = fun (env : bA) (h : Hp) =>
 bnd (aE 1 (env 6) (env 7) h) fun v1 h1 =>
 bnd (aA v1 h1) fun v2 h2 =>
 bnd (cM v2 h2) fun v3 h3 =>
 bnd (aD .eql v3 (aN 0) h3) fun v4 h4 =>
 bnd (gD v4 false (some ((env 6),h4)) h4) fun v5 h5 =>
 bnd (gD v4 false (some ((env 7),h5)) h5) fun v6 h6 =>
 bnd (gD v4 false (aE 1 v5 v6 h6) h6) fun v7 h7 =>
 bnd (gD v4 false (aA v7 h7) h7) fun v8 h8 =>
 bnd (gD v4 false (bX v8 (aN 0) h8) h8) fun v9 h9 =>
 bnd (gD v4 false (aD .eql v9 (.i .u8 (Int.ofNat 34)) h9) h9) fun v10 h10 =>
 bnd (aP v4 (.b true) v10 h10) fun v11 h11 =>
 aT v11 (
   q0 (env 5) (env 6) (env 7) h11) (
 bnd (aE 1 (env 6) (env 7) h11) fun v12 h12 =>
 bnd (aA v12 h12) fun v13 h13 =>
 bnd (r 20 [v13] h13) fun v14 h14 =>
 bnd (aC 0 v14 h14) fun v15 h15 =>
 bnd (aC 1 v14 h15) fun v16 h16 =>
 bnd (bY [(aN 0),(.s []),(.s []),.l0,(.s []),(aN 0)] h16) fun v17 h17 =>
 bnd (aG 6 v17 v15 h17) fun _ h18 =>
 bnd (gQ .not v16 h18) fun v19 h19 =>
 aT v19 (
 bnd (aD .add (env 7) (aN 1) h19) fun v20 h20 =>
 some (.t [.l0,v20,(aN 30)],h20)) (
 bnd (cB (env 5) h19) fun v21 h21 =>
 bnd (aD .eql v21 (aN 60) h21) fun v22 h22 =>
 aT v22 (
 bnd (aD .add (env 7) (aN 1) h22) fun v23 h23 =>
 some (.t [.l0,v23,(aN 31)],h23)) (
 bnd (aK 6 v17 h22) fun v24 h24 =>
 bnd (aO [(aN 0),(.s []),(.s []),.l0,(.s []),(aN 0)] 1 [(0,6,v24)] h24) fun v25 h25 =>
 bnd (bB 6 88 (env 5) v25 h25) fun v26 h26 =>
     q0 v26 (env 6) (env 7) h26))):=by kernel_rfl
theorem cLc (kk7 : dP) : (fun (env : bA) (h : Hp) =>
 bnd (aE 1 (env 6) (env 7) h) fun v1 h1 =>
 bnd (aA v1 h1) fun v2 h2 =>
 bnd (cM v2 h2) fun v3 h3 =>
 bnd (aD .eql v3 (aN 0) h3) fun v4 h4 =>
 bnd (gD v4 false (some ((env 6),h4)) h4) fun v5 h5 =>
 bnd (gD v4 false (some ((env 7),h5)) h5) fun v6 h6 =>
 bnd (gD v4 false (aE 1 v5 v6 h6) h6) fun v7 h7 =>
 bnd (gD v4 false (aA v7 h7) h7) fun v8 h8 =>
 bnd (gD v4 false (bX v8 (aN 0) h8) h8) fun v9 h9 =>
 bnd (gD v4 false (aD .eql v9 (.i .u8 (Int.ofNat 34)) h9) h9) fun v10 h10 =>
 bnd (aP v4 (.b true) v10 h10) fun v11 h11 =>
 aT v11 (
   aRd r n kk7 (env 5) (env 6) (env 7) h11) (
 bnd (aE 1 (env 6) (env 7) h11) fun v12 h12 =>
 bnd (aA v12 h12) fun v13 h13 =>
 bnd (r 20 [v13] h13) fun v14 h14 =>
 bnd (aC 0 v14 h14) fun v15 h15 =>
 bnd (aC 1 v14 h15) fun v16 h16 =>
 bnd (bY [(aN 0),(.s []),(.s []),.l0,(.s []),(aN 0)] h16) fun v17 h17 =>
 bnd (aG 6 v17 v15 h17) fun _ h18 =>
 bnd (gQ .not v16 h18) fun v19 h19 =>
 aT v19 (
 bnd (aD .add (env 7) (aN 1) h19) fun v20 h20 =>
 some (.t [.l0,v20,(aN 30)],h20)) (
 bnd (cB (env 5) h19) fun v21 h21 =>
 bnd (aD .eql v21 (aN 60) h21) fun v22 h22 =>
 aT v22 (
 bnd (aD .add (env 7) (aN 1) h22) fun v23 h23 =>
 some (.t [.l0,v23,(aN 31)],h23)) (
 bnd (aK 6 v17 h22) fun v24 h24 =>
 bnd (aO [(aN 0),(.s []),(.s []),.l0,(.s []),(aN 0)] 1 [(0,6,v24)] h24) fun v25 h25 =>
 bnd (bB 6 88 (env 5) v25 h25) fun v26 h26 =>
     aRd r n kk7 v26 (env 6) (env 7) h26)))) = (K3 (cKs r n kk7) 5 6 7):=by kernel_rfl
theorem dLw (kk7 : dP) : D9 r n bDg (xs x0 0 (K1 (iL r n) 5)) (K3 kk7 5 6 7) = (K3 (cKs r n kk7) 5 6 7) :=
 (cWi r n kk7).trans
 ((dCv r n kk7 (aRd r n kk7) (iL r n)).trans (cLc r n kk7))
theorem cZt (kk7 : dP) : D9 r n aCl (xs x0 0 (K1 (iL r n) 5)) (K3 kk7 5 6 7) = D9 r n cSh (xs x0 0 (K1 (iL r n) 5)) (K3 (cKs r n kk7) 5 6 7) :=
 congrArg (fun k=>D9 r n cSh (xs x0 0 (K1 (iL r n) 5)) k) (dLw r n kk7)
theorem dDm (kk7 : dP) : D9 r n aCl (xs x0 0 (K1 (iL r n) 5)) (K3 kk7 5 6 7) = (K3 (cTg r n kk7) 5 6 7) :=
 (cZt r n kk7).trans
 ((by kernel_rfl))
theorem dEh (m : Nat) : aL (fun kk=>D9 r n aCl (xs x0 0 (K1 (iL r n) 5)) kk) m = (K3 (aVw r n m) 5 6 7):=by
 induction m with
 | zero=>exact (by kernel_rfl : aL (fun kk=>D9 r n aCl (xs x0 0 (K1 (iL r n) 5)) kk) 0 = (K3 (aVw r n 0) 5 6 7))
 | succ m ih =>
  refine (by kernel_rfl : aL (fun kk=>D9 r n aCl (xs x0 0 (K1 (iL r n) 5)) kk) (m + 1) = D9 r n aCl (xs x0 0 (K1 (iL r n) 5)) (aL (fun kk=>D9 r n aCl (xs x0 0 (K1 (iL r n) 5)) kk) m)).trans ?_
  rw [ih]
  exact (dDm r n (aVw r n m)).trans (by kernel_rfl)
theorem dIl : D9 r n cKj (xs x0 0 (K1 (iL r n) 5)) (K1 (iL r n) 5) = (K3 (dKg r n) 5 6 7) :=
 (by kernel_rfl : D9 r n cKj (xs x0 0 (K1 (iL r n) 5)) (K1 (iL r n) 5) = aL (fun kk=>D9 r n aCl (xs x0 0 (K1 (iL r n) 5)) kk) n).trans ((dEh r n n).trans (by kernel_rfl))
theorem dPn : D9 r n cVc x0 (K1 (iL r n) 5) = (K3 (dAn r n) 5 6 7) :=
 (by kernel_rfl : D9 r n cVc x0 (K1 (iL r n) 5) = D9 r n cKj (xs x0 0 (K1 (iL r n) 5)) (K1 (iL r n) 5)).trans
 ((dIl r n).trans (by kernel_rfl))
theorem cZv : D9 r n cEa x0 r9 = D9 r n bUb x0 (K1 (iL r n) 5) :=
 congrArg (fun k=>D9 r n bUb x0 k) (dLa r n)
theorem dDw : D9 r n bUb x0 (K1 (iL r n) 5) = D9 r n cRw x0 (K3 (dAn r n) 5 6 7) :=
 congrArg (fun k=>D9 r n cRw x0 k) (dPn r n)
theorem dLe : D9 r n cEa x0 r9 = (K2 (dCa r n) 5 6) :=
 (cZv r n).trans
 ((dDw r n).trans
 ((by kernel_rfl)))
theorem dGo : D9 r n cFh x0 r9 = D9 r n cTo x0 (K2 (dCa r n) 5 6) :=
 congrArg (fun k=>D9 r n cTo x0 k) (dLe r n)
theorem dIn : D9 r n cFh x0 r9 = (K2 (cWs r n) 0 5) :=
 (dGo r n).trans
 ((by kernel_rfl))
theorem dAv : D9 r n cMt x0 r9 = D9 r n cQp x0 (K2 (cWs r n) 0 5) :=
 congrArg (fun k=>D9 r n cQp x0 k) (dIn r n)
theorem dPh : D9 r n cMt x0 r9 = (K1 (dCu r n) 0) :=
 (dAv r n).trans
 ((by kernel_rfl))
theorem dEg : D9 r n cPp x0 r9 = D9 r n cSg x0 (K1 (dCu r n) 0) :=
 congrArg (fun k=>D9 r n cSg x0 k) (dPh r n)
theorem dId : D9 r n cPp x0 r9 = (K1 (cWb r n) 0) :=
 (dEg r n).trans
 ((by kernel_rfl))
theorem dTu : D9 r n c9 x0 r9 = D9 r n cSr x0 (K1 (cWb r n) 0) :=
 congrArg (fun k=>D9 r n cSr x0 k) (dId r n)
theorem s9m : D9 r n c9 x0 r9 = (K1 (s9 r n) 0) :=
 (dTu r n).trans
 ((by kernel_rfl))
theorem dUu : aF CF r n 9 args h = s9 r n (aV args 0) h :=
 (by kernel_rfl : aF CF r n 9 args h = D9 r n c9 x0 r9 (aJ args) h).trans ((congrFun (congrFun (s9m r n) (aJ args)) h).trans (by kernel_rfl))
def iK (r : RT) (n : Nat) (h0 : Hp) : aH :=
 some ((.b true),h0)
def bLy (r : RT) (n : Nat) (kk5 : dP) (x0 x1 x5 : DV) (h0 : Hp) : aH :=
 bnd (cB x0 h0) fun v1 h1 =>
 bnd (aD .lss x5 v1 h1) fun v2 h2 =>
 aT v2 (
 bnd (aE 6 x0 x5 h2) fun v3 h3 =>
 bnd (aK 6 v3 h3) fun v4 h4 =>
 bnd (aE 6 x1 x5 h4) fun v5 h5 =>
 bnd (aK 6 v5 h5) fun v6 h6 =>
 bnd (r 21 [v4,v6] h6) fun v7 h7 =>
 bnd (gQ .not v7 h7) fun v8 h8 =>
 aT v8 (
 some ((.b false),h8)) (
 bnd (aD .add x5 (aN 1) h8) fun v9 h9 =>
    kk5 x0 x1 v9 h9)) (
      iK r n h2)
def aHr (r : RT) (n : Nat) (m : Nat) : dP :=
 Nat.rec (motive:=fun _=>dP) (fun _ _ _ _=>none) (fun _ ih=>bLy r n ih) m
def cRn (r : RT) (n : Nat) : dP:=aHr r n n
def bJu (r : RT) (n : Nat) (x0 x1 x5 : DV) (h0 : Hp) : aH :=
 cRn r n x0 x1 x5 h0
def bLu (r : RT) (n : Nat) (x0 x1 : DV) (h0 : Hp) : aH :=
 bJu r n x0 x1 (aN 0) h0
def bXt (r : RT) (n : Nat) (x0 x1 : DV) (h0 : Hp) : aH :=
 bnd (cB x0 h0) fun v1 h1 =>
 bnd (cB x1 h1) fun v2 h2 =>
 bnd (aD .neq v1 v2 h2) fun v3 h3 =>
 aT v3 (
 some ((.b false),h3)) (
  bLu r n x0 x1 h3)
def s10 (r : RT) (n : Nat) (x0 x1 : DV) (h0 : Hp) : aH :=
 bXt r n x0 x1 h0
abbrev c10 : Code:=cf Tryz.f10
abbrev aXa : Code:=cR c10
abbrev bEc : Code:=cR aXa
abbrev dPv : Code:=cR bEc
abbrev aOd : Code:=cL bEc
abbrev bVr : Code:=cR aOd
abbrev bAn : Code:=cL bVr
abbrev zW : Code:=cL bAn
abbrev cQq : Code:=cL aOd
abbrev cUc : Code:=cL aXa
abbrev bWo : Code:=cL c10
abbrev r10 : K:=aR CF Tryz.f10
def D10 (r : RT) (n : Nat) (c : Code) (X : Nat → K) (k : K) : K:=aM CF r 29 n c X r10 k
theorem dAo : D10 r n dPv x0 r10 = (K0 (iK r n)) :=
 (by kernel_rfl)
theorem cBy (kk5 : dP) : D10 r n zW (xs x0 0 (K0 (iK r n))) (K3 kk5 0 1 5) = (K3 (bLy r n kk5) 0 1 5) :=
 (by kernel_rfl)
theorem cLk (m : Nat) : aL (fun kk=>D10 r n zW (xs x0 0 (K0 (iK r n))) kk) m = (K3 (aHr r n m) 0 1 5):=by
 induction m with
 | zero=>exact (by kernel_rfl : aL (fun kk=>D10 r n zW (xs x0 0 (K0 (iK r n))) kk) 0 = (K3 (aHr r n 0) 0 1 5))
 | succ m ih =>
  refine (by kernel_rfl : aL (fun kk=>D10 r n zW (xs x0 0 (K0 (iK r n))) kk) (m + 1) = D10 r n zW (xs x0 0 (K0 (iK r n))) (aL (fun kk=>D10 r n zW (xs x0 0 (K0 (iK r n))) kk) m)).trans ?_
  rw [ih]
  exact (cBy r n (aHr r n m)).trans (by kernel_rfl)
theorem dFn : D10 r n bAn (xs x0 0 (K0 (iK r n))) (K0 (iK r n)) = (K3 (cRn r n) 0 1 5) :=
 (by kernel_rfl : D10 r n bAn (xs x0 0 (K0 (iK r n))) (K0 (iK r n)) = aL (fun kk=>D10 r n zW (xs x0 0 (K0 (iK r n))) kk) n).trans ((cLk r n n).trans (by kernel_rfl))
theorem dHk : D10 r n bVr x0 (K0 (iK r n)) = (K3 (bJu r n) 0 1 5) :=
 (by kernel_rfl : D10 r n bVr x0 (K0 (iK r n)) = D10 r n bAn (xs x0 0 (K0 (iK r n))) (K0 (iK r n))).trans
 ((dFn r n).trans (by kernel_rfl))
theorem cGg : D10 r n bEc x0 r10 = D10 r n aOd x0 (K0 (iK r n)) :=
 congrArg (fun k=>D10 r n aOd x0 k) (dAo r n)
theorem cPm : D10 r n aOd x0 (K0 (iK r n)) = D10 r n cQq x0 (K3 (bJu r n) 0 1 5) :=
 congrArg (fun k=>D10 r n cQq x0 k) (dHk r n)
theorem dFx : D10 r n bEc x0 r10 = (K2 (bLu r n) 0 1) :=
 (cGg r n).trans
 ((cPm r n).trans
 ((by kernel_rfl)))
theorem cOh : D10 r n aXa x0 r10 = D10 r n cUc x0 (K2 (bLu r n) 0 1) :=
 congrArg (fun k=>D10 r n cUc x0 k) (dFx r n)
theorem dGt : D10 r n aXa x0 r10 = (K2 (bXt r n) 0 1) :=
 (cOh r n).trans
 ((by kernel_rfl))
theorem dMj : D10 r n c10 x0 r10 = D10 r n bWo x0 (K2 (bXt r n) 0 1) :=
 congrArg (fun k=>D10 r n bWo x0 k) (dGt r n)
theorem dUg : D10 r n c10 x0 r10 = (K2 (s10 r n) 0 1) :=
 (dMj r n).trans
 ((by kernel_rfl))
theorem dIg : aF CF r n 10 args h = s10 r n (aV args 0) (aV args 1) h :=
 (by kernel_rfl : aF CF r n 10 args h = D10 r n c10 x0 r10 (aJ args) h).trans ((congrFun (congrFun (dUg r n) (aJ args)) h).trans (by kernel_rfl))
def s11 (r : RT) (n : Nat) (h0 : Hp) : aH :=
 bnd (r 22 [(.i .i64 (Int.ofNat 30000)),(.s [99,108,97,115,115,32,80,111,105,110,116,32,79,98,106,101,99,116,32,120,32,121,10,109,101,116,104,111,100,32,80,111,105,110,116,32,120,32,94,120,10,100,111,32,49,48,48,32,51,32,43,32,52,10])] h0) fun v1 h1 =>
 bnd (aC 0 v1 h1) fun v2 h2 =>
 bnd (aC 1 v1 h2) fun v3 h3 =>
 bnd (aC 2 v1 h3) fun v4 h4 =>
 bnd (r 8 [(.s [101,118,101,114,121])] h4) fun v5 h5 =>
 bnd (aC 0 v5 h5) fun v6 h6 =>
 bnd (aC 1 v5 h6) fun v7 h7 =>
 bnd (aC 2 v5 h7) fun v8 h8 =>
 bnd (bI .eql v2 (.s [48,32,48,32,48,32,34,34,32,34,34,10,48,32,48,32,48,32,34,34,32,34,34,10,48,32,48,32,57,54,32,34,55,34,32,34,34,10]) h8) fun v9 h9 =>
 bnd (gD v9 true (some (v3,h9)) h9) fun v10 h10 =>
 bnd (gD v9 true (aD .eql v10 (.i .i64 (Int.ofNat 0)) h10) h10) fun v11 h11 =>
 bnd (aP v9 v11 (.b false) h11) fun v12 h12 =>
 bnd (gD v12 true (some (v4,h12)) h12) fun v13 h13 =>
 bnd (gD v12 true (aD .eql v13 (.i .i64 (Int.ofNat 0)) h13) h13) fun v14 h14 =>
 bnd (aP v12 v14 (.b false) h14) fun v15 h15 =>
 bnd (gD v15 true (some (v7,h15)) h15) fun v16 h16 =>
 bnd (gD v15 true (aD .eql v16 (.i .i64 (Int.ofNat 1)) h16) h16) fun v17 h17 =>
 bnd (aP v15 v17 (.b false) h17) fun v18 h18 =>
 bnd (gD v18 true (some (v8,h18)) h18) fun v19 h19 =>
 bnd (gD v18 true (aD .eql v19 (.i .i64 (Int.ofNat 30)) h19) h19) fun v20 h20 =>
 bnd (aP v18 v20 (.b false) h20) fun v21 h21 =>
 some (v21,h21)
abbrev c11 : Code:=cf Tryz.f11
abbrev r11 : K:=aR CF Tryz.f11
def D11 (r : RT) (n : Nat) (c : Code) (X : Nat → K) (k : K) : K:=aM CF r 35 n c X r11 k
theorem dRb : D11 r n c11 x0 r11 = (K0 (s11 r n)) :=
 (by kernel_rfl)
theorem cTb : aF CF r n 11 args h = s11 r n h :=
 (by kernel_rfl : aF CF r n 11 args h = D11 r n c11 x0 r11 (aJ args) h).trans ((congrFun (congrFun (dRb r n) (aJ args)) h).trans (by kernel_rfl))
def s12 (r : RT) (n : Nat) (x0 : DV) (h0 : Hp) : aH :=
 bnd (dA x0 h0) fun v1 h1 =>
 bnd (aB 0 v1 (resv 1 h1)) fun v2 h2 =>
 bnd (aA v2 h2) fun v3 h3 =>
 bnd (jP [v3] h3) fun v4 h4 =>
 bnd (aB 1 v1 h4) fun v5 h5 =>
 bnd (aA v5 h5) fun v6 h6 =>
 cnd (bJ (aA v5 (resv 1 h1)) v6 && true) (
 bnd (jP [v6] h6) fun v7 h7 =>
 bnd (aB 4 v1 h7) fun v8 h8 =>
 bnd (aA v8 h8) fun v9 h9 =>
 cnd (bJ (aA v8 h4) v9 && (bJ (aA v8 (resv 1 h1)) v9 && true)) (
 bnd (jP [v9] h9) fun v10 h10 =>
 bnd (aB 3 v1 h10) fun v11 h11 =>
 bnd (aA v11 h11) fun v12 h12 =>
 cnd (bJ (aA v11 h7) v12 && (bJ (aA v11 h4) v12 && (bJ (aA v11 (resv 1 h1)) v12 && true))) (
 bnd (lB [v12] h12) fun v13 h13 =>
 bnd (aB 2 v1 h13) fun v14 h14 =>
 bnd (aA v14 h14) fun v15 h15 =>
 cnd (bJ (aA v14 h10) v15 && (bJ (aA v14 h7) v15 && (bJ (aA v14 h4) v15 && (bJ (aA v14 (resv 1 h1)) v15 && true)))) (
 bnd (lB [v15] h15) fun v16 h16 =>
 bnd (cS (cW 0 h1.next) [(.s []),(.s []),(.s []),(.s []),(.s [])] 5 [(0,1,v4),(1,1,v7),(2,1,v10),(3,1,v13),(4,1,v16)] h16) fun v17 h17 =>
 bnd (pT [v17,(.s [32])] h17) fun v18 h18 =>
 bnd (bI .add v18 (.s [10]) h18) fun v19 h19 =>
 some (v19,h19)))))
abbrev c12 : Code:=cf Tryz.f12
abbrev r12 : K:=aR CF Tryz.f12
def D12 (r : RT) (n : Nat) (c : Code) (X : Nat → K) (k : K) : K:=aM CF r 21 n c X r12 k
theorem dSi : D12 r n c12 x0 r12 = (K1 (s12 r n) 0) :=
 (by kernel_rfl)
theorem dMh : aF CF r n 12 args h = s12 r n (aV args 0) h :=
 (by kernel_rfl : aF CF r n 12 args h = D12 r n c12 x0 r12 (aJ args) h).trans ((congrFun (congrFun (dSi r n) (aJ args)) h).trans (by kernel_rfl))
def s13 (r : RT) (n : Nat) (x0 : DV) (h0 : Hp) : aH :=
 bnd (dA x0 h0) fun v1 h1 =>
 bnd (aB 0 v1 h1) fun v2 h2 =>
 bnd (aA v2 h2) fun v3 h3 =>
 bnd (r 26 [v3] h3) fun v4 h4 =>
 bnd (bI .add v4 (.s [32]) h4) fun v5 h5 =>
 bnd (aB 1 v1 h5) fun v6 h6 =>
 bnd (aA v6 h6) fun v7 h7 =>
 cnd (bJ (aA v6 h1) v7 && true) (
 bnd (r 26 [v7] h7) fun v8 h8 =>
 bnd (bI .add v5 v8 h8) fun v9 h9 =>
 bnd (bI .add v9 (.s [32]) h9) fun v10 h10 =>
 bnd (aB 4 v1 h10) fun v11 h11 =>
 bnd (aA v11 h11) fun v12 h12 =>
 cnd (bJ (aA v11 h4) v12 && (bJ (aA v11 h1) v12 && true)) (
 bnd (r 26 [v12] h12) fun v13 h13 =>
 bnd (bI .add v10 v13 h13) fun v14 h14 =>
 bnd (bI .add v14 (.s [32]) h14) fun v15 h15 =>
 bnd (aB 3 v1 h15) fun v16 h16 =>
 bnd (aA v16 h16) fun v17 h17 =>
 cnd (bJ (aA v16 h8) v17 && (bJ (aA v16 h4) v17 && (bJ (aA v16 h1) v17 && true))) (
 bnd (r 27 [v17] h17) fun v18 h18 =>
 bnd (bI .add v15 v18 h18) fun v19 h19 =>
 bnd (bI .add v19 (.s [32]) h19) fun v20 h20 =>
 bnd (aB 2 v1 h20) fun v21 h21 =>
 bnd (aA v21 h21) fun v22 h22 =>
 cnd (bJ (aA v21 h13) v22 && (bJ (aA v21 h8) v22 && (bJ (aA v21 h4) v22 && (bJ (aA v21 h1) v22 && true)))) (
 bnd (r 27 [v22] h22) fun v23 h23 =>
 bnd (bI .add v20 v23 h23) fun v24 h24 =>
 bnd (bI .add v24 (.s [10]) h24) fun v25 h25 =>
 some (v25,h25)))))
abbrev c13 : Code:=cf Tryz.f13
abbrev r13 : K:=aR CF Tryz.f13
def D13 (r : RT) (n : Nat) (c : Code) (X : Nat → K) (k : K) : K:=aM CF r 27 n c X r13 k
theorem dVh : D13 r n c13 x0 r13 = (K1 (s13 r n) 0) :=
 (by kernel_rfl)
theorem dMk : aF CF r n 13 args h = s13 r n (aV args 0) h :=
 (by kernel_rfl : aF CF r n 13 args h = D13 r n c13 x0 r13 (aJ args) h).trans ((congrFun (congrFun (dVh r n) (aJ args)) h).trans (by kernel_rfl))
end Go.Dd

end
