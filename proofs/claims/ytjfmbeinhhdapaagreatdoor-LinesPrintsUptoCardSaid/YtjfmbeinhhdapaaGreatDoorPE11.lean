/- A part of the proof: LN LO LP LR XP: each text has a comment of its own. -/
import Derived.Test.YtjfmbeinhhdapaaGreatDoorPE10
import Derived.ChangeArms
set_option linter.unusedVariables false
set_option linter.unusedSimpArgs false
set_option linter.constructorNameAsVariable false
set_option maxRecDepth 100000
noncomputable section
namespace Go.Dd
open Go.Proofs
theorem dWo (n : Nat) (x : DV) (h : Hp) : dB (n + 1) 28 [x] h = s28 (dB n) n x h:=(cH 28 rfl n [x] h).trans (cSc (dB n) n [x] h)
theorem dRo (n : Nat) (x y : DV) (h : Hp) : dB (n + 1) 29 [x,y] h = s29 (dB n) n x y h:=(cH 29 rfl n [x,y] h).trans (cSx (dB n) n [x,y] h)
theorem dWw (n : Nat) (x y : DV) (h : Hp) : dB (n + 1) 30 [x,y] h = s30 (dB n) n x y h:=(cH 30 rfl n [x,y] h).trans (cRi (dB n) n [x,y] h)
theorem dUv (n : Nat) (x : DV) (h : Hp) : dB (n + 1) 31 [x] h = s31 (dB n) n x h:=(cH 31 rfl n [x] h).trans (cSv (dB n) n [x] h)
theorem dXe (n : Nat) (x y : DV) (h : Hp) : dB (n + 1) 44 [x,y] h = s44 (dB n) n x y h:=(cH 44 rfl n [x,y] h).trans (cSq (dB n) n [x,y] h)
theorem dSq (n : Nat) (x y : DV) (h : Hp) : dB (n + 1) 45 [x,y] h = s45 (dB n) n x y h:=(cH 45 rfl n [x,y] h).trans (cTw (dB n) n [x,y] h)
structure Sml (st : Stp) : Prop where
 nm : st.nm.length ≤ 1048576
 sup : st.sup.length ≤ 1048576
 tx : st.tx.length ≤ 1048576
 cnt : st.names.length ≤ 9
 names : ∀ t ∈ st.names,t.length ≤ 1048576
 n : inI st.n
 op : inI st.op
theorem aHv (sep : Bs) : ∀ l : List Bs,jK sep l = yP sep l
 | []=>rfl
 | [x]=>rfl
 | x :: y :: l=>by rw [jK,yP,aHv sep (y :: l)]
theorem uO (l : List Bs) (B : Nat) (hl : ∀ t ∈ l,t.length ≤ B) : (jK [32] l).length ≤ l.length * (B + 1):=by
 match l,hl with
 | [],_=>simp [jK]
 | [x],hl=>have:=hl x (by simp); simp [jK]; omega
 | x :: y :: l,hl =>
  have ih:=uO (y :: l) B (fun t ht=>hl t (by simp at ht ⊢; exact .inr ht))
  have hx:=hl x (by simp)
  rw [jK]
  simp only [laE,lcE,lnE] at ih ⊢
  rw [Nat.succ_mul]
  omega
theorem aMg {st : Stp} (S : Sml st) : (dU cG st).length ≤ 13000000:=by
 have hi:=zF st.n
 obtain ⟨h1,h2,h3,h4,h5,_,_⟩:=S
 unfold dU
 split
 ·rw [← aHv]
  have:=uO (dI :: st.nm :: st.sup :: st.names) 1048576 (fun t ht=>by
   simp only [List.mem_cons] at ht
   rcases ht with rfl | rfl | rfl | ht
   ·decide
   ·exact h1
   ·exact h2
   ·exact h5 t ht)
  have e : (dI :: st.nm :: st.sup :: st.names).length * (1048576 + 1) ≤ 12 * 1048577:=Nat.mul_le_mul (by simp; omega) (Nat.le_refl _)
  omega
 ·split
  ·simp [eF]; omega
  ·split
   ·simp [wDo]; omega
   ·split
    ·split <;> simp [iQ,kH] <;> omega
    ·split
     ·decide
     ·split
      ·decide
      ·split
       ·decide
       ·simp [jT]; omega
theorem TxS.src {v : DV} {l : List Bs} {h : Hp} (T : TxS v l h) : lM 1 v h = some (l.length,l.map DV.s):=by
 rcases T with ⟨rfl | rfl,rfl⟩ | ⟨b,o,cap,k,row,rfl,e2,e3,e4,e5⟩
 ·rfl
 ·rfl
 ·have ht : jJ l.length (row.drop o) = some (l.map DV.s):=by
   have hle : l.length ≤ (row.drop o).length:=by
    rcases Nat.eq_zero_or_pos l.length with z | z
    ·omega
    ·have:=e3 (l.length - 1) (by omega)
     rw [List.getElem?_eq_getElem (show l.length - 1 < l.length by omega)] at this
     have hlt : o + (l.length - 1) < row.length:=by
      rcases Nat.lt_or_ge (o + (l.length - 1)) row.length with h | h
      ·exact h
      ·rw [List.getElem?_eq_none h] at this; cases this
     rw [List.length_drop]
     omega
   have he : (row.drop o).take l.length = l.map DV.s:=by
    apply List.ext_getElem?
    intro j
    by_cases hj : j < l.length
    ·rw [List.getElem?_take_of_lt hj,List.getElem?_drop,e3 j hj,List.getElem?_map]
    ·rw [List.getElem?_eq_none (by rw [List.length_take]; omega),List.getElem?_eq_none (by rw [List.length_map]; omega)]
   rw [mN _ _ hle (fun v hv=>by
    rw [he] at hv
    simp only [List.mem_map] at hv
    obtain ⟨c,_,rfl⟩:=hv
    rfl),he]
  simp only [lM,cellsAt,rowOf,e2,Nat.mul_one,ht]
theorem aOo : ∀ l : List Bs,nO (l.map DV.s) = some l
 | []=>rfl
 | x :: l=>by simp [nO,aOo l]
section
variable {h : Hp}
theorem rO {ca : List DV} {st : Stp} (A : StC ca st h) : ∃ v g,dA (.a ca) h = some (.p h.next 0,g) ∧ Lo h.next.toNat h g ∧ h.next.toNat < g.next.toNat ∧ g.bl.get h.next = some (.row .ex ca) ∧
  ca = [.i .i64 st.op,.s st.nm,.s st.sup,v,.s st.tx,.i .i64 st.n] ∧ TxS v st.names g ∧ (∀ b o l c,v = .l b o l c → b.toNat < h.next.toNat) ∧
  ∀ q : Hp,q.bl.get h.next = some (.row .ex ca) → aA (.p h.next 0) q = some (.i .i64 st.op,q) ∧ aA (.p h.next 1) q = some (.s st.nm,q) ∧ aA (.p h.next 2) q = some (.s st.sup,q) ∧ aA (.p h.next 3) q = some (v,q) ∧ aA (.p h.next 4) q = some (.s st.tx,q) ∧ aA (.p h.next 5) q = some (.i .i64 st.n,q):=by
 obtain ⟨v,rfl,T⟩:=A
 refine ⟨v,_,rfl,Lo.new _ h,by show _ < h.next.succ.toNat; rw [dXw]; omega,dXv _ _ _,rfl,T.stay (Lo.new _ h), ?_,fun q hq=>⟨sO hq rfl rfl,sO hq rfl rfl,sO hq rfl rfl,sO hq rfl T.one,sO hq rfl rfl,sO hq rfl rfl⟩⟩
 intro b o l c e
 rcases T with ⟨q | q,_⟩ | ⟨b',o',cap',k,row,q,_,_,q4,_⟩
 ·rw [q] at e; cases e
 ·rw [q] at e; cases e
 ·rw [q] at e; cases e; exact q4
theorem eqI (a b : Int) (h : Hp) : aD .eql (.i .i64 a) (.i .i64 b) h = some (.b (decide (a = b)),h):=by
 rw [fB]
 by_cases q : a = b
 ·subst q; simp
 ·simp [q]
theorem cQk {m : Nat} {ca : List DV} {st : Stp} (A : StC ca st h) (S : Sml st) : ∃ h',dB (m + 1) 28 [.a ca] h = some (.s (dU cG st),h') ∧ Lo h.next.toNat h h':=by
 obtain ⟨v,g,b1,L,hn,hg,_,T,_,ld⟩:=rO A
 obtain ⟨l0,l1,l2,l3,l4,l5⟩:=ld g hg
 have hi:=zF st.n
 have hitoa:=dBp S.n g
 have s1:=S.nm
 have s2:=S.sup
 have s3:=S.tx
 rw [dWo]
 unfold s28 dU
 simp only [b1,aI,iN,Nat.zero_add,l0,eqI,jL,decide_eq_true_eq]
 by_cases c1 : st.op = 1
 ·rw [if_pos (show st.op = Int.ofNat 1 from c1),if_pos c1]
  simp only [l1,l2,aI]
  have bs : aO [(.s []),(.s []),(.s [])] 3 [(0,1,(.s [99,108,97,115,115])),(1,1,.s st.nm),(2,1,.s st.sup)] g = some (.l g.next 0 3 3,⟨g.next.succ,Tr.set (.row .ex [.s dI,.s st.nm,.s st.sup]) g.next g.bl⟩):=rfl
  rw [bs,aI]
  have L2:=Lo.new (.row .ex [.s dI,.s st.nm,.s st.sup]) g
  generalize hq : (⟨g.next.succ,Tr.set (.row .ex [.s dI,.s st.nm,.s st.sup]) g.next g.bl⟩ : Hp) = q at L2
  have gq : q.bl.get g.next = some (.row .ex [.s dI,.s st.nm,.s st.sup]):=by rw [← hq]; exact dXv _ _ _
  have nq : q.next = g.next.succ:=by rw [← hq]
  have Tq:=T.stay L2
  have l3q : aA (.p h.next 3) q = some (v,q):=(ld q (by rw [L2.get _ hn]; exact hg)).2.2.2.1
  rw [l3q,aI]
  have jl:=uO (dI :: st.nm :: st.sup :: st.names) 1048576 (fun t ht=>by
   simp only [List.mem_cons] at ht
   rcases ht with rfl | rfl | rfl | ht
   ·decide
   ·exact s1
   ·exact s2
   ·exact S.names t ht)
  have cnt:=S.cnt
  have e12 : (dI :: st.nm :: st.sup :: st.names).length * (1048576 + 1) ≤ 12 * 1048577:=Nat.mul_le_mul (by simp; omega) (Nat.le_refl _)
  have app : ∃ x q',bB 1 16 (.l g.next 0 3 3) v q = some (x,q') ∧ TxS x (dI :: st.nm :: st.sup :: st.names) q' ∧ Lo g.next.toNat q q' ∧ bKy x = true:=by
   have src:=Tq.src
   by_cases z : st.names = []
   ·rw [z] at src ⊢
    have hst : cE g.next (0 + 3 * 1) [] q = some ⟨q.next,Tr.set (.row .ex [.s dI,.s st.nm,.s st.sup]) g.next q.bl⟩:=by
     simp only [cE,gq]
     rfl
    refine ⟨.l g.next 0 3 3,⟨q.next,Tr.set (.row .ex [.s dI,.s st.nm,.s st.sup]) g.next q.bl⟩, ?_,.inr ⟨g.next,0,3,.ex,_,rfl,dXv _ _ _,fun j hj => ?_,by show g.next.toNat < q.next.toNat; rw [nq,dXw]; omega,by simp⟩, ?_,rfl⟩
    ·unfold bB
     rw [src]
     dsimp only
     rw [if_pos (by simp)]
     simp only [List.map_nil,hst]
     rfl
    ·match j,hj with
     | 0,_=>rfl
     | 1,_=>rfl
     | 2,_=>rfl
    ·exact (Lo.set _ (Nat.le_refl _)).mono (by omega)
   ·have hpos : 0 < st.names.length:=by
     cases hh : st.names with
     | nil=>exact absurd hh z
     | cons a b=>simp
    have hc : cellsAt g.next 0 (3 * 1) q = some [.s dI,.s st.nm,.s st.sup]:=by
     simp only [cellsAt,rowOf,gq]
     rfl
    refine ⟨.l q.next 0 (3 + st.names.length) (3 + st.names.length),⟨q.next.succ,Tr.set (.row (.gr 1) ([.s dI,.s st.nm,.s st.sup] ++ st.names.map DV.s)) q.next q.bl⟩, ?_,.inr ⟨q.next,0,3 + st.names.length,.gr 1,_, ?_,dXv _ _ _,fun j hj => ?_,by show _ < q.next.succ.toNat; rw [dXw]; omega,by simp; omega⟩,(Lo.new _ q).mono (by rw [nq,dXw]; omega), ?_⟩
    ·unfold bB
     rw [src]
     dsimp only
     rw [if_neg (by omega),gq,hc]
     dsimp only
     rw [if_pos (by unfold kY; omega)]
    ·simp; omega
    ·rw [Nat.zero_add]
     have : ([.s dI,.s st.nm,.s st.sup] ++ st.names.map DV.s : List DV) = (dI :: st.nm :: st.sup :: st.names).map DV.s:=by simp
     rw [this,List.getElem?_map]
    ·exact vC (Nat.le_refl _)
  obtain ⟨x,q',a1,a2,a3,a4⟩:=app
  rw [a1,aI]
  have jf : pT [x,.s [32]] q' = some (.s (jK [32] (dI :: st.nm :: st.sup :: st.names)),q'):=by
   have src:=a2.src
   have st':=aOo (dI :: st.nm :: st.sup :: st.names)
   have hx : ∀ l,x ≠ .s l:=fun l e=>by
    rcases a2 with ⟨q | q,_⟩ | ⟨b',o',cap',k,row,q,_⟩ <;> exact absurd (q.symm.trans e) (fun z=>by cases z)
   have ln : (dI :: st.nm :: st.sup :: st.names).length ≤ 100000000000:=by simp; omega
   unfold pT
   split
   ·rename_i l _ e; exact absurd (List.cons.inj e).1 (hx _)
   ·rename_i x' sep hno e
    simp only [List.cons.injEq,DV.s.injEq,and_true] at e
    obtain ⟨rfl,rfl⟩:=e
    simp only [src,st',vC (show (jK [32] (dI :: st.nm :: st.sup :: st.names)).length ≤ 100000000000 by omega),cond_true,vC ln,a4,Bool.and_self]
   ·rename_i e1 e2; exact absurd rfl (e2 x [32])
  rw [jf,aI]
  exact ⟨q',by rw [aHv],L.trans ((L2.trans a3).mono L.next)⟩
 rw [if_neg (show ¬ st.op = Int.ofNat 1 from c1),if_neg c1]
 by_cases c2 : st.op = 2
 ·rw [if_pos (show st.op = Int.ofNat 2 from c2),if_pos c2]
  simp only [l1,l4,aI]
  rw [bQ [109,101,116,104,111,100,32] st.nm g (by simp; omega),aI,bQ _ [32] g (by simp; omega),aI]
  rw [l4,aI,bQ _ st.tx g (by simp; omega),aI]
  exact ⟨g,by simp [eF],L⟩
 rw [if_neg (show ¬ st.op = Int.ofNat 2 from c2),if_neg c2]
 by_cases c3 : st.op = 3
 ·rw [if_pos (show st.op = Int.ofNat 3 from c3),if_pos c3]
  simp only [l5,l4,aI,hitoa]
  rw [bQ [100,111,32] (cG st.n) g (by simp; omega),aI,bQ _ [32] g (by simp; omega),aI]
  rw [l4,aI]
  simp only [cRo,Bool.and_self,cBq]
  rw [bQ _ st.tx g (by simp; omega),aI]
  exact ⟨g,by simp [wDo],L⟩
 rw [if_neg (show ¬ st.op = Int.ofNat 3 from c3),if_neg c3]
 by_cases c4 : st.op = 4
 ·rw [if_pos (show st.op = Int.ofNat 4 from c4),if_pos c4]
  simp only [l5,aI,eqI,jL,decide_eq_true_eq]
  by_cases c5 : st.n = 1
  ·rw [if_pos (show st.n = Int.ofNat 1 from c5),if_pos c5]
   simp only [l1,l4,aI]
   rw [bQ [102,97,115,116,32] st.nm g (by simp; omega),aI,bQ _ [32] g (by simp; omega),aI]
   rw [l4,aI,bQ _ st.tx g (by simp; omega),aI]
   exact ⟨g,by simp [iQ],L⟩
  ·rw [if_neg (show ¬ st.n = Int.ofNat 1 from c5),if_neg c5]
   simp only [l1,l4,aI]
   rw [bQ [115,108,111,119,32] st.nm g (by simp; omega),aI,bQ _ [32] g (by simp; omega),aI]
   rw [l4,aI,bQ _ st.tx g (by simp; omega),aI]
   exact ⟨g,by simp [kH],L⟩
 rw [if_neg (show ¬ st.op = Int.ofNat 4 from c4),if_neg c4]
 by_cases c5 : st.op = 5
 ·rw [if_pos (show st.op = Int.ofNat 5 from c5),if_pos c5]
  exact ⟨g,rfl,L⟩
 rw [if_neg (show ¬ st.op = Int.ofNat 5 from c5),if_neg c5]
 by_cases c6 : st.op = 6
 ·rw [if_pos (show st.op = Int.ofNat 6 from c6),if_pos c6]
  exact ⟨g,rfl,L⟩
 rw [if_neg (show ¬ st.op = Int.ofNat 6 from c6),if_neg c6]
 by_cases c7 : st.op = 7
 ·rw [if_pos (show st.op = Int.ofNat 7 from c7),if_pos c7]
  exact ⟨g,rfl,L⟩
 rw [if_neg (show ¬ st.op = Int.ofNat 7 from c7),if_neg c7]
 simp only [l5,aI,hitoa]
 rw [bQ [101,118,101,114,121,32] (cG st.n) g (by simp; omega),aI]
 exact ⟨g,by simp [jT],L⟩
end
end Go.Dd

namespace Go.Dd
open Go.Proofs
section
variable {h : Hp}
theorem bHd (l : List Bs) (x : Bs) : fG (l ++ [x]) = fG l ++ 32 :: x:=by
 induction l with
 | nil=>simp [fG]
 | cons y l ih=>simp [fG,ih]
theorem aSa {l : List Bs} {i : Nat} (hi : i < l.length) : fG (l.take (i + 1)) = fG (l.take i) ++ 32 :: l[i]:=by
 rw [List.take_add_one,List.getElem?_eq_getElem hi]
 exact bHd _ _
theorem bHo (l : List Bs) (B : Nat) (hl : ∀ t ∈ l,t.length ≤ B) : (fG l).length ≤ l.length * (B + 1):=by
 induction l with
 | nil=>simp [fG]
 | cons x l ih =>
  have:=ih (fun t ht=>hl t (by simp [ht]))
  have:=hl x (by simp)
  simp only [fG,List.length_cons,List.length_append]
  rw [Nat.succ_mul]
  omega
theorem bKl {rec : RT} {n : Nat} {p : Pos} {ca : List DV} {v : DV} {l : List Bs} {k : Kind} (hg : h.bl.get p = some (.row k ca)) (e3 : ca[3]? = some v) (T : TxS v l h) (hl : l.length ≤ 9) (hn : ∀ t ∈ l,t.length ≤ 1048576) (base : Bs) (hb : base.length ≤ 10000000) : ∀ (k i m : Nat),i + k = l.length → k < m →
  qM rec n m (.p p 0) (.s (base ++ fG (l.take i))) (.i .i64 (Int.ofNat i)) h = some (.s (base ++ fG l),h):=by
 have l3 : aA (.p p 3) h = some (v,h):=sO hg e3 T.one
 intro k
 induction k with
 | zero =>
  intro i m hi hm
  obtain ⟨m,rfl⟩ : ∃ j,m = j + 1:=⟨m - 1,by omega⟩
  show tQ rec n (qM rec n m) _ _ _ h = _
  unfold tQ gS
  simp only [iN,Nat.zero_add,aI,l3,T.len,nM,show ¬ i < l.length by omega,decide_false,bW]
  rw [List.take_of_length_le (by omega)]
 | succ k ih =>
  intro i m hi hm
  obtain ⟨m,rfl⟩ : ∃ j,m = j + 1:=⟨m - 1,by omega⟩
  have hia : i < l.length:=by omega
  obtain ⟨q,a1,a2⟩:=T.at (List.getElem?_eq_getElem hia)
  have al:=bHo (l.take i) 1048576 (fun t ht=>hn t (List.mem_of_mem_take ht))
  have al2 : (l.take i).length * (1048576 + 1) ≤ 9 * 1048577:=Nat.mul_le_mul (by rw [List.length_take]; omega) (Nat.le_refl _)
  have tl:=hn l[i] (List.getElem_mem hia)
  have st:=ih (i + 1) m (by omega) (by omega)
  rw [aSa hia] at st
  show tQ rec n (qM rec n m) _ _ _ h = _
  unfold tQ
  simp only [iN,Nat.zero_add,aI,l3,T.len,nM,hia,decide_true,bF,a1,a2]
  generalize l[i] = t at a2 tl st
  rw [bQ (base ++ fG (l.take i)) [32] h (by simp; omega),aI]
  simp only [l3,aI,a1,a2]
  rw [bQ (base ++ fG (l.take i) ++ [32]) t h (by simp; omega),aI,bZ i 1 _ (by omega),aI,← st]
  simp
theorem cHt {m : Nat} (hm : 60 < m) {ca : List DV} {st : Stp} (A : StC ca st h) (S : Sml st) : ∃ h',dB m 31 [.a ca] h = some (.s (dU cG st),h') ∧ Lo h.next.toNat h h':=by
 obtain ⟨m,rfl⟩ : ∃ j,m = j + 1:=⟨m - 1,by omega⟩
 obtain ⟨v,g,b1,L,hn,hg,hca,T,_,ld⟩:=rO A
 obtain ⟨l0,l1,l2,l3,l4,l5⟩:=ld g hg
 have hi:=zF st.n
 have s1:=S.nm
 have s2:=S.sup
 have s3:=S.tx
 obtain ⟨g1,d1,d2⟩:=cXc (m:=m) (by omega) st.n S.n.1 S.n.2 g
 have hg1 : g1.bl.get h.next = some (.row .ex ca):=by rw [d2.get _ hn]; exact hg
 have l4':=(ld g1 hg1).2.2.2.2.1
 have Lg1 : Lo h.next.toNat h g1:=L.trans (d2.mono L.next)
 rw [dUv]
 unfold s31 aCt bEf bCh dU
 simp only [b1,aI,iN,Nat.zero_add,l0,eqI,jL,decide_eq_true_eq]
 by_cases c1 : st.op = 1
 ·rw [if_pos (show st.op = Int.ofNat 1 from c1),if_pos c1]
  unfold bJx
  simp only [iN,Nat.zero_add,l1,l2,aI]
  rw [bQ [99,108,97,115,115,32] st.nm g (by simp; omega),aI,bQ _ [32] g (by simp; omega),aI]
  simp only [iN,Nat.zero_add,l2,aI]
  rw [bQ _ st.sup g (by simp; omega),aI]
  unfold bBo bDy bMw
  have e3 : ca[3]? = some v:=by rw [hca]; rfl
  have key:=bKl (rec:=dB m) (n:=m) hg e3 T S.cnt S.names ([99,108,97,115,115,32] ++ st.nm ++ [32] ++ st.sup) (by simp; omega) st.names.length 0 m (by omega) (by have:=S.cnt; omega)
  rw [show fG (st.names.take 0) = [] from rfl,List.append_nil] at key
  rw [key]
  refine ⟨g, ?_,L⟩
  congr 3
  rw [zV]
  simp [dI,fG]
 rw [if_neg (show ¬ st.op = Int.ofNat 1 from c1),if_neg c1]
 by_cases c2 : st.op = 2
 ·rw [if_pos (show st.op = Int.ofNat 2 from c2),if_pos c2]
  simp only [l1,l4,aI]
  rw [bQ [109,101,116,104,111,100,32] st.nm g (by simp; omega),aI,bQ _ [32] g (by simp; omega),aI]
  rw [l4,aI,bQ _ st.tx g (by simp; omega),aI]
  exact ⟨g,by simp [eF],L⟩
 rw [if_neg (show ¬ st.op = Int.ofNat 2 from c2),if_neg c2]
 by_cases c3 : st.op = 3
 ·rw [if_pos (show st.op = Int.ofNat 3 from c3),if_pos c3]
  simp only [l5,d1,aI]
  rw [bQ [100,111,32] (cG st.n) g1 (by simp; omega),aI,bQ _ [32] g1 (by simp; omega),aI]
  simp only [l4',l4,cRo,Bool.and_self,cBq,aI]
  rw [bQ _ st.tx g1 (by simp; omega),aI]
  exact ⟨g1,by simp [wDo],Lg1⟩
 rw [if_neg (show ¬ st.op = Int.ofNat 3 from c3),if_neg c3]
 by_cases c4 : st.op = 4
 ·rw [if_pos (show st.op = Int.ofNat 4 from c4),if_pos c4]
  simp only [l5,aI,eqI,jL,decide_eq_true_eq]
  by_cases c5 : st.n = 1
  ·rw [if_pos (show st.n = Int.ofNat 1 from c5),if_pos c5]
   simp only [l1,l4,aI]
   rw [bQ [102,97,115,116,32] st.nm g (by simp; omega),aI,bQ _ [32] g (by simp; omega),aI]
   rw [l4,aI,bQ _ st.tx g (by simp; omega),aI]
   exact ⟨g,by simp [iQ],L⟩
  ·rw [if_neg (show ¬ st.n = Int.ofNat 1 from c5),if_neg c5]
   simp only [l1,l4,aI]
   rw [bQ [115,108,111,119,32] st.nm g (by simp; omega),aI,bQ _ [32] g (by simp; omega),aI]
   rw [l4,aI,bQ _ st.tx g (by simp; omega),aI]
   exact ⟨g,by simp [kH],L⟩
 rw [if_neg (show ¬ st.op = Int.ofNat 4 from c4),if_neg c4]
 by_cases c5 : st.op = 5
 ·rw [if_pos (show st.op = Int.ofNat 5 from c5),if_pos c5]
  exact ⟨g,rfl,L⟩
 rw [if_neg (show ¬ st.op = Int.ofNat 5 from c5),if_neg c5]
 by_cases c6 : st.op = 6
 ·rw [if_pos (show st.op = Int.ofNat 6 from c6),if_pos c6]
  exact ⟨g,rfl,L⟩
 rw [if_neg (show ¬ st.op = Int.ofNat 6 from c6),if_neg c6]
 by_cases c7 : st.op = 7
 ·rw [if_pos (show st.op = Int.ofNat 7 from c7),if_pos c7]
  exact ⟨g,rfl,L⟩
 rw [if_neg (show ¬ st.op = Int.ofNat 7 from c7),if_neg c7]
 unfold cU
 simp only [iN,Nat.zero_add,l5,d1,aI]
 rw [bQ [101,118,101,114,121,32] (cG st.n) g1 (by simp; omega),aI]
 exact ⟨g1,by simp [jT],Lg1⟩
theorem aUr {rec : RT} {n : Nat} {x y : DV} {la lb : List Bs} (A : TxS x la h) (B : TxS y lb h) (hl : la.length = lb.length) (hlen : la.length < 1000000000) : ∀ (k i m : Nat),i + k = la.length → k < m →
  qG rec n m x y (.i .i64 (Int.ofNat la.length)) (.i .i64 (Int.ofNat i)) h = some (.b (decide (la.drop i = lb.drop i)),h):=by
 intro k
 induction k with
 | zero =>
  intro i m hi hm
  obtain ⟨m,rfl⟩ : ∃ j,m = j + 1:=⟨m - 1,by omega⟩
  show uH rec n (qG rec n m) _ _ _ _ h = _
  unfold uH gR
  simp only [nM,show ¬ i < la.length by omega,decide_false,aI,bW]
  rw [List.drop_of_length_le (by omega),List.drop_of_length_le (by omega)]
  simp
 | succ k ih =>
  intro i m hi hm
  obtain ⟨m,rfl⟩ : ∃ j,m = j + 1:=⟨m - 1,by omega⟩
  have hia : i < la.length:=by omega
  have hib : i < lb.length:=by omega
  obtain ⟨pa,a1,a2⟩:=A.at (List.getElem?_eq_getElem hia)
  obtain ⟨pb,b1,b2⟩:=B.at (List.getElem?_eq_getElem hib)
  show uH rec n (qG rec n m) _ _ _ _ h = _
  unfold uH
  simp only [nM,hia,decide_true,aI,bF,a1,a2,b1,b2,oP,jL]
  rw [List.drop_eq_getElem_cons hia,List.drop_eq_getElem_cons hib]
  by_cases q : la[i] = lb[i]
  ·simp only [q,decide_true,Bool.not_true,Bool.false_eq_true,if_false,bZ i 1 _ (show i + 1 < _ by omega),aI]
   rw [ih (i + 1) m (by omega) (by omega)]
   simp only [List.cons.injEq,true_and,if_true]
  ·simp only [q,decide_false,Bool.not_false,if_true]
   simp only [List.cons.injEq,q,false_and,decide_false]
theorem bXn {m : Nat} {x y : DV} {la lb : List Bs} (A : TxS x la h) (B : TxS y lb h) (hlen : la.length < 1000000000) (hm : la.length + 2 < m) : dB m 44 [x,y] h = some (.b (decide (la = lb)),h):=by
 obtain ⟨m,rfl⟩ : ∃ j,m = j + 1:=⟨m - 1,by omega⟩
 rw [dXe]
 unfold s44 bDi
 simp only [A.len,B.len,aI,cHh,jL]
 by_cases q : la.length = lb.length
 ·simp only [q,decide_true,Bool.not_true,Bool.false_eq_true,if_false]
  unfold aZh bCs bYp
  simp only [A.len,aI]
  have:=aUr (rec:=dB m) (n:=m) A B q hlen la.length 0 m (by omega) (by omega)
  rw [List.drop_zero,List.drop_zero] at this
  exact this
 ·have : la ≠ lb:=fun e=>q (by rw [e])
  simp only [q,decide_false,Bool.not_false,if_true,this]
theorem cLr {m : Nat} {ca cb : List DV} {a b : Stp} (A : StC ca a h) (B : StC cb b h) (hlen : a.names.length < 1000000) (hm : a.names.length + 5 < m) :
  ∃ h',dB m 29 [.a ca,.a cb] h = some (.b (decide (a = b)),h') ∧ Lo h.next.toNat h h':=by
 obtain ⟨m,rfl⟩ : ∃ j,m = j + 1:=⟨m - 1,by omega⟩
 obtain ⟨va,g,p1,L1,n1,hg,eca,Ta,_,lda⟩:=rO A
 obtain ⟨vb,q,p2,L2,n2,hq,ecb,Tb,_,ldb⟩:=rO (B.stay L1)
 have hga : q.bl.get h.next = some (.row .ex ca):=by rw [L2.get _ n1]; exact hg
 obtain ⟨a0,a1,a2,a3,a4,a5⟩:=lda q hga
 obtain ⟨b0,b1,b2,b3,b4,b5⟩:=ldb q hq
 have E:=bXn (m:=m) (Ta.stay L2) Tb (by omega) (by omega)
 refine ⟨q, ?_,L1.trans (L2.mono L1.next)⟩
 rw [dRo]
 unfold s29
 rw [p1,aI,p2,aI]
 simp only [iN,Nat.zero_add,aI,a0,b0,eqI]
 by_cases c0 : a.op = b.op
 case neg =>
  have : a ≠ b:=fun e=>c0 (by rw [e])
  simp only [c0,decide_false,gDt,Bool.false_eq_true,if_false,aI,bM,this]
 simp only [c0,decide_true,nA,iN,Nat.zero_add,aI,a1,b1,fI,bN]
 by_cases c1 : a.nm = b.nm
 case neg =>
  have : a ≠ b:=fun e=>c1 (by rw [e])
  simp only [c1,decide_false,gDt,Bool.false_eq_true,if_false,aI,bM,this]
 simp only [c1,decide_true,nA,iN,Nat.zero_add,aI,a2,b2,fI,bN]
 by_cases c2 : a.sup = b.sup
 case neg =>
  have : a ≠ b:=fun e=>c2 (by rw [e])
  simp only [c2,decide_false,gDt,Bool.false_eq_true,if_false,aI,bM,this]
 simp only [c2,decide_true,nA,iN,Nat.zero_add,aI,a3,b3,E,bN]
 by_cases c3 : a.names = b.names
 case neg =>
  have : a ≠ b:=fun e=>c3 (by rw [e])
  simp only [c3,decide_false,gDt,Bool.false_eq_true,if_false,aI,bM,this]
 simp only [c3,decide_true,nA,iN,Nat.zero_add,aI,a4,b4,fI,bN]
 by_cases c4 : a.tx = b.tx
 case neg =>
  have : a ≠ b:=fun e=>c4 (by rw [e])
  simp only [c4,decide_false,gDt,Bool.false_eq_true,if_false,aI,bM,this]
 simp only [c4,decide_true,nA,iN,Nat.zero_add,aI,a5,b5,eqI,bN]
 obtain ⟨o1,m1,s1,l1,t1,k1⟩:=a
 obtain ⟨o2,m2,s2,l2,t2,k2⟩:=b
 simp only at c0 c1 c2 c3 c4
 subst c0 c1 c2 c3 c4
 simp
end
end Go.Dd

namespace Go.Dd
open Go.Proofs
theorem dVd (n : Nat) (x : DV) (h : Hp) : dB (n + 1) 14 [x] h = s14 (dB n) n x h:=(cH 14 rfl n [x] h).trans (cTa (dB n) n [x] h)
theorem dSs (n : Nat) (x : DV) (h : Hp) : dB (n + 1) 15 [x] h = s15 (dB n) n x h:=(cH 15 rfl n [x] h).trans (cTj (dB n) n [x] h)
theorem dSt (n : Nat) (x : DV) (h : Hp) : dB (n + 1) 16 [x] h = s16 (dB n) n x h:=(cH 16 rfl n [x] h).trans (cTs (dB n) n [x] h)
structure RdS (x : DV) (l : List Stp) (lo : Nat) (h0 : Hp) : Prop where
 len : ∀ g,cB x g = some (.i .i64 (Int.ofNat l.length),g)
 nth : ∀ i st,l[i]? = some st → ∃ p ca,(∀ g,aE 6 x (.i .i64 (Int.ofNat i)) g = some (p,g)) ∧ (∀ h,Lo lo h0 h → aK 6 p h = some (.a ca,h)) ∧ StC ca st h0 ∧ (∀ b o m c,ca[3]? = some (DV.l b o m c) → b.toNat < lo)
 nx : lo = h0.next.toNat
def dGf (st : Stp) : Stp:=⟨st.op,st.nm.take 40,st.sup.take 40,st.names.take 9,st.tx.take 200,st.n⟩
def nK (l : List Stp) : List Stp:=(l.take 20).map dGf
theorem TxS.take {v : DV} {l : List Bs} {h : Hp} (T : TxS v l h) {i : Nat} (h0 : 0 < i) (hi : i ≤ l.length) : ∃ v',dF 1 v none (some (.i .i64 (Int.ofNat i))) h = some (v',h) ∧ TxS v' (l.take i) h ∧ ∀ b o m c,v' = .l b o m c → ∃ o2 m2 c2,v = .l b o2 m2 c2:=by
 rcases T with ⟨hv,rfl⟩ | ⟨b,o,cap,k,row,rfl,e2,e3,e4,e5⟩
 ·simp at hi; omega
 ·have q1 : hiD (some (.i .i64 (Int.ofNat i))) l.length cap = some i:=by
   simp only [hiD,fL]
   rw [if_pos (by show (0 : Int) ≤ (i : Int) ∧ (i : Int) ≤ (cap : Int); omega)]
   rfl
  have q2 : loD none i = some 0:=rfl
  have hc : ¬ cap = 0:=by omega
  have main : TxS (.l b o i cap) (l.take i) h:=.inr ⟨b,o,cap,k,row,by rw [List.length_take,Nat.min_eq_left hi],e2,fun j hj=>by
   rw [List.length_take,Nat.min_eq_left hi] at hj
   rw [e3 j (by omega),List.getElem?_take_of_lt hj],e4,by rw [List.length_take]; omega⟩
  refine ⟨.l b o i cap, ?_,main,fun b' o' m' c' e=>by cases e; exact ⟨_,_,_,rfl⟩⟩
  cases k <;> simp only [dF,q1,q2,e2,if_neg hc,Nat.zero_mul,Nat.add_zero,Nat.sub_zero]
section
variable {h : Hp}
structure Sm (p : Pos) (row : List DV) (g g' : Hp) : Prop where
 next : g'.next = g.next
 row : g'.bl.get p = some (.row .ex row)
 off : ∀ b,b ≠ p → g'.bl.get b = g.bl.get b
theorem Sm.trans {p : Pos} {r1 r2 : List DV} {a b c : Hp} (u : Sm p r1 a b) (v : Sm p r2 b c) : Sm p r2 a c:=⟨v.next.trans u.next,v.row,fun q hq=>(v.off q hq).trans (u.off q hq)⟩
theorem Sm.lo {p : Pos} {row : List DV} {g g' : Hp} (S : Sm p row g g') {lo : Nat} (hlo : lo ≤ p.toNat) : Lo lo g g':=⟨by rw [S.next]; exact Nat.le_refl _,fun q hq=>S.off q (fun e=>by subst e; omega)⟩
abbrev cel (op : Int) (nm sup : Bs) (v : DV) (tx : Bs) (n : Int) : List DV:=[.i .i64 op,.s nm,.s sup,v,.s tx,.i .i64 n]
section
variable {rec : RT} {m : Nat} {kk : dP} {x0 x3 x4 : DV} {p : Pos} {g : Hp} {op n : Int} {nm sup tx : Bs} {v : DV}
theorem cYl (hg : g.bl.get p = some (.row .ex (cel op nm sup v tx n))) : ∃ g',zZ rec m kk x0 x3 x4 (.p p 0) g = xZ rec m kk x0 x3 x4 (.p p 0) g' ∧ Sm p (cel op nm sup v (tx.take 200) n) g g':=by
 have l : aA (.p p 4) g = some (.s tx,g):=sO hg rfl rfl
 unfold zZ
 simp only [iN,Nat.zero_add,aI,l,iM,fP]
 by_cases c : tx.length > 200
 ·rw [decide_eq_true (show Int.ofNat tx.length > Int.ofNat 200 from by show ((200 : Nat) : Int) < (tx.length : Int); omega),bF,dEc (by omega),aI]
  have st : aG 1 (.p p 4) (.s (tx.take 200)) g = some (aS,⟨g.next,Tr.set (.row .ex (cel op nm sup v (tx.take 200) n)) p g.bl⟩):=by
   simp only [aG,dD,cE,hg]
   rfl
  rw [st,aI]
  exact ⟨_,rfl,rfl,dXv _ _ _,fun b hb=>dXu _ _ _ _ hb⟩
 ·rw [decide_eq_false (show ¬ Int.ofNat tx.length > Int.ofNat 200 from by show ¬ ((200 : Nat) : Int) < (tx.length : Int); omega),bW]
  exact ⟨g,rfl,rfl,by rw [List.take_of_length_le (by omega)]; exact hg,fun _ _=>rfl⟩
theorem cYw (hg : g.bl.get p = some (.row .ex (cel op nm sup v tx n))) : ∃ g',xZ rec m kk x0 x3 x4 (.p p 0) g = qY rec m kk x0 x3 x4 (.p p 0) g' ∧ Sm p (cel op (nm.take 40) sup v tx n) g g':=by
 have l : aA (.p p 1) g = some (.s nm,g):=sO hg rfl rfl
 unfold xZ
 simp only [iN,Nat.zero_add,aI,l,iM,fP]
 by_cases c : nm.length > 40
 ·rw [decide_eq_true (show Int.ofNat nm.length > Int.ofNat 40 from by show ((40 : Nat) : Int) < (nm.length : Int); omega),bF,dEc (by omega),aI]
  have st : aG 1 (.p p 1) (.s (nm.take 40)) g = some (aS,⟨g.next,Tr.set (.row .ex (cel op (nm.take 40) sup v tx n)) p g.bl⟩):=by
   simp only [aG,dD,cE,hg]
   rfl
  rw [st,aI]
  exact ⟨_,rfl,rfl,dXv _ _ _,fun b hb=>dXu _ _ _ _ hb⟩
 ·rw [decide_eq_false (show ¬ Int.ofNat nm.length > Int.ofNat 40 from by show ¬ ((40 : Nat) : Int) < (nm.length : Int); omega),bW]
  exact ⟨g,rfl,rfl,by rw [List.take_of_length_le (by omega)]; exact hg,fun _ _=>rfl⟩
theorem cBx (hg : g.bl.get p = some (.row .ex (cel op nm sup v tx n))) : ∃ g',qY rec m kk x0 x3 x4 (.p p 0) g = qU rec m kk x0 x3 x4 (.p p 0) g' ∧ Sm p (cel op nm (sup.take 40) v tx n) g g':=by
 have l : aA (.p p 2) g = some (.s sup,g):=sO hg rfl rfl
 unfold qY
 simp only [iN,Nat.zero_add,aI,l,iM,fP]
 by_cases c : sup.length > 40
 ·rw [decide_eq_true (show Int.ofNat sup.length > Int.ofNat 40 from by show ((40 : Nat) : Int) < (sup.length : Int); omega),bF,dEc (by omega),aI]
  have st : aG 1 (.p p 2) (.s (sup.take 40)) g = some (aS,⟨g.next,Tr.set (.row .ex (cel op nm (sup.take 40) v tx n)) p g.bl⟩):=by
   simp only [aG,dD,cE,hg]
   rfl
  rw [st,aI]
  exact ⟨_,rfl,rfl,dXv _ _ _,fun b hb=>dXu _ _ _ _ hb⟩
 ·rw [decide_eq_false (show ¬ Int.ofNat sup.length > Int.ofNat 40 from by show ¬ ((40 : Nat) : Int) < (sup.length : Int); omega),bW]
  exact ⟨g,rfl,rfl,by rw [List.take_of_length_le (by omega)]; exact hg,fun _ _=>rfl⟩
theorem bFr {l : List Bs} (T : TxS v l g) (hv : ∀ b o q c,v = .l b o q c → b ≠ p) (hg : g.bl.get p = some (.row .ex (cel op nm sup v tx n))) : ∃ g' v',qU rec m kk x0 x3 x4 (.p p 0) g = qV rec m kk x0 x3 x4 (.p p 0) g' ∧ Sm p (cel op nm sup v' tx n) g g' ∧ TxS v' (l.take 9) g' ∧ ∀ b o q c,v' = .l b o q c → ∃ o2 q2 c2,v = .l b o2 q2 c2:=by
 have l3 : aA (.p p 3) g = some (v,g):=sO hg rfl T.one
 unfold qU
 simp only [iN,Nat.zero_add,aI,l3,T.len,fP]
 by_cases c : l.length > 9
 ·obtain ⟨v',a1,a2,a3⟩:=T.take (i:=9) (by omega) (by omega)
  rw [decide_eq_true (show Int.ofNat l.length > Int.ofNat 9 from by show ((9 : Nat) : Int) < (l.length : Int); omega),bF,a1,aI]
  have st : aG 1 (.p p 3) v' g = some (aS,⟨g.next,Tr.set (.row .ex (cel op nm sup v' tx n)) p g.bl⟩):=by
   simp only [aG,a2.cells,cE,hg]
   have one1 : (DV.i .i64 op).one = true:=rfl
   have one2:=T.one
   have one3:=a2.one
   simp [fR,jS,one2,one3,Kind.writable]
  rw [st,aI]
  refine ⟨_,v',rfl,⟨rfl,dXv _ _ _,fun b hb=>dXu _ _ _ _ hb⟩,a2.off rfl (p:=p) (fun b o q c e => ?_) (fun b hb=>dXu _ _ _ _ hb),a3⟩
  obtain ⟨o2,q2,c2,e2⟩:=a3 b o q c e
  exact hv b o2 q2 c2 e2
 ·rw [decide_eq_false (show ¬ Int.ofNat l.length > Int.ofNat 9 from by show ¬ ((9 : Nat) : Int) < (l.length : Int); omega),bW]
  exact ⟨g,v,rfl,⟨rfl,hg,fun _ _=>rfl⟩,by rw [List.take_of_length_le (by omega)]; exact T,fun b o q c e=>⟨_,_,_,e⟩⟩
end
theorem bVy {l : List Stp} {i : Nat} (hi : i < l.length) (h20 : i < 20) : nK (l.take (i + 1)) = nK (l.take i) ++ [dGf l[i]]:=by
 unfold nK
 rw [List.take_take,List.take_take,Nat.min_eq_right (by omega),Nat.min_eq_right (by omega),List.take_add_one,List.getElem?_eq_getElem hi,List.map_append]
 rfl
theorem bOx {rec : RT} {n : Nat} {x : DV} {l : List Stp} {lo : Nat} {h0 : Hp} (R : RdS x l lo h0) (hl : l.length < 100000000) : ∀ (k i m : Nat) (x3 : DV) (h : Hp),i + k = min l.length 20 → k < m → StS x3 (nK (l.take i)) lo h → lo ≤ h.next.toNat → Lo lo h0 h →
  ∃ x' h',kK rec n m x x3 (.i .i64 (Int.ofNat i)) h = some (x',h') ∧ StS x' (nK l) lo h' ∧ Lo lo h h':=by
 intro k
 induction k with
 | zero =>
  intro i m x3 h hi hm S hn L
  obtain ⟨m,rfl⟩ : ∃ j,m = j + 1:=⟨m - 1,by omega⟩
  have hS : StS x3 (nK l) lo h:=by
   have : nK (l.take i) = nK l:=by
    unfold nK
    rw [List.take_take]
    by_cases c : l.length ≤ 20
    ·rw [List.take_of_length_le (by omega),List.take_of_length_le (by omega)]
    ·rw [show min 20 i = 20 by omega]
   rw [this] at S
   exact S
  refine ⟨x3,h, ?_,hS,Lo.refl _ _⟩
  show tB rec n (kK rec n m) _ _ _ h = _
  unfold tB cP
  simp only [R.len,aI,nM]
  by_cases c : i < l.length
  ·simp only [c,decide_true,nA,aI,nM,show ¬ i < 20 by omega,decide_false,bN,bW]
  ·simp only [c,decide_false,aNq,sK,gDt,Bool.false_eq_true,if_false,aI,bM,bW]
 | succ k ih =>
  intro i m x3 h hi hm S hn L
  obtain ⟨m,rfl⟩ : ∃ j,m = j + 1:=⟨m - 1,by omega⟩
  have hia : i < l.length:=by omega
  have h20 : i < 20:=by omega
  obtain ⟨p,ca,a1,a2,A,a4⟩:=R.nth i l[i] (List.getElem?_eq_getElem hia)
  have ft:=bVy hia h20
  have ih':=fun x3 h=>ih (i + 1) m x3 h (by omega) (by omega)
  rw [ft] at ih'
  generalize l[i] = st at A ft ih'
  obtain ⟨v,rfl,T⟩:=A
  have ld:=a2 h L
  have c6 : (cel st.op st.nm st.sup v st.tx st.n).length = 6:=rfl
  have one:=uU T.one st.op st.n st.nm st.sup st.tx
  show ∃ x' h',tB rec n (kK rec n m) _ _ _ h = _ ∧ _
  unfold tB
  simp only [R.len,aI,nM,hia,decide_true,nA,h20,bN,bF]
  unfold aNo
  simp only [a1,ld,aI,aCd]
  rw [st6 (gN h) rfl cQ c6 one,aI]
  generalize hg0 : (⟨h.next.succ,Tr.set (.row .ex (cel st.op st.nm st.sup v st.tx st.n)) h.next (hZ h).bl⟩ : Hp) = g0
  have gg0 : g0.bl.get h.next = some (.row .ex (cel st.op st.nm st.sup v st.tx st.n)):=by rw [← hg0]; exact dXv _ _ _
  have gn0 : g0.next = h.next.succ:=by rw [← hg0]
  have L0 : Lo h.next.toNat h g0:=by
   rw [← hg0]
   exact (Lo.new (.row .ex Z6) h).trans (Lo.set (h:=hZ h) _ (Nat.le_refl _))
  obtain ⟨g1,s1,m1⟩:=cYl (rec:=rec) (m:=n) (kk:=kK rec n m) (x0:=x) (x3:=x3) (x4:=.i .i64 (Int.ofNat i)) gg0
  obtain ⟨g2,s2,m2⟩:=cYw (rec:=rec) (m:=n) (kk:=kK rec n m) (x0:=x) (x3:=x3) (x4:=.i .i64 (Int.ofNat i)) m1.row
  obtain ⟨g3,s3,m3⟩:=cBx (rec:=rec) (m:=n) (kk:=kK rec n m) (x0:=x) (x3:=x3) (x4:=.i .i64 (Int.ofNat i)) m2.row
  have M3:=(m1.trans m2).trans m3
  have vlt : ∀ b o q c,v = .l b o q c → b.toNat < lo:=fun b o q c e=>a4 b o q c (by rw [e]; rfl)
  have vne : ∀ b o q c,v = .l b o q c → b ≠ h.next:=fun b o q c e q2=>by have:=vlt b o q c e; rw [q2] at this; omega
  have T3 : TxS v st.names g3:=by
   have L3 : Lo lo h0 g3:=L.trans ((L0.mono hn).trans (M3.lo hn))
   have:=R.nx
   exact T.stay (L3.mono (by omega))
  obtain ⟨g4,v',s4,m4,T4,w4⟩:=bFr (rec:=rec) (m:=n) (kk:=kK rec n m) (x0:=x) (x3:=x3) (x4:=.i .i64 (Int.ofNat i)) T3 vne m3.row
  have M4:=M3.trans m4
  rw [s1,s2,s3,s4]
  unfold qV
  have L4 : Lo h.next.toNat h g4:=L0.trans (M4.lo (Nat.le_refl _))
  have C4 : StC (cel st.op (st.nm.take 40) (st.sup.take 40) v' (st.tx.take 200) st.n) (dGf st) g4:=⟨v',rfl,T4⟩
  have n4 : lo ≤ g4.next.toNat:=Nat.le_trans hn L4.next
  have S4 : StS x3 (nK (l.take i)) lo g4:=S.stay L4
  have hN : aOl (cel st.op (st.nm.take 40) (st.sup.take 40) v' (st.tx.take 200) st.n) x3:=fun b o q c e mm ex=>by
   obtain ⟨o2,q2,c2,e2⟩:=w4 b o q c (Option.some.inj e)
   have h1:=vlt b o2 q2 c2 e2
   obtain ⟨cells,⟨_,_,G⟩,_⟩:=S
   rcases G with ⟨rfl,_⟩ | ⟨p',rfl,_,e3,_⟩
   ·cases ex
   ·cases ex; omega
  have fl : (nK (l.take i)).length < 1000000:=by unfold nK; rw [List.length_map,List.length_take]; omega
  obtain ⟨y,g5,v1,x',g6,v2,v3,v4⟩:=S4.app n4 C4 hN fl
  rw [ld6 m4.row C4.len C4.one,aI,v1,aI,v2,aI]
  unfold dG
  simp only [bZ i 1 _ (show i + 1 < _ by omega),aI]
  obtain ⟨x2,h2,w1,w2,w3⟩:=ih' x' g6 v3 (Nat.le_trans n4 v4.next) (L.trans ((L4.mono hn).trans v4))
  exact ⟨x2,h2,w1,w2,(L4.mono hn).trans (v4.trans w3)⟩
theorem dGg {m : Nat} (hm : 60 < m) {x : DV} {l : List Stp} {lo : Nat} {h : Hp} (R : RdS x l lo h) (hl : l.length < 100000000) : ∃ x' h',dB m 14 [x] h = some (x',h') ∧ StS x' (nK l) lo h' ∧ Lo lo h h':=by
 obtain ⟨m,rfl⟩ : ∃ j,m = j + 1:=⟨m - 1,by omega⟩
 have:=R.nx
 rw [dVd]
 unfold s14 aXm aYu aYi bPs
 exact bOx R hl (min l.length 20) 0 m .l0 h (by omega) (by omega) (StS.nil _ _) (by omega) (Lo.refl _ _)
end
end Go.Dd

namespace Go.Dd
open Go.Proofs
theorem aDy (c : Nat) : ∀ (l : Bs) (i : Nat),decide (sU c l i ≥ Int.ofNat 0) = decide (c ∈ l)
 | [],i=>rfl
 | x :: l,i=>by
  unfold sU
  cases h : Nat.beq x c with
  | true =>
   have:=Nat.eq_of_beq_eq_true h
   subst this
   have : Int.ofNat i ≥ Int.ofNat 0:=by show ((0 : Nat) : Int) ≤ (i : Int); omega
   simp [this]
  | false =>
   have : ¬ c = x:=fun e=>by rw [e,Nat.beq_refl] at h; cases h
   rw [cond_false,aDy c l (i + 1)]
   simp [this]
theorem aOq {m : Nat} (t : Bs) (h : Hp) : dB (m + 2) 30 [.s t,.i .u8 (Int.ofNat 10)] h = some (.i .i64 (sU 10 t 0),h):=by
 rw [show m + 2 = m + 1 + 1 from rfl,dWw]
 unfold s30
 rw [dSq]
 unfold s45
 have : aNu [.s t,.i .u8 (Int.ofNat 10)] h = some (.i .i64 (sU 10 t 0),h):=rfl
 rw [this,aI,aI]
def prR (r : Option Bs) : DV:=.t [.s (r.getD []),.i .i64 (Int.ofNat (if r.isSome then 0 else 1))]
section
variable {n : Nat}
theorem aPt {x : DV} {l : List Stp} {lo : Nat} (hS : ∀ st ∈ l,Sml st) (hl : l.length ≤ 20) (hn : 19000000 < n) : ∀ (k i m : Nat) (acc : Bs) (h : Hp),i + k = l.length → k < m → StS x l lo h → acc.length + k * 13000001 ≤ 1000000000 →
  ∃ h',qQ (dB n) n m (.s acc) x (.i .i64 (Int.ofNat l.length)) (.i .i64 (Int.ofNat i)) h = some (prR (mT cG acc (l.drop i)),h') ∧ Lo h.next.toNat h h':=by
 obtain ⟨n,rfl⟩ : ∃ j,n = j + 1 + 1:=⟨n - 2,by omega⟩
 intro k
 induction k with
 | zero =>
  intro i m acc h hi hm S ha
  obtain ⟨m,rfl⟩ : ∃ j,m = j + 1:=⟨m - 1,by omega⟩
  refine ⟨h, ?_,Lo.refl _ _⟩
  show pZ (dB (n + 2)) (n + 2) (qQ (dB (n + 2)) (n + 2) m) _ _ _ _ h = _
  unfold pZ gE
  simp only [nM,show ¬ i < l.length by omega,decide_false,aI,bW]
  rw [List.drop_of_length_le (by omega)]
  rfl
 | succ k ih =>
  intro i m acc h hi hm S ha
  rw [Nat.succ_mul] at ha
  obtain ⟨m,rfl⟩ : ∃ j,m = j + 1:=⟨m - 1,by omega⟩
  have hia : i < l.length:=by omega
  obtain ⟨p,ca,a1,a2,A⟩:=S.at (List.getElem?_eq_getElem hia)
  have hst:=hS l[i] (List.getElem_mem hia)
  have hd : l.drop i = l[i] :: l.drop (i + 1):=List.drop_eq_getElem_cons hia
  have ih':=fun acc h=>ih (i + 1) m acc h (by omega) (by omega)
  generalize l[i] = st at A hst hd
  generalize l.drop (i + 1) = r at hd ih'
  rw [hd]
  show ∃ h',pZ (dB (n + 2)) (n + 2) (qQ (dB (n + 2)) (n + 2) m) _ _ _ _ h = _ ∧ _
  unfold pZ
  simp only [nM,hia,decide_true,aI,bF,a1,a2,aCd]
  rw [st6 (gN h) rfl cQ A.len A.one,aI]
  generalize hg0 : (⟨h.next.succ,Tr.set (.row .ex ca) h.next (hZ h).bl⟩ : Hp) = g0
  have gg0 : g0.bl.get h.next = some (.row .ex ca):=by rw [← hg0]; exact dXv _ _ _
  have gn0 : h.next.toNat < g0.next.toNat:=by rw [← hg0]; show _ < h.next.succ.toNat; rw [dXw]; omega
  have L0 : Lo h.next.toNat h g0:=by
   rw [← hg0]
   exact (Lo.new (.row .ex Z6) h).trans (Lo.set (h:=hZ h) _ (Nat.le_refl _))
  rw [ld6 gg0 A.len A.one,aI]
  obtain ⟨g1,b1,b2⟩:=cQk (m:=n + 1) (A.stay L0) hst
  have tl:=aMg hst
  rw [b1,aI]
  obtain ⟨cb,g2,c1,c2,c3,c4,c5,c6⟩:=cFq (n:=n + 2) (s:=dU cG st) (by omega) (by omega) g1
  rw [c1,aI,nJ,aI,nL,aI,st6 (gN g2) rfl cQ c2 c3,aI]
  generalize hg3 : (⟨g2.next.succ,Tr.set (.row .ex cb) g2.next (hZ g2).bl⟩ : Hp) = g3
  have gg3 : g3.bl.get g2.next = some (.row .ex cb):=by rw [← hg3]; exact dXv _ _ _
  have L3' : Lo g2.next.toNat g2 g3:=by
   rw [← hg3]
   exact (Lo.new (.row .ex Z6) g2).trans (Lo.set (h:=hZ g2) _ (Nat.le_refl _))
  have L03 : Lo g0.next.toNat g0 g3:=b2.trans ((c5.mono b2.next).trans (L3'.mono (Nat.le_trans b2.next c5.next)))
  have L3 : Lo h.next.toNat h g3:=L0.trans (L03.mono L0.next)
  have gg0' : g3.bl.get h.next = some (.row .ex ca):=by rw [L03.get _ gn0]; exact gg0
  have S3:=S.stay L3
  have A3:=A.stay L3
  have hp : mT cG acc (st :: r) = if kW (dU cG st) = some st ∧ 10 ∉ dU cG st then mT cG (acc ++ dU cG st ++ [10]) r else none:=rfl
  rw [hp]
  simp only [aHi,aI]
  cases hs : kW (dU cG st) with
  | none =>
   simp only [Option.isSome_none,Bool.not_false,dN,sK,aI,bN,bF]
   rw [if_neg (by rintro ⟨q,_⟩; cases q)]
   exact ⟨g3,rfl,L3⟩
  | some s2 =>
   have B3:=(c4 s2 hs).stay L3'
   obtain ⟨g4,d1,d2⟩:=cLr (m:=n + 2) A3 B3 (by have:=hst.cnt; omega) (by have:=hst.cnt; omega)
   simp only [Option.isSome_some,Bool.not_true,eU,ld6 gg0' A.len A.one,ld6 gg3 c2 c3,aI,d1,aHi,bM]
   have L4 : Lo h.next.toNat h g4:=L3.trans (d2.mono L3.next)
   by_cases e : st = s2
   case neg =>
    simp only [e,decide_false,Bool.not_false,dN,sK,aI,bN,bF]
    rw [if_neg (by rintro ⟨q,_⟩; cases q; exact e rfl)]
    exact ⟨g4,rfl,L4⟩
   subst e
   by_cases e10 : 10 ∈ dU cG st
   ·rw [if_neg (by rintro ⟨_,q⟩; exact q e10)]
    simp only [decide_true,Bool.not_true,eU,aI,aOq (m:=n),lJ,aDy,bM,e10,bF]
    exact ⟨g4,rfl,L4⟩
   ·rw [if_pos ⟨rfl,e10⟩]
    simp only [decide_true,Bool.not_true,eU,aI,aOq (m:=n),lJ,aDy,bM,e10,decide_false,bW]
    rw [bQ (dU cG st) [10] g4 (by simp; omega),aI,bQ acc (dU cG st ++ [10]) g4 (by simp; omega),aI,bZ i 1 _ (by omega),aI,← List.append_assoc]
    obtain ⟨h',w1,w2⟩:=ih' (acc ++ dU cG st ++ [10]) g4 (S.stay L4) (by simp; omega)
    exact ⟨h',w1,L4.trans (w2.mono L4.next)⟩
theorem bPc {x : DV} {l : List Stp} {lo : Nat} {h : Hp} (S : StS x l lo h) (hS : ∀ st ∈ l,Sml st) (hl : l.length ≤ 20) (hn : 19000001 < n) : ∃ h',dB n 15 [x] h = some (prR (mT cG [] l),h') ∧ Lo h.next.toNat h h':=by
 obtain ⟨n,rfl⟩ : ∃ j,n = j + 1:=⟨n - 1,by omega⟩
 rw [dSs]
 unfold s15 bEe bAx aWh bTu
 simp only [S.len,aI]
 have:=aPt (n:=n) (x:=x) (lo:=lo) hS hl (by omega) l.length 0 n [] h (by omega) (by omega) S (by simp; omega)
 rwa [List.drop_zero] at this
theorem bMu {x : DV} {l : List Stp} {lo : Nat} (hS : ∀ st ∈ l,Sml st) (hl : l.length ≤ 20) (hn : 19000000 < n) : ∀ (k i m : Nat) (acc : Bs) (h : Hp),i + k = l.length → k < m → StS x l lo h → acc.length + k * 13000001 ≤ 1000000000 →
  ∃ h',pX (dB n) n m x (.s acc) (.i .i64 (Int.ofNat i)) h = some (prR (mT cG acc (l.drop i)),h') ∧ Lo h.next.toNat h h':=by
 obtain ⟨n,rfl⟩ : ∃ j,n = j + 1 + 1:=⟨n - 2,by omega⟩
 intro k
 induction k with
 | zero =>
  intro i m acc h hi hm S ha
  obtain ⟨m,rfl⟩ : ∃ j,m = j + 1:=⟨m - 1,by omega⟩
  refine ⟨h, ?_,Lo.refl _ _⟩
  show qB (dB (n + 2)) (n + 2) (pX (dB (n + 2)) (n + 2) m) _ _ _ h = _
  unfold qB gF
  simp only [S.len,nM,show ¬ i < l.length by omega,decide_false,aI,bW]
  rw [List.drop_of_length_le (by omega)]
  rfl
 | succ k ih =>
  intro i m acc h hi hm S ha
  rw [Nat.succ_mul] at ha
  obtain ⟨m,rfl⟩ : ∃ j,m = j + 1:=⟨m - 1,by omega⟩
  have hia : i < l.length:=by omega
  obtain ⟨p,ca,a1,a2,A⟩:=S.at (List.getElem?_eq_getElem hia)
  have hst:=hS l[i] (List.getElem_mem hia)
  have hd : l.drop i = l[i] :: l.drop (i + 1):=List.drop_eq_getElem_cons hia
  have hgi:=List.getElem?_eq_getElem hia
  have ih':=fun acc h=>ih (i + 1) m acc h (by omega) (by omega)
  generalize l[i] = st at A hst hd hgi
  generalize l.drop (i + 1) = r at hd ih'
  rw [hd]
  show ∃ h',qB (dB (n + 2)) (n + 2) (pX (dB (n + 2)) (n + 2) m) _ _ _ h = _ ∧ _
  unfold qB
  simp only [S.len,nM,hia,decide_true,aI,bF,a1,a2]
  obtain ⟨g1,b1,b2⟩:=cHt (m:=n + 2) (by omega) A hst
  have tl:=aMg hst
  rw [b1,aI]
  obtain ⟨cb,g2,c1,C,c5,c6⟩:=bXe (n:=n + 2) (s:=dU cG st) (by omega) (by omega) g1
  rw [c1,aI,nJ,aI,nL,aI,aCd,aI,st6 (gN g2) rfl cQ C.len C.one,aI]
  generalize hg3 : (⟨g2.next.succ,Tr.set (.row .ex cb) g2.next (hZ g2).bl⟩ : Hp) = g3
  have gg3 : g3.bl.get g2.next = some (.row .ex cb):=by rw [← hg3]; exact dXv _ _ _
  have L3' : Lo g2.next.toNat g2 g3:=by
   rw [← hg3]
   exact (Lo.new (.row .ex Z6) g2).trans (Lo.set (h:=hZ g2) _ (Nat.le_refl _))
  have L3 : Lo h.next.toNat h g3:=b2.trans ((c5.mono b2.next).trans (L3'.mono (Nat.le_trans b2.next c5.next)))
  obtain ⟨p3,ca3,u1,u2,A3⟩:=(S.stay L3).at hgi
  have ep : p3 = p:=by
   have:=(u1 h).symm.trans (a1 h)
   simpa using this
  subst ep
  rw [u2,aI,ld6 gg3 C.len C.one,aI]
  have B3:=C.stay L3'
  obtain ⟨g4,d1,d2⟩:=bNo (rec:=dB (n + 1)) (n:=n + 1) A3 B3 (by have:=hst.cnt; omega) (by have:=hst.cnt; omega)
  rw [show n + 2 = n + 1 + 1 from rfl,dRa,d1,aI,aHi,aI]
  have L4 : Lo h.next.toNat h g4:=L3.trans (d2.mono L3.next)
  have hp : mT cG acc (st :: r) = if kW (dU cG st) = some st ∧ 10 ∉ dU cG st then mT cG (acc ++ dU cG st ++ [10]) r else none:=rfl
  rw [hp,bFk]
  cases hs : iI (dU cG st) with
  | none =>
   simp only [aPc,Bool.not_false,dN,sK,aI,bN,bF]
   rw [if_neg (by rintro ⟨q,_⟩; cases q)]
   exact ⟨g4,rfl,L4⟩
  | some s2 =>
   simp only [aPc,Bool.not_true,eU,aI,aHi,bM]
   by_cases e : st = s2
   case neg =>
    simp only [e,decide_false,Bool.not_false,dN,sK,aI,bN,bF]
    rw [if_neg (by rintro ⟨q,_⟩; cases q; exact e rfl)]
    exact ⟨g4,rfl,L4⟩
   subst e
   obtain ⟨xs,g5,f1,f2,f3⟩:=aDh (rec:=dB (n + 1)) (n:=n + 1) (s:=dU cG st) (c:=10) (by omega) (by omega) g4
   have T5:=f2.txs
   have L5 : Lo h.next.toNat h g5:=L4.trans (f3.mono L4.next)
   have dg : decide (Int.ofNat (cA 10 (dU cG st)).length > Int.ofNat 1) = decide (10 ∈ dU cG st):=by
    have:=bNr (t:=dU cG st)
    by_cases q : 10 ∈ dU cG st
    ·have:=this.2 q
     rw [decide_eq_true q,decide_eq_true (show Int.ofNat (cA 10 (dU cG st)).length > Int.ofNat 1 from by show ((1 : Nat) : Int) < _; show ((1 : Nat) : Int) < ((cA 10 (dU cG st)).length : Int); omega)]
    ·have : ¬ (cA 10 (dU cG st)).length > 1:=fun hh=>q (this.1 hh)
     rw [decide_eq_false q,decide_eq_false (show ¬ Int.ofNat (cA 10 (dU cG st)).length > Int.ofNat 1 from by show ¬ ((1 : Nat) : Int) < ((cA 10 (dU cG st)).length : Int); omega)]
   by_cases e10 : 10 ∈ dU cG st
   ·rw [if_neg (by rintro ⟨_,q⟩; exact q e10)]
    simp only [decide_true,Bool.not_true,eU,aI,cWf,f1,T5.len,fP,bM,dg,e10,bF]
    exact ⟨g5,rfl,L5⟩
   ·rw [if_pos ⟨rfl,e10⟩]
    simp only [decide_true,Bool.not_true,eU,aI,cWf,f1,T5.len,fP,bM,dg,e10,decide_false,bW]
    rw [bQ acc (dU cG st) g5 (by omega),aI,bQ (acc ++ dU cG st) [10] g5 (by simp; omega),aI,bZ i 1 _ (by omega),aI]
    obtain ⟨h',w1,w2⟩:=ih' (acc ++ dU cG st ++ [10]) g5 (S.stay L5) (by simp; omega)
    exact ⟨h',w1,L5.trans (w2.mono L5.next)⟩
theorem bPd {x : DV} {l : List Stp} {lo : Nat} {h : Hp} (S : StS x l lo h) (hS : ∀ st ∈ l,Sml st) (hl : l.length ≤ 20) (hn : 19000001 < n) : ∃ h',dB n 16 [x] h = some (prR (mT cG [] l),h') ∧ Lo h.next.toNat h h':=by
 obtain ⟨n,rfl⟩ : ∃ j,n = j + 1:=⟨n - 1,by omega⟩
 rw [dSt]
 unfold s16 bBl bCo aZo bIz
 have:=bMu (n:=n) (x:=x) (lo:=lo) hS hl (by omega) l.length 0 n [] h (by omega) (by omega) S (by simp; omega)
 rwa [List.drop_zero] at this
theorem aDc {x : DV} {l : List Stp} {lo : Nat} {h : Hp} (R : RdS x l lo h) (hl : l.length < 100000000) (hS : ∀ st ∈ nK l,Sml st) : ∃ k,aF CF aKq 20000000 7 [x] h = some (.b true,k):=by
 rw [dIj]
 show ∃ k,s7 aKq 20000000 x h = some (.b true,k)
 obtain ⟨x',h1,a1,S,L1⟩:=dGg (m:=20000000) (by omega) R hl
 have hfl : (nK l).length ≤ 20:=by unfold nK; rw [List.length_map,List.length_take]; omega
 obtain ⟨h2,b1,L2⟩:=bPc (n:=20000000) S hS hfl (by omega)
 obtain ⟨h3,c1,L3⟩:=bPd (n:=20000000) (S.stay L2) hS hfl (by omega)
 unfold s7
 rw [bMx (g:=14) rfl [x] h,a1,aI,bMx (g:=15) rfl [x'] h1,b1,aI]
 unfold prR
 rw [nJ,aI,nL,aI,bMx (g:=16) rfl [x'] h2,c1]
 unfold prR
 simp only [aI,nJ,nL,fI,decide_true,nA,bYn,bN,dRw]
 exact ⟨_,rfl⟩
end
end Go.Dd

namespace Go.Dd
open Go.Proofs Go.RowKit
open Go.Proofs.YtjfmbeinhhdapaaGreatDoor.Rows (uptoBulk uptoBulkAll)
theorem aCo {w : World} {base n : Nat} {a : Addr} {cs : List Value} (h : w.cells? base a n = some cs) : cs.length = n ∧ ∀ j,j < n → w.cell? (a.add j) = cs[j]? := by
 unfold World.cells? at h
 split at h
 ·exact ⟨by simpa using mapM_some_length h,fun j hj=>mapM_some_get h j j (by simp [hj])⟩
 ·cases h
theorem bWz {H : Type} (d : DataW H) : 1 ≤ uptoBulk d:=by
 cases d with
 | lit l=>cases l <;> simp only [uptoBulk] <;> omega
 | _=>simp only [uptoBulk]; omega
theorem zD {H : Type} : ∀ {l : List (DataW H)} {d : DataW H},d ∈ l → uptoBulk d ≤ uptoBulkAll l
 | x :: l,d,h=>by
  simp only [List.mem_cons] at h
  simp only [uptoBulkAll]
  rcases h with rfl | h
  ·omega
  ·have:=zD h
   omega
theorem aNz {H : Type} : ∀ l : List (DataW H),l.length ≤ uptoBulkAll l
 | []=>by simp
 | x :: l=>by
  have:=aNz l
  have:=bWz x
  simp only [uptoBulkAll,List.length_cons]
  omega
theorem aWt {α : Type} {P : Nat → α → Prop} : ∀ n,(∀ i,i < n → ∃ a,P i a) → ∃ l : List α,l.length = n ∧ ∀ i a,l[i]? = some a → P i a
 | 0,_=>⟨[],rfl,fun i a e=>by simp at e⟩
 | n + 1,h=>by
  obtain ⟨l,hl,hp⟩:=aWt n (fun i hi=>h i (by omega))
  obtain ⟨a,ha⟩:=h n (by omega)
  refine ⟨l ++ [a],by simp [hl],fun i b e => ?_⟩
  by_cases q : i < l.length
  ·rw [List.getElem?_append_left q] at e
   exact hp i b e
  ·rw [List.getElem?_append_right (by omega)] at e
   have : i = n:=by
    have:=(gLt e)
    simp at this
    omega
   subst this
   rw [hl,Nat.sub_self] at e
   simp only [List.getElem?_cons_zero,aU] at e
   subst e
   exact ha
theorem dIx {α : Type} {l : List α} (h : l.length = 6) : ∃ a b c d e f,l = [a,b,c,d,e,f]:=by
 match l,h with
 | [a,b,c,d,e,f],_=>exact ⟨a,b,c,d,e,f,rfl⟩
theorem cs3 : Tryz.prog.cellsOf 3 = 1:=by kernel_rfl
theorem cs9 : Tryz.prog.cellsOf 9 = 1:=by kernel_rfl
theorem dUw : Tryz.prog.cellsOf 40 = 1:=by kernel_rfl
theorem dQj : Tryz.prog.cellsOf 43 = 6:=by kernel_rfl
section
variable {H : Type} {enc : TypeId × Value → H} {w : World}
theorem bGr {n : Nat} {cs : List Value} {x : DataW H × List MemPlace} (h : DataW.trod enc Tryz.prog w 0 (fun _=>true) true n 43 cs = some x) :
  ∃ (op N : Int) (nm sup tx : ByteArray) (v : Value) (m : Nat) (y : DataW H × List MemPlace),cs = [.int .i64 op,.string nm,.string sup,v,.string tx,.int .i64 N] ∧ inI op ∧ inI N ∧ DataW.trod enc Tryz.prog w 0 (fun _=>true) true m 40 [v] = some y ∧
   x.1 = .agg [.lit (.int .i64 op),.lit (.string nm.data.toList),.lit (.string sup.data.toList),y.1,.lit (.string tx.data.toList),.lit (.int .i64 N)]:=by
 obtain ⟨xs,k,_,hx0,hl,hxl,hall⟩:=DataW.trod_struct Tryz.underlying43 h
 rw [dQj] at hl
 have hxl : xs.length = 6:=hxl
 obtain ⟨b0,b1,b2,b3,b4,b5,rfl⟩:=dIx hxl
 obtain ⟨a0,a1,a2,a3,a4,a5,rfl⟩:=dIx hl
 have h0 : DataW.trod enc Tryz.prog w 0 (fun _=>true) true k 3 (([a0,a1,a2,a3,a4,a5].drop 0).take (Tryz.prog.cellsOf 3)) = [b0,b1,b2,b3,b4,b5][0]? := hall 0 _ rfl
 have h1 : DataW.trod enc Tryz.prog w 0 (fun _=>true) true k 9 (([a0,a1,a2,a3,a4,a5].drop 1).take (Tryz.prog.cellsOf 9)) = [b0,b1,b2,b3,b4,b5][1]? := hall 1 _ rfl
 have h2 : DataW.trod enc Tryz.prog w 0 (fun _=>true) true k 9 (([a0,a1,a2,a3,a4,a5].drop 2).take (Tryz.prog.cellsOf 9)) = [b0,b1,b2,b3,b4,b5][2]? := hall 2 _ rfl
 have h3 : DataW.trod enc Tryz.prog w 0 (fun _=>true) true k 40 (([a0,a1,a2,a3,a4,a5].drop 3).take (Tryz.prog.cellsOf 40)) = [b0,b1,b2,b3,b4,b5][3]? := hall 3 _ rfl
 have h4 : DataW.trod enc Tryz.prog w 0 (fun _=>true) true k 9 (([a0,a1,a2,a3,a4,a5].drop 4).take (Tryz.prog.cellsOf 9)) = [b0,b1,b2,b3,b4,b5][4]? := hall 4 _ rfl
 have h5 : DataW.trod enc Tryz.prog w 0 (fun _=>true) true k 3 (([a0,a1,a2,a3,a4,a5].drop 5).take (Tryz.prog.cellsOf 3)) = [b0,b1,b2,b3,b4,b5][5]? := hall 5 _ rfl
 rw [cs3] at h0 h5
 rw [cs9] at h1 h2 h4
 rw [dUw] at h3
 obtain ⟨op,q0,p0,r0⟩:=DataW.trod_int Tryz.underlying3 (show DataW.trod enc Tryz.prog w 0 (fun _=>true) true k 3 [a0] = some b0 from h0)
 obtain ⟨nm,q1,p1,_⟩:=DataW.trod_string Tryz.underlying9 (show DataW.trod enc Tryz.prog w 0 (fun _=>true) true k 9 [a1] = some b1 from h1)
 obtain ⟨sup,q2,p2,_⟩:=DataW.trod_string Tryz.underlying9 (show DataW.trod enc Tryz.prog w 0 (fun _=>true) true k 9 [a2] = some b2 from h2)
 obtain ⟨tx,q4,p4,_⟩:=DataW.trod_string Tryz.underlying9 (show DataW.trod enc Tryz.prog w 0 (fun _=>true) true k 9 [a4] = some b4 from h4)
 obtain ⟨N,q5,p5,r5⟩:=DataW.trod_int Tryz.underlying3 (show DataW.trod enc Tryz.prog w 0 (fun _=>true) true k 3 [a5] = some b5 from h5)
 cases q0; cases q1; cases q2; cases q4; cases q5
 have rng : ∀ z : Int,(Lit.int .i64 z).wf = true → inI z:=fun z h=>by simpa [inI,Lit.wf,IntKind.min,IntKind.max,IntKind.bits,IntKind.signed] using h
 refine ⟨op,N,nm,sup,tx,a3,k,b3,rfl,rng _ r0,rng _ r5,h3, ?_⟩
 rw [hx0,p0,p1,p2,p4,p5]
 rfl
structure Sin (B : Nat) (st : Stp) : Prop where
 nm : st.nm.length ≤ B
 sup : st.sup.length ≤ B
 tx : st.tx.length ≤ B
 names : ∀ t ∈ st.names,t.length ≤ B
 n : inI st.n
 op : inI st.op
abbrev tW (s : ByteArray) : Bs:=s.data.toList.map (·.toNat)
theorem aPl {m : Nat} {v : Value} {y : DataW H × List MemPlace} (hv : DataW.trod enc Tryz.prog w 0 (fun _=>true) true m 40 [v] = some y) {ρ : Ren} {h : Hp} (R : Ro w ρ h) :
  ∃ ρ' h' d l,Ro w ρ' h' ∧ Lo h.next.toNat h h' ∧ Ext ρ ρ' ∧ VR ρ' d v ∧ TxS d l h' ∧ (∀ b o n c,d = .l b o n c → b.toNat < h'.next.toNat) ∧ ∀ t ∈ l,t.length ≤ uptoBulk y.1:=by
 rcases DataW.trod_slice Tryz.underlying40 hv with ⟨e5,e6⟩ | ⟨a,len,cap,elems,rest,m',em,e5,e6,_,q4,q5,q6,q7,_⟩
 ·cases e5
  exact ⟨ρ,h,.l0,[],R,Lo.refl _ _,fun _ _ e=>e,.l0,.inl ⟨.inl rfl,rfl⟩,fun b o n c e=>(by cases e),fun t ht=>(by simp at ht)⟩
 ·cases e5
  subst e6
  rw [cs9] at q7
  let L : Loc:=⟨a.block,a.off,0,a.spot⟩
  have ha : a = eC L 0:=rfl
  obtain ⟨ss,hl,hs⟩:=aWt (P:=fun i (s : ByteArray)=>w.cell? (eC L i) = some (.string s) ∧ ∃ x,elems[i]? = some x ∧ x.1 = .lit (.string s.data.toList)) len (fun i hi=>by
   have e:=q7 i hi
   rw [show elems[i]? = some (elems[i]'(by omega)) by simp] at e
   simp only [Option.bind_eq_some_iff] at e
   obtain ⟨cs,e1,e2⟩:=e
   obtain ⟨c1,c2⟩:=aCo e1
   obtain ⟨s,rfl,e3,_⟩:=DataW.trod_string Tryz.underlying9 e2
   refine ⟨s, ?_,elems[i]'(by omega),by simp,by rw [e3]⟩
   have:=c2 0 (by omega)
   rw [ha,eN,eN] at this
   simpa using this)
  obtain ⟨R',E'⟩:=R.add L (ss.map fun s=>DV.s (tW s)) rfl (fun i v hv=>by
   simp only [List.getElem?_map,Option.map_eq_some_iff] at hv
   obtain ⟨s,hs1,rfl⟩:=hv
   exact ⟨.string s,(hs i s hs1).1,.s _ s rfl⟩)
  have ns:=dXw h.next
  have hb : uptoBulk (DataW.slice (elems.map (·.1)) (rest.map (·.1))) = uptoBulkAll (elems.map (·.1)) + uptoBulkAll (rest.map (·.1)) + 1:=by simp only [uptoBulk]
  have bulk : ∀ s ∈ ss,(tW s).length ≤ uptoBulkAll (elems.map (·.1)):=fun s hm=>by
   obtain ⟨i,hi⟩:=List.getElem?_of_mem hm
   obtain ⟨_,x,hx,hx1⟩:=hs i s hi
   have:=zD (l:=elems.map (·.1)) (d:=x.1) (List.mem_map_of_mem (List.mem_of_getElem? hx))
   rw [hx1] at this
   simp only [uptoBulk] at this
   rw [List.length_map]
   omega
  refine ⟨_,_,.l h.next 0 len cap,ss.map tW,R',Lo.new _ h,E',.l h.next 0 len cap L (bP _ _ _),.inr ⟨h.next,0,cap,.ro,ss.map fun s=>DV.s (tW s),by rw [List.length_map,hl],dXv _ _ _,fun j hj => ?_,by show h.next.toNat < h.next.succ.toNat; omega,by rw [List.length_map,hl]; exact q4⟩,fun b o n c e=>(by cases e; show h.next.toNat < h.next.succ.toNat; omega), ?_⟩
  ·rw [Nat.zero_add,List.getElem?_map,List.getElem?_map,Option.map_map]
   rfl
  ·intro t ht
   obtain ⟨s,hs1,rfl⟩:=List.mem_map.1 ht
   have:=bulk s hs1
   show _ ≤ uptoBulk (DataW.slice _ _)
   rw [hb]
   omega
theorem bHv {n : Nat} {cs : List Value} {x : DataW H × List MemPlace} (hx : DataW.trod enc Tryz.prog w 0 (fun _=>true) true n 43 cs = some x) {ρ : Ren} {h : Hp} (R : Ro w ρ h) :
  ∃ ρ' h' ds st,Ro w ρ' h' ∧ Lo h.next.toNat h h' ∧ Ext ρ ρ' ∧ VRs ρ' ds cs ∧ StC ds st h' ∧ (∀ b o m c,ds[3]? = some (DV.l b o m c) → b.toNat < h'.next.toNat) ∧ Sin (uptoBulk x.1) st:=by
 obtain ⟨op,N,nm,sup,tx,v,m,y,rfl,i1,i2,hv,hx1⟩:=bGr hx
 obtain ⟨ρ',h',d,l,R',L',E',V',T',lt,hb⟩:=aPl hv R
 have b0 : uptoBulk x.1 = 1 + (nm.data.toList.length + 1 + (sup.data.toList.length + 1 + (uptoBulk y.1 + (tx.data.toList.length + 1 + (1 + 0))))) + 1:=by
  rw [hx1]
  simp only [uptoBulk,uptoBulkAll]
 refine ⟨ρ',h',[.i .i64 op,.s (tW nm),.s (tW sup),d,.s (tW tx),.i .i64 N],⟨op,tW nm,tW sup,l,tW tx,N⟩,R',L',E',.cons _ _ _ _ (.i _ _) (.cons _ _ _ _ (.s _ nm rfl) (.cons _ _ _ _ (.s _ sup rfl) (.cons _ _ _ _ V' (.cons _ _ _ _ (.s _ tx rfl) (.cons _ _ _ _ (.i _ _) .nil))))),⟨d,rfl,T'⟩,fun b o q c e=>lt b o q c (Option.some.inj e),⟨?_, ?_, ?_,fun t ht => ?_,i2,i1⟩⟩
 ·show (tW nm).length ≤ _; rw [List.length_map,b0]; omega
 ·show (tW sup).length ≤ _; rw [List.length_map,b0]; omega
 ·show (tW tx).length ≤ _; rw [List.length_map,b0]; omega
 ·have:=hb t ht
  rw [b0]
  omega
theorem yV {L : Loc} {len B : Nat} (ih : ∀ (c : Nat),c < len → ∃ n x,∃ cs : List Value,DataW.trod enc Tryz.prog w 0 (fun _=>true) true n 43 cs = some (x : DataW H × List MemPlace) ∧ uptoBulk x.1 ≤ B ∧ cs.length = 6 ∧ ∀ j,j < 6 → w.cell? (eC L (c * 6 + j)) = cs[j]?) (p : Pos) :
  ∀ (r : Nat),r ≤ len → ∃ (ρ : Ren) (h : Hp) (rows : List DV) (l : List Stp),Ro w ρ h ∧ rows.length = r * 6 ∧ l.length = r ∧ (∀ p v,rows[p]? = some v → ∃ v',w.cell? (eC L p) = some v' ∧ VR ρ v v') ∧
   ∀ i st,l[i]? = some st → StC (uD rows i) st h ∧ (∀ b o m c,(uD rows i)[3]? = some (DV.l b o m c) → b.toNat < h.next.toNat) ∧ Sin B st
 | 0,_=>⟨fun _=>none,⟨p,.e⟩,[],[],Ro.none w p,rfl,rfl,fun p v e=>by simp at e,fun i st e=>by simp at e⟩
 | r + 1,hl=>by
  obtain ⟨ρ,h,rows,l,R,hlen,hll,C,P⟩:=yV ih p r (by omega)
  obtain ⟨n,x,cs,hx,hB,hcs,hc⟩:=ih r (by omega)
  obtain ⟨ρ',h',ds,st,R',L',E',V',S',lt',Q'⟩:=bHv hx R
  have hds : ds.length = 6:=S'.len
  refine ⟨ρ',h',rows ++ ds,l ++ [st],R',by rw [List.length_append,hlen,hds]; omega,by simp [hll],fun p v e => ?_,fun i s e => ?_⟩
  ·by_cases hp : p < rows.length
   ·rw [List.getElem?_append_left hp] at e
    obtain ⟨v',q1,q2⟩:=C p v e
    exact ⟨v',q1,q2.mono E'⟩
   ·rw [List.getElem?_append_right (by omega)] at e
    obtain ⟨v',q1,q2⟩:=VRs.get V' _ v e
    have hlt : p - rows.length < 6:=by
     have:=(gLt e)
     rw [hds] at this
     exact this
    refine ⟨v', ?_,q2⟩
    have:=hc (p - rows.length) hlt
    rw [show r * 6 + (p - rows.length) = p by omega] at this
    rw [this]
    exact q1
  ·by_cases hir : i < r
   ·rw [List.getElem?_append_left (by omega)] at e
    obtain ⟨s1,s2,s3⟩:=P i s e
    rw [aDp hlen hir]
    exact ⟨s1.stay L',fun b o m c e=>Nat.lt_of_lt_of_le (s2 b o m c e) L'.next,s3⟩
   ·have hi : i = r:=by
     have:=(gLt e)
     simp [hll] at this
     omega
    subst hi
    rw [List.getElem?_append_right (by omega),hll,Nat.sub_self] at e
    simp only [List.getElem?_cons_zero,aU] at e
    subst e
    rw [aDw hlen hds]
    exact ⟨S',lt',⟨Nat.le_trans Q'.nm hB,Nat.le_trans Q'.sup hB,Nat.le_trans Q'.tx hB,fun t ht=>Nat.le_trans (Q'.names t ht) hB,Q'.n,Q'.op⟩⟩
theorem aXq {l : List Stp} (h : ∀ st ∈ l,Sin 1048576 st) : ∀ st ∈ nK l,Sml st:=by
 intro st hst
 unfold nK at hst
 obtain ⟨s,hs,rfl⟩:=List.mem_map.1 hst
 have S:=h s (List.mem_of_mem_take hs)
 have tk : ∀ (n : Nat) (t : Bs),t.length ≤ 1048576 → (t.take n).length ≤ 1048576:=fun n t ht=>by rw [List.length_take]; omega
 exact ⟨tk 40 _ S.nm,tk 40 _ S.sup,tk 200 _ S.tx,by show (s.names.take 9).length ≤ 9; rw [List.length_take]; omega,fun t ht=>S.names t (List.mem_of_mem_take ht),S.n,S.op⟩
theorem aRa (F : Facts w) {n : Nat} {v : Value} {x : DataW H × List MemPlace} (hx : DataW.trod enc Tryz.prog w 0 (fun _=>true) true n 22 [v] = some x) (hB : uptoBulk x.1 ≤ 1048576) :
  Calls Tryz.prog 7 #[v] w fun e w'=>e = .returned (.bool true) ∧ Below w.heap.size w w':=by
 rcases DataW.trod_slice Tryz.underlying22 hx with ⟨e5,_⟩ | ⟨a,len,cap,elems,rest,m',em,e5,e6,_,q4,q5,q6,q7,_⟩
 ·cases e5
  have R : RdS .l0 [] (⟨cT 1,.e⟩ : Hp).next.toNat ⟨cT 1,.e⟩:=⟨fun _=>rfl,fun i st e=>by simp at e,rfl⟩
  exact bSn (aDc R (by simp) (aXq (fun st h=>by simp at h))) Tryz.f7 Tryz.func7 (by kernel_rfl) w F (Ro.none w _) _ (.cons _ _ _ _ .l0 .nil)
 ·cases e5
  subst e6
  rw [dQj] at q7
  let L : Loc:=⟨a.block,a.off,0,a.spot⟩
  have ha : a = eC L 0:=rfl
  have hb : uptoBulk (DataW.slice (elems.map (·.1)) (rest.map (·.1))) = uptoBulkAll (elems.map (·.1)) + uptoBulkAll (rest.map (·.1)) + 1:=by simp only [uptoBulk]
  have hB' : uptoBulkAll (elems.map (·.1)) ≤ 1048576:=by
   have : uptoBulk (DataW.slice (elems.map (·.1)) (rest.map (·.1))) ≤ 1048576:=hB
   omega
  have blen:=aNz (elems.map (·.1))
  rw [List.length_map] at blen
  obtain ⟨ρ,h,rows,l,R,hlen,hll,C,P⟩:=yV (enc:=enc) (w:=w) (L:=L) (len:=len) (B:=1048576) (fun c hc=>by
   have e:=q7 c hc
   have he : elems[c]? = some (elems[c]'(by omega)):=by simp
   rw [he] at e
   simp only [Option.bind_eq_some_iff] at e
   obtain ⟨cs,e1,e2⟩:=e
   obtain ⟨c1,c2⟩:=aCo e1
   refine ⟨m',_,cs,e2,Nat.le_trans (zD (List.mem_map_of_mem (List.mem_of_getElem? he))) hB',c1,fun j hj => ?_⟩
   have:=c2 j hj
   rw [ha,eN,eN] at this
   rwa [show 0 + c * 6 + j = c * 6 + j by omega] at this) (cT 1) len (Nat.le_refl _)
  obtain ⟨R',E'⟩:=R.add L rows rfl C
  have ns:=dXw h.next
  have L0 : Lo h.next.toNat h ⟨h.next.succ,Tr.set (.row .ro rows) h.next h.bl⟩:=Lo.new _ h
  have RD : RdS (.l h.next 0 len cap) l (⟨h.next.succ,Tr.set (.row .ro rows) h.next h.bl⟩ : Hp).next.toNat ⟨h.next.succ,Tr.set (.row .ro rows) h.next h.bl⟩:=by
   refine ⟨fun g=>by rw [hll]; rfl,fun i st e => ?_,rfl⟩
   obtain ⟨s1,s2,s3⟩:=P i st e
   have hi : i < len:=by
    have:=(gLt e)
    omega
   refine ⟨.p h.next (i * 6),uD rows i,fun g => ?_,fun g Lg => ?_,s1.stay L0,fun b o m c e=>Nat.lt_of_lt_of_le (s2 b o m c e) L0.next⟩
   ·unfold aE
    simp only
    rw [if_pos (by show (0 : Int) ≤ (i : Int) ∧ (i : Int) < (len : Int); omega)]
    show some (DV.p h.next (0 + (i : Int).toNat * 6),g) = _
    simp
   ·have hg : g.bl.get h.next = some (.row .ro rows):=by
     rw [Lg.get h.next (by show h.next.toNat < h.next.succ.toNat; omega)]
     exact dXv _ _ _
    have ht : jJ 6 (rows.drop (i * 6)) = some (uD rows i):=mN 6 _ (by rw [List.length_drop,hlen]; omega) s1.one
    simp only [aK,cellsAt,rowOf,hg,ht]
  have hsin : ∀ st ∈ l,Sin 1048576 st:=fun st hst=>by
   obtain ⟨i,hi⟩:=List.getElem?_of_mem hst
   exact (P i st hi).2.2
  exact bSn (aDc RD (by omega) (aXq hsin)) Tryz.f7 Tryz.func7 (by kernel_rfl) w F R' _ (.cons _ _ _ _ (.l h.next 0 len cap L (bP _ _ _)) .nil)
end
end Go.Dd

end
