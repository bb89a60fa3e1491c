/- A part of the proof: PL2 R12 W6 XW KD FW EA EB EL EV FC: each text has a comment of its own. -/
import Derived.Test.YtfakmddlgjngnaaGreatDoorIA8
import Derived.Lib.Bytealg
import Derived.Test.YtfakmddlgjngnaaGreatDoorRows
import Derived.Test.YtfakmddlgjngnaaGreatDoorCards
import Derived.Test.YtfakmddlgjngnaaGreatDoorTie
import Derived.WalkKit
import Derived.ProofKit
import Derived.OpenShut
import Derived.Carry
import Derived.Lib.LaidU8
import Derived.Lay
import Derived.LaidOnce
import Derived.SevenTiedAt
import Derived.ChangeMaps5
set_option linter.unusedVariables false
set_option linter.unusedSimpArgs false
set_option linter.constructorNameAsVariable false
set_option maxRecDepth 100000
noncomputable section
namespace Go.Dd
open Go.Proofs
theorem dJk {n : Nat} {l l' : List DV} {v : DV} (h : fR n l [v] = some l') : l'[n]? = some v:=by
 obtain ⟨_,_,_,h4,_⟩:=kZ n l [v] l' h
 have:=(h4 0 v rfl).1
 rwa [Nat.add_zero] at this
theorem dIh {q p : Pos} {l1 : DV} {cs : List DV} {h k : Hp} {m : Nat} (e1 : iI q l1 cs h = some (.l p 0 (m + 1) (m + 1),k)) : m < 70368744177664:=by
 unfold iI at e1
 split at e1 <;> (try (cases e1; done))
 ·simp only [bB,bN,DV.l.injEq] at e1
  omega
 ·rename_i b o len cap
  cases hc : (Nat.ble cap len && !(kC b q)) with
  | false=>rw [hc] at e1; cases e1
  | true =>
   rw [hc] at e1
   simp only [cnd] at e1
   split at e1 <;> (try (cases e1; done))
   split at e1 <;> (try (cases e1; done))
   rename_i hr
   simp only [bB,bN,DV.l.injEq] at e1
   have h2:=hr.2.2
   unfold eB at h2
   omega
theorem aGd {h h1 : Hp} {c q : Pos} {v : DV} (hr : lU c q h = some (v,h1)) (hf : lC h) {env : aZ} (e0 : env 0 = .p c 0) (e3 : env 3 = .p q 0)
  {X : Nat → aZ → Hp → Prop} {R N : aZ → Hp → Prop} (hN : ∀ env' h',env' 0 = .p c 0 → Sim true h1 h' → N env' h') : qR CF0 (fnD CF0 60) 47 (.region 6 P6 true) X R N env h ∧
  ∃ (m : Nat) (g : Hp),v = .i .i64 (m : Int) ∧ m < 70368744177664 ∧ aA (.p c 4) h1 = some (.l g.next 0 (m + 1) (m + 1),h1):=by
 unfold lU at hr
 obtain ⟨l1,g1,hl1,hr⟩:=cS hr
 obtain ⟨n,g2,hn,hr⟩:=cS hr
 obtain ⟨x,g,hx,hr⟩:=cS hr
 obtain ⟨rfl,uc,huc⟩:=oO hl1
 obtain ⟨rfl,hnn⟩:=rX (kQ l1) hn
 obtain ⟨rfl,⟨uq,huq⟩,cs,rfl,hcl,hco⟩:=oR hx
 dsimp only at hr
 cases hcq : kC c q with
 | true=>rw [hcq] at hr; cases hr
 | false =>
 rw [hcq] at hr
 have hne : c ≠ q:=aNo hcq
 simp only [cnd,Bool.not_false] at hr
 obtain ⟨l2,k3,ha,hr⟩:=cS hr
 obtain ⟨u,k4,hst,hr⟩:=cS hr
 simp only [bB,bN] at hr
 obtain ⟨rfl,rfl⟩:=hr
 obtain ⟨m,old,t,hl2,hm,hol,hoo,hk3,htq,htd,hz⟩:=aTu ha
 have hzz:=hz zs4
 have hnm : n = .i .i64 (m : Int):=by
  have e1:=hnn g
  rw [hm] at e1
  simp only [bB,bN,and_true] at e1
  exact e1.symm
 dsimp only at hl2 hk3 htq htd hzz
 have hcs : c ≠ g.next.succ:=fun e=>by
  have h1:=hf _ _ huc
  have s1:=fBa g.next
  rw [e] at h1
  omega
 have hqs : q ≠ g.next.succ:=fun e=>by
  have h1:=hf _ _ huq
  have s1:=fBa g.next
  rw [e] at h1
  omega
 have hup : ∀ (ob : Ob) (b : Pos) (o : Ob),g.bl.get b = some o → (Tr.set ob g.next g.bl).get b = some o:=fun ob b o hb=>by
  rw [fAw,hb]
  intro e
  subst e
  exact Nat.lt_irrefl _ (hf _ _ hb)
 rw [hk3] at hst
 have hst2 : ∃ kd l l',t.get c = some (.row kd l) ∧ fR 4 l [.l g.next.succ 0 (m + 1) (m + 1)] = some l' ∧ u = aT ∧ k4 = ⟨g.next.succ.succ,Tr.set (.row kd l') c (Tr.set (.row (.gr 4) (old ++ cs)) g.next.succ t)⟩ ∧
   ∀ zs,aJ 1 (.p c 4) l2 ⟨g.next.succ.succ,Tr.set (.row (.gr 4) zs) g.next.succ t⟩ = some (aT,⟨g.next.succ.succ,Tr.set (.row kd l') c (Tr.set (.row (.gr 4) zs) g.next.succ t)⟩):=by
  rw [hl2] at hst ⊢
  simp only [eM,dJ,List.length_singleton,if_true,cW,putQ_eq,fAw _ _ _ _ hcs] at hst ⊢
  cases htc : t.get c with
  | none=>rw [htc] at hst; cases hst
  | some o =>
   rw [htc] at hst
   cases o with
   | row kd l =>
    dsimp only at hst ⊢
    cases hw : kd.writable with
    | false=>rw [hw] at hst; cases hst
    | true =>
     rw [hw,if_pos rfl] at hst
     cases hp : fR 4 l [.l g.next.succ 0 (m + 1) (m + 1)] with
     | none=>rw [hp] at hst; cases hst
     | some l' =>
      rw [hp] at hst
      simp only [bB,bN] at hst
      exact ⟨kd,l,l',rfl,hp,hst.1.symm,hst.2.symm,fun zs=>by simp only [hw,if_true,hp]⟩
   | it s p=>cases hst
   | mp es=>cases hst
   | big n t=>cases hst
   | mi t=>cases hst
 obtain ⟨kd,l,l',htc,hp4,rfl,hk4,hstz⟩:=hst2
 have S7 : Sim true ⟨g.next.succ,g.bl⟩ ⟨g.next.succ,Tr.set (.row .ex zs4) g.next g.bl⟩:=Sim.of_get rfl fun b o hb=>hup _ b o hb
 obtain ⟨k8,h8,S8⟩:=aKa S7 (aLn rfl (by simp [DV.one]) g.next g.next.succ g.bl) hzz
 have ix : ∀ h,aG 4 l2 n h = some (.p g.next.succ (0 + m * 4),h):=fun h=>by
  rw [hl2,hnm]
  rw [eT]
  show (if (0 : Int) ≤ (m : Int) ∧ (m : Int) < ((m + 1 : Nat) : Int) then some (DV.p g.next.succ (0 + (m : Int).toNat * 4),h) else none) = _
  rw [if_pos (by omega)]
  simp
 have hput:=aGx old zs4 cs (by rw [hcl]; rfl) (by simp [DV.one]) hco
 have hfin : ∀ (tt : Tr Ob),tt.get g.next.succ = some (.row (.gr 4) (old ++ zs4)) → aJ 4 (.p g.next.succ (0 + m * 4)) (.a cs) ⟨g.next.succ.succ,tt⟩ = some (aT,⟨g.next.succ.succ,Tr.set (.row (.gr 4) (old ++ cs)) g.next.succ tt⟩):=fun tt e=>by
  simp only [eM,dJ,hcl,if_true,cW,putQ_eq,e,Kind.writable,Nat.zero_add,← hol,hput]
 obtain ⟨k10,h10,S10⟩:=eW 4 _ _ _ _ S8 _ _ (hfin _ (fAx _ _ _))
 have Sa : Sim true ⟨g.next.succ.succ,Tr.set (.row (.gr 4) (old ++ cs)) g.next.succ t⟩ k10:=by
  refine Sim.trans ?_ S10
  refine Sim.of_get rfl fun b o hb => ?_
  by_cases e1 : b = g.next.succ
  ·subst e1
   rw [fAx] at hb ⊢
   exact hb
  ·rw [fAw _ _ _ _ e1] at hb ⊢
   rw [fAw _ _ _ _ e1]
   exact hb
 obtain ⟨ka,hka,Ska⟩:=eW 1 _ _ _ _ Sa _ _ (hstz _)
 obtain ⟨k14,h14,S14⟩:=eW 1 _ _ _ _ S8 _ _ (hstz _)
 obtain ⟨kb,hkb,Skb⟩:=eW 4 _ _ _ _ S14 _ _ (hfin _ (by
  rw [fAw _ _ _ _ (Ne.symm hcs),fAx]))
 have Sb : Sim true k4 kb:=by
  refine Sim.trans ?_ Skb
  rw [hk4]
  refine Sim.of_get rfl fun b o hb => ?_
  by_cases e1 : b = g.next.succ
  ·subst e1
   rw [fAw _ _ _ _ (Ne.symm hcs),fAx] at hb
   rw [fAx,hb]
  ·rw [fAw _ _ _ _ e1]
   by_cases e2 : b = c
   ·subst e2
    rw [fAx] at hb ⊢
    exact hb
   ·rw [fAw _ _ _ _ e2,fAw _ _ _ _ e1] at hb ⊢
    exact hb
 have Ska' : Sim true k4 ka:=by rw [hk4]; exact Ska
 have W : PW g ⟨g.next.succ,Tr.set (.row .ex zs4) g.next g.bl⟩ k8 k10 k14 k4 c q l1 l2 n (.p g.next.succ (0 + m * 4)) cs :=
  ⟨hl1,aTs (hup _) hl1,hx,aTm (hup _) hx,hnn,by simp [aS,nD,dJ],h8,ix,h10,h14,⟨kb,hkb,Sb⟩,⟨ka,hka,Ska'⟩⟩
 refine ⟨eKi (bQu W (fun env h S e hF=>hN env h e S) e0 e3),m,⟨g.next.succ,g.bl⟩,hnm, ?_, ?_⟩
 ·rw [hl2] at ha
  exact dIh ha
 ·rw [hk4]
  have e1 : (Tr.set (.row kd l') c (Tr.set (.row (.gr 4) (old ++ cs)) g.next.succ t)).get c = some (.row kd l'):=fAx _ _ _
  have e2 : l'[4]? = some (.l g.next.succ 0 (m + 1) (m + 1)):=dJk hp4
  simp only [cO,dD,nthD_eq,cQ,e1,e2,DV.one,if_true]
theorem cUv (G : Gd) : jV Tryz.prog G 124 oF:=by
 refine bXi (C:=CF0) (rec:=fnD CF0 60) KC0 Try_ok eRn dQi fun args h v h1 hr hf => ?_
 unfold oF at hr
 split at hr <;> (try (cases hr; done))
 rename_i c lit
 rw [eYl,pd0,tZ,bP,eWu,pd1] at hr
 rw [eTg,eMp]
 refine wpS (aEm ?_)
 rw [pd0,tZ,bP]
 refine nR fun _ => ?_
 refine wpS (wpS (aEm ?_))
 rw [pd1]
 refine nR fun _ => ?_
 refine ⟨300,_,_,_,_,hr,fun id e h' hk hF => ?_,fun e h' hk hF=>⟨h1,hk,fun G ρ w H=>H⟩,fun e h' hk=>by cases hk⟩
 cases id with
 | succ i=>cases hk
 | zero =>
  have hk : uH e h' = some (v,h1):=hk
  unfold uH at hk
  split at hk <;> (try (cases hk; done))
  rename_i c2 q2 he0 he3
  obtain ⟨hw,m,gg,rfl,hm,hld⟩:=aGd hk hF he0 he3 (X:=fun _ _ _=>False) (R:=fun env h'=>∃ h2,bE CF0 Tryz.f124 env h' = some (v,h2) ∧ Le h2 h1)
   (N:=qR CF0 (fnD CF0 60) 47 (.seq (.region 7 (dE (cL (cR (cR (cR (cf Tryz.f124)))))) false) .ret) (fun _ _ _=>False) (fun env h'=>∃ h2,bE CF0 Tryz.f124 env h' = some (v,h2) ∧ Le h2 h1) (fun env h'=>∃ h2,bE CF0 Tryz.f124 env h' = some (v,h2) ∧ Le h2 h1))
   (fun env' h' e0' S=>by
    obtain ⟨_,m,gg,rfl,hm,hld⟩:=aGd hk hF he0 he3 (X:=fun _ _ _=>False) (R:=fun _ _=>False) (N:=fun _ _=>True) (fun _ _ _ _=>trivial)
    obtain ⟨kk,e1,e2⟩:=iY _ _ _ S _ _ hld
    refine wpS (aEm ?_)
    rw [pd7]
    have e1' : aA (.p c2 4) h' = some (.l gg.next 0 (m + 1) (m + 1),kk):=e1
    have l3 : bM (.l gg.next 0 (m + 1) (m + 1)) kk = some (.i .i64 ((m + 1 : Nat) : Int),kk):=rfl
    simp only [e0',bJr,bP,cRa,cTc,e1',l3]
    rw [cKc _ _ _ (by show -9223372036854775808 ≤ ((m + 1 : Nat) : Int) - (1 : Int) ∧ ((m + 1 : Nat) : Int) - (1 : Int) ≤ 9223372036854775807; omega),bP]
    refine nR fun _=>⟨kk,(dWl _ _).trans ?_,fun G ρ w H=>H.sub e2⟩
    rw [aUk]
    congr 3
    show ((m + 1 : Nat) : Int) - (1 : Int) = (m : Int)
    omega)
  exact hw
end Go.Dd

namespace Go.Dd
open Go.Proofs Go.Lib Go.RowKit
theorem aTo (c : Nat) (hc : c < 256) : ∀ (l : List UInt8) (i : Nat),aVu c (l.map (·.toNat)) i = if indexByte l c.toUInt8 = -1 then -1 else indexByte l c.toUInt8 + i
 | [],i=>rfl
 | b :: l,i=>by
  have hb : Nat.beq b.toNat c = (b == c.toUInt8):=by
   rw [Bool.eq_iff_iff]
   constructor
   ·intro h
    have:=Nat.eq_of_beq_eq_true h
    simp [← this]
   ·intro h
    have h2 : b = c.toUInt8:=by simpa using h
    rw [h2]
    have : (c.toUInt8).toNat = c:=by simp [Nat.toUInt8]; omega
    rw [this]; simp
  show (bif Nat.beq b.toNat c then Int.ofNat i else aVu c (l.map (·.toNat)) (i + 1)) = _
  rw [hb]
  unfold indexByte
  cases h : (b == c.toUInt8) with
  | true=>simp
  | false =>
   have ih:=aTo c hc l (i + 1)
   have hge:=indexByte_ge l c.toUInt8
   simp only [cond_false,Bool.false_eq_true,if_false]
   rw [ih]
   by_cases h1 : indexByte l c.toUInt8 = -1
   ·simp [h1]
   ·simp only [h1,if_false,beq_iff_eq]
    rw [if_neg (by omega)]
    omega
theorem eDp (G : Gd) : jV Tryz.prog G 271 bBc:=by
 intro args h v h1 hr ρ w args' H hargs
 unfold bBc at hr
 split at hr <;> (try (cases hr; done))
 rename_i l c
 cases hc : Nat.blt c 256 with
 | false=>rw [hc] at hr; cases hr
 | true =>
  rw [hc] at hr
  have hc' : c < 256:=by simpa using hc
  simp only [cond_true,bB,bN] at hr
  obtain ⟨rfl,rfl⟩:=hr
  obtain ⟨a⟩:=args'
  cases hargs with
  | cons x x' l1 l1' hx hxs =>
  cases hxs with
  | cons y y' l2 l2' hy hys =>
  cases hys
  cases hx with
  | s l bs hbs =>
  cases hy with
  | i k n =>
  refine .inr ⟨ρ,w,.int .i64 (indexByte bs.data.toList c.toUInt8), ?_,Ex.refl _ _, ?_,H,Kp.refl _ _⟩
  ·rw [run_callFunc_extern (fn:=Tryz.f271) (e:=Extern.BytealgIndexByte.indexByte) (by kernel_rfl) (by kernel_rfl) (by kernel_rfl) (by kernel_rfl) (by kernel_rfl)]
   rw [run_indexByteString bs (Int.ofNat c) w]
   rfl
  ·have e:=aTo c hc' bs.data.toList 0
   rw [hbs] at e
   have e2 : aVu c l 0 = indexByte bs.data.toList c.toUInt8:=by
    rw [e]
    split
    ·rename_i h; exact h.symm
    ·simp
   rw [e2]
   exact .i _ _
theorem aIi (G : Gd) (g : FuncId) (F : List DV → Hp → aH) (h : CF1.I g = some F) : jV CF1.P G g F:=by
 change qD g = some F at h
 unfold qD at h
 cases h1 : Nat.beq g 271 with
 | true=>rw [h1] at h; cases h; cases Nat.eq_of_beq_eq_true h1; exact eDp G
 | false =>
 cases h2 : Nat.beq g 285 with
 | true=>rw [h1,h2] at h; cases h; cases Nat.eq_of_beq_eq_true h2; exact eCy G
 | false =>
 cases h3 : Nat.beq g 165 with
 | true=>rw [h1,h2,h3] at h; cases h; cases Nat.eq_of_beq_eq_true h3; exact dLc G
 | false =>
 cases h4 : Nat.beq g 167 with
 | true=>rw [h1,h2,h3,h4] at h; cases h; cases Nat.eq_of_beq_eq_true h4; exact dBk G
 | false =>
 cases h5 : Nat.beq g 124 with
 | true=>rw [h1,h2,h3,h4,h5] at h; cases h; cases Nat.eq_of_beq_eq_true h5; exact cUv G
 | false =>
 rw [h1,h2,h3,h4,h5] at h
 cases h
theorem bAe (n : Nat) (G : Gd) (f : FuncId) : jV Tryz.prog G f (fU CF1 n f):=cFd (C:=CF1) Try_ok aIi dUh dYt n G f
end Go.Dd

namespace Go.Dd
open Go.Proofs Go.RowKit
theorem cSw {f : FuncId} {args : List DV} {F : List DV → Hp → aH} {v : DV} {g1 : Hp} (hF : ∀ G,jV Tryz.prog G f F) (hr : F args hS = some (v,g1)) (fn : Func) (hf : Tryz.prog.funcs[f]? = some fn) (hb : fn.body.isSome = true)
  (w : World) (W : Facts w) (args' : Array Value) (hargs : VRs (fun _=>none) args args'.toList) :
  Calls Tryz.prog f args' w fun e w'=>∃ ρ' v',e = .returned v' ∧ VR ρ' v v' ∧ HR (gdS w W 1024) ρ' g1 w' ∧ Below w.heap.size w w' ∧ ∀ b L, ρ' b = some L → 1024 ≤ b.toNat:=by
 have hp : (aL 1).toNat = 1024:=by kernel_rfl
 have H : HR (gdS w W 1024) (fun _=>none) hS w:=HR.empty w W 1024 (aL 1) (by rw [hp]; exact Nat.le_refl _)
 rcases hF (gdS w W 1024) args hS v g1 hr _ w args' H hargs with ⟨_,h⟩ | ⟨ρ',w',v',h,_⟩
 ·refine h.mono ?_
  rintro e w' ⟨ρ',v',h1,h2,h3,h4,h5⟩
  exact ⟨ρ',v',h1,h3,h4,h5.low,fun b L hL=>(h2.new b L hL).resolve_left (fun e=>by cases e)⟩
 ·exfalso
  have hn : ¬ fn.name = "runtime.NumGoroutine" := by simpa using Try_ok.names f fn hf
  have hbn : fn.body ≠ none:=by intro e; rw [e] at hb; cases hb
  unfold callFunc at h
  simp [hf,hn,hbn] at h
theorem Sim.tf {a b c : Hp} (h : Sim true a b) (k : Sim false b c) : Sim false a c:=⟨k.next.trans h.next,fun p o hp=>by
 obtain ⟨o',h1,h2⟩:=h.get p o hp
 rw [lE h2] at h1
 exact k.get p o h1⟩
theorem aEw (o : Ob) : vL true o o:=by cases o <;> simp [vL]
theorem fCp : Sim false hS hS:=⟨rfl,fun b o hb=>by cases b <;> cases hb⟩
theorem bFy (g : FuncId) (F : List DV → Hp → aH) (hg : CF.I g = some F) (n : Nat) (args : List DV) : SimP false (F args) (cA CF1 (fU CF1 (n + 12)) g args):=by
 have hcall : cA CF1 (fU CF1 (n + 12)) g args = fun h=>match qD g with
  | some F=>F args h
  | none=>fU CF1 (n + 12) g args h:=rfl
 rw [hcall]
 rcases aAr hg with h1 | ⟨h1,h2⟩
 ·rw [h1]; exact aHp h1 args
 ·rw [h1]; exact aUj g F h2 n args
theorem cVr {g : FuncId} (hg : CF.I g = none) : CF1.I g = none:=(aUf hg).1
theorem aZk : ∃ g',fU CF1 912 11 [.i .i64 (.ofNat 30000)] hS = some (.t [.p (aL 7) 0,.i .i64 (.ofNat 0)],g') ∧ Sim false hN g':=by
 obtain ⟨g,h1,h2⟩:=dXh
 rw [zG] at h1
 obtain ⟨g',h3,h4⟩:=aYi 900 11 [.i .i64 (.ofNat 30000)] hS hS fCp _ _ h1
 exact ⟨g',h3,h2.tf h4⟩
section known
variable {g1 : Hp} {HL : List (Pos × Ob)} {nx0 : Nat}
def exL (g1 : Hp) (l : List (Pos × Ob)) : List (Pos × Ob):=l.map fun x=>(x.1,(g1.bl.get x.1).getD x.2)
theorem aUs (l : List (Pos × Ob)) (t : Tr Ob) (b : Pos) : (iB l t).get b = match (iB l .e).get b with
  | some o=>some o
  | none=>t.get b:=by
 induction l with
 | nil=>rw [show iB [] t = t from rfl,show iB [] .e = .e from rfl,Tr.get_e]
 | cons x l ih =>
  show (Tr.set x.2 x.1 (iB l t)).get b = match (Tr.set x.2 x.1 (iB l .e)).get b with
   | some o=>some o
   | none=>t.get b
  by_cases e : b = x.1
  ·rw [e,fAx,fAx]
  ·rw [fAw _ _ _ _ e,fAw _ _ _ _ e]
   exact ih
theorem cHc (l : List (Pos × Ob)) (b : Pos) (o : Ob) (h : (iB l .e).get b = some o) : (b,o) ∈ l:=by
 induction l with
 | nil=>rw [show iB [] .e = .e from rfl,Tr.get_e] at h; cases h
 | cons x l ih =>
  change (Tr.set x.2 x.1 (iB l .e)).get b = some o at h
  by_cases e : b = x.1
  ·rw [e,fAx] at h
   cases h
   rw [e]
   exact List.mem_cons_self
  ·rw [fAw _ _ _ _ e] at h
   exact List.mem_cons_of_mem _ (ih h)
theorem oU (g1 : Hp) (l : List (Pos × Ob)) (b : Pos) : (iB (exL g1 l) .e).get b = ((iB l .e).get b).map fun o=>(g1.bl.get b).getD o:=by
 induction l with
 | nil=>rw [show exL g1 [] = [] from rfl,show iB [] .e = .e from rfl,Tr.get_e]; rfl
 | cons x l ih =>
  show (Tr.set ((g1.bl.get x.1).getD x.2) x.1 (iB (exL g1 l) .e)).get b = ((Tr.set x.2 x.1 (iB l .e)).get b).map _
  by_cases e : b = x.1
  ·rw [e,fAx,fAx]
   rfl
  ·rw [fAw _ _ _ _ e,fAw _ _ _ _ e]
   exact ih
theorem aOn (S : Sim false (iM nx0 HL) g1) {b : Pos} {o : Ob} (h : (iB HL .e).get b = some o) : ∃ o',g1.bl.get b = some o' ∧ vL false o o' ∧ (iB (exL g1 HL) .e).get b = some o':=by
 obtain ⟨o',h1,h2⟩:=S.get b o h
 refine ⟨o',h1,h2, ?_⟩
 rw [oU,h,h1]
 rfl
def aDw (o : Ob) : Bool:=match o with
 | .row .ex _=>true
 | .mp _=>true
 | .big _ _=>true
 | .mi _=>true
 | _=>false
def dGn (l : List (Pos × Ob)) : Bool:=List.rec (motive:=fun _=>Bool) true (fun x _ ih=>aDw x.2 && ih) l
theorem aUg : ∀ {l : List (Pos × Ob)},dGn l = true → ∀ x ∈ l,aDw x.2 = true
 | [],_,x,h=>by cases h
 | y :: l,hl,x,h=>by
  change (aDw y.2 && dGn l) = true at hl
  simp only [Bool.and_eq_true] at hl
  simp only [List.mem_cons] at h
  rcases h with rfl | h
  ·exact hl.1
  ·exact aUg hl.2 x h
theorem bBg {o o' : Ob} (hk : aDw o = true) (h : vL false o o') : o'.sg = true ∨ ∃ l,o' = .row .ex l:=by
 unfold aDw at hk
 split at hk
 ·have : o' = _:=h
  exact .inr ⟨_,this⟩
 ·have : o' = _:=h
  rw [this]
  exact .inl rfl
 ·exact .inr ⟨_,h⟩
 ·obtain ⟨es,h1,_⟩:=h
  rw [h1]
  exact .inl rfl
 ·cases hk
def zE (p : List DV → Bool) (v0 : DV) (nx0 : Nat) (HL : List (Pos × Ob)) (g1 : Hp) (args : List DV) (h : Hp) : aH :=
 bif p args && kC h.next (aL 1) then some (v0,⟨aL nx0,iB (exL g1 HL) h.bl⟩) else none
theorem bUw (S1 : Sim false (iM nx0 HL) g1) (p : List DV → Bool) (v0 : DV) (args : List DV) : SimP false (bDd p v0 nx0 HL args) (zE p v0 nx0 HL g1 args):=by
 intro h h' S
 unfold bDd zE
 rw [S.next]
 cases (p args && kC h.next (aL 1)) with
 | false=>exact SimR.none _
 | true =>
  intro v k e
  simp only [cond_true,bB,bN] at e
  obtain ⟨rfl,rfl⟩:=e
  refine ⟨⟨aL nx0,iB (exL g1 HL) h'.bl⟩,rfl,rfl,fun b o ho => ?_⟩
  change (iB HL h.bl).get b = some o at ho
  show ∃ o',(iB (exL g1 HL) h'.bl).get b = some o' ∧ vL false o o'
  rw [aUs] at ho ⊢
  cases hb : (iB HL .e).get b with
  | some o1 =>
   rw [hb] at ho
   cases ho
   obtain ⟨o',_,h2,h3⟩:=aOn S1 hb
   exact ⟨o',by rw [h3],h2⟩
  | none =>
   rw [hb] at ho
   rw [oU,hb]
   exact S.get b o ho
theorem cHt {f : FuncId} {F : List DV → Hp → aH} (hF : ∀ G,jV Tryz.prog G f F) {args0 : List DV} {v0 : DV} (hr0 : F args0 hS = some (v0,g1)) (S1 : Sim false (iM nx0 HL) g1) (hk : dGn HL = true) (hnx0 : 1024 ≤ (aL nx0).toNat)
  (fn : Func) (hf : Tryz.prog.funcs[f]? = some fn) (hb : fn.body.isSome = true) {p : List DV → Bool} (hp : ∀ args,p args = true → args = args0) (h0 : ∀ ρ l,VRs ρ args0 l → VRs (fun _=>none) args0 l) (G : Gd) : jV Tryz.prog G f (zE p v0 nx0 HL g1):=by
 intro args h v h1 hr ρ w args' H hargs
 unfold zE at hr
 cases hc : (p args && kC h.next (aL 1)) with
 | false=>rw [hc] at hr; cases hr
 | true =>
  rw [hc] at hr
  simp only [cond_true,bB,bN] at hr
  obtain ⟨rfl,rfl⟩:=hr
  simp only [Bool.and_eq_true] at hc
  have ha:=hp _ hc.1
  subst ha
  have hnx:=lF _ _ hc.2
  have hp1 : (aL 1).toNat = 1024:=by kernel_rfl
  refine .inl ⟨aUx hf hb _ _, ?_⟩
  refine (cSw hF hr0 fn hf hb w (G.ok w H.gl) args' (h0 _ _ hargs)).mono ?_
  rintro e w' ⟨ρ2,v',rfl,hv,H2,hbel,hlow⟩
  have S2 : Sim true ⟨g1.next,iB (exL g1 HL) .e⟩ g1:=⟨rfl,fun b o ho=>by
   change (iB (exL g1 HL) .e).get b = some o at ho
   rw [oU] at ho
   cases hb : (iB HL .e).get b with
   | none=>rw [hb] at ho; cases ho
   | some o1 =>
    obtain ⟨o',q1,_,q3⟩:=aOn S1 hb
    rw [oU] at q3
    rw [q3] at ho
    cases ho
    exact ⟨_,q1,aEw _⟩⟩
  have hgn : g1.next = aL nx0:=S1.next
  have H3:=HR.sub S2 H2
  obtain ⟨j1,j2,j3⟩:=H.join (J:=iB (exL g1 HL) h.bl) hbel H3 rfl (fun b L hL=>by rw [hnx,hp1]; exact hlow b L hL) (fun b o ho=>by
    change (iB (exL g1 HL) .e).get b = some o at ho
    rw [oU] at ho
    cases hb : (iB HL .e).get b with
    | none=>rw [hb] at ho; cases ho
    | some o1 =>
     obtain ⟨o',q1,q2,q3⟩:=aOn S1 hb
     rw [oU] at q3
     rw [q3] at ho
     cases ho
     exact bBg (aUg hk _ (cHc _ _ _ hb)) q2) (by
    show h.next.toNat ≤ g1.next.toNat
    rw [hnx,hgn,hp1]
    exact hnx0) (fun b=>by
    rw [aUs]
    cases hb : (iB (exL g1 HL) .e).get b with
    | none=>cases h.bl.get b <;> rfl
    | some o =>
     cases hh : h.bl.get b with
     | none=>rfl
     | some o1 =>
      exfalso
      obtain ⟨L,hL⟩:=H.dom b o1 hh
      have q1:=H.lt b L hL
      obtain ⟨L2,hL2⟩:=H3.dom b o hb
      have q2:=hlow b L2 hL2
      rw [hnx,hp1] at q1
      omega)
  rw [hgn] at j1
  exact ⟨mF ρ ρ2,v',rfl,j2,hv.mono j3,j1,Kp.later H hbel⟩
end known
def gN1 : Hp:=Classical.choose aZk
theorem dPo : fU CF1 912 11 [.i .i64 (.ofNat 30000)] hS = some (.t [.p (aL 7) 0,.i .i64 (.ofNat 0)],gN1):=(Classical.choose_spec aZk).1
theorem bGt : Sim false hN gN1:=(Classical.choose_spec aZk).2
theorem bRm : dGn HLN = true:=by kernel_rfl
def cRp : List DV → Hp → aH:=zE bIj (.t [.p (aL 7) 0,.i .i64 (.ofNat 0)]) 26855 HLN gN1
theorem bZh (args : List DV) : SimP false (dMc args) (cRp args):=bUw bGt _ _ _
theorem cQh (args : List DV) (h : bIj args = true) : args = [.i .i64 (.ofNat 30000)]:=by
 unfold bIj at h
 split at h
 ·rw [Nat.eq_of_beq_eq_true h]
 ·cases h
theorem cYy {k : IntKind} {n : Int} (ρ : Ren) (l : List Value) (h : VRs ρ [.i k n] l) : VRs (fun _=>none) [.i k n] l:=by
 cases h with
 | cons _ _ _ _ q1 q2 =>
  cases q1
  cases q2
  exact .cons _ _ _ _ (.i _ _) .nil
theorem cVa (G : Gd) : jV Tryz.prog G 11 cRp :=
 cHt (fun G=>bAe 912 G 11) dPo bGt bRm (by rw [show (aL 26855).toNat = 27878 from by kernel_rfl]; decide) Tryz.f11 Tryz.func11 (by kernel_rfl) cQh cYy G
theorem bGo (n : Nat) (g : FuncId) (args : List DV) (h : Hp) : bUb n g args h = bif Nat.beq g 11 then dMc args h else jX n g args h:=rfl
section nest
variable {r2 r1 : RT}
structure Two (N : Nat) (r2 r1 : RT) : Prop where
 ok : OkC CF1 r1
 sim : ∀ g args,SimP false (r2 g args) (r1 g args)
 own : ∀ (g : FuncId) (F : List DV → Hp → aH),CF1.I g = none → CF.I g = some F → ∀ args,r1 g args = fU CF1 (N + 12) g args
theorem Two.call {N : Nat} (T : Two N r2 r1) (g : FuncId) (args : List DV) : SimP false (cA CF r2 g args) (cA CF1 r1 g args):=by
 cases hg : CF.I g with
 | none=>rw [tX hg,tX (cVr hg)]; exact T.sim g args
 | some F =>
  have e : cA CF r2 g args = F args:=by funext k; unfold cA; rw [hg]
  rw [e]
  cases h1 : CF1.I g with
  | some F1 =>
   have e1 : cA CF1 r1 g args = cA CF1 (fU CF1 (N + 12)) g args:=by funext k; unfold cA; rw [h1]
   rw [e1]
   exact bFy g F hg N args
  | none =>
   have e1 : cA CF1 r1 g args = cA CF1 (fU CF1 (N + 12)) g args:=by funext k; unfold cA; rw [h1]; exact congrFun (T.own g F h1 hg args) k
   rw [e1]
   exact bFy g F hg N args
end nest
structure Ro (w : World) (ρ : Ren) (h : Hp) : Prop where
 dom : ∀ b o,h.bl.get b = some o → ∃ L, ρ b = some L
 lt : ∀ b L, ρ b = some L → b.toNat < h.next.toNat
 row : ∀ b o,h.bl.get b = some o → ∃ l,o = .row .ro l
 cell : ∀ b l L i v,h.bl.get b = some (.row .ro l) → ρ b = some L → l[i]? = some v → ∃ v',w.cell? (eX L i) = some v' ∧ VR ρ v v'
 sp : ∀ b o L,h.bl.get b = some o → ρ b = some L → L.sp = 0
theorem Ro.isRo {w : World} {ρ : Ren} {h : Hp} (R : Ro w ρ h) {b : Pos} {a : Addr} (c : Claims ρ h b a) : isRo h b:=by
 obtain ⟨k,l,L,h1,h2,_⟩:=c
 obtain ⟨l',e⟩:=R.row b _ h1
 exact ⟨l',by rw [h1,e]⟩
theorem Ro.hr {w : World} {ρ : Ren} {h : Hp} (R : Ro w ρ h) (W : Facts w) : HR (gdS w W 0) ρ h w where
 gl:=fun _ _=>rfl
 sz:=⟨Nat.le_refl _,fun _ hh=>hh.elim⟩
 nx:=Nat.zero_le _
 ro:=fun b a c _=>by
  obtain ⟨k,l,L,h1,h2,h3⟩:=c
  obtain ⟨l',e⟩:=R.row b _ h1
  cases e
  rcases h3 with ⟨i,v,h4,h5,rfl⟩ | ⟨es,j,h4,_⟩
  ·obtain ⟨v',h6,_⟩:=R.cell b _ L i v h1 h2 h4
   exact eA h6
  ·cases h4
 dom:=R.dom
 lt:=R.lt
 cell:=fun b k l L i v h1 h2 h3 h4=>by
  obtain ⟨l',e⟩:=R.row b _ h1
  cases e
  exact R.cell b _ L i v h1 h2 h3
 spare:=fun b l L es j h1=>by
  obtain ⟨l',e⟩:=R.row b _ h1
  cases e
 free:=fun b a c hn=>absurd (R.isRo c) hn
 inj:=fun b b' a c c' hn=>absurd (R.isRo c) hn
 ex:=fun b l L h1 h2=>by
  rcases h1 with h1 | h1
  ·exact R.sp b _ L h1 h2
  ·exact R.sp b _ L h1 h2
 grone:=fun b es l i v h1=>by
  obtain ⟨l',e⟩:=R.row b _ h1
  cases e
 itr:=fun b o L hs h1 _=>by
  obtain ⟨l',rfl⟩:=R.row b _ h1
  cases hs
 itj:=fun b o b' o' L L' hs hs' h1 _ _ _ _=>by
  obtain ⟨l',rfl⟩:=R.row b _ h1
  cases hs
theorem Ro.none (w : World) (p : Pos) : Ro w (fun _=>none) ⟨p,.e⟩ where
 dom:=fun b o h=>by cases b <;> cases h
 lt:=fun b L h=>by cases h
 row:=fun b o h=>by cases b <;> cases h
 cell:=fun b l L i v h=>by cases b <;> cases h
 sp:=fun b o L h=>by cases b <;> cases h
theorem Ro.sim {w : World} {ρ : Ren} {h : Hp} (R : Ro w ρ h) : Sim false h h:=⟨rfl,fun b o e=>by
 obtain ⟨l,rfl⟩:=R.row b o e
 exact ⟨_,e,rfl⟩⟩
end Go.Dd

namespace Go.Dd
open Go.Proofs Go.RowKit
abbrev eQd : List (String × DataW Unit):=YtfakmddlgjngnaaGreatDoor.Rows.interpEnsuresRow.laid
theorem bYz : (YtfakmddlgjngnaaGreatDoor.Rows.laid_internal_strconv_uint64pow10 : DataW Unit) = Lib.tabData .u64 Lib.pow10Tab:=by kernel_rfl
theorem eDh {W : World} (h : Lib.VarReads Tryz.prog W "internal/strconv.uint64pow10" YtfakmddlgjngnaaGreatDoor.Rows.laid_internal_strconv_uint64pow10) : ∃ t z,W.heap[1]? = some (.cells (Lib.pow10Tab.map fun z=>Value.int .u64 z).toArray t z):=by
 obtain ⟨g,t,cs,fuel,p,hg,ht,hv,hd⟩:=h
 have e1 : Tryz.prog.globalNamed "internal/strconv.uint64pow10" = some 1:=by kernel_rfl
 obtain rfl:=Option.some.inj (e1.symm.trans hg)
 have e2 : (Tryz.prog.globals[1]?).map (·.type) = some 329:=by kernel_rfl
 obtain rfl:=Option.some.inj (e2.symm.trans ht)
 rw [bYz] at hd
 have hc:=Lib.cells_of_tab Tryz.underlying329 Tryz.underlying303 (by kernel_rfl) (by kernel_rfl) hd
 unfold World.var? at hv
 rw [e1] at hv
 simp only [Option.bind_some] at hv
 split at hv
 ·rename_i cs' t' z' hh
  obtain rfl:=Option.some.inj hv
  refine ⟨t',z', ?_⟩
  rw [hh]
  congr 2
  rw [← hc]
 ·cases hv
theorem cFu {L : List (String × DataW Unit)} {W : World} (hL : laidMet Tryz.prog L W) (hs : W.ShapedOpen Tryz.prog)
  (h1 : ("internal/strconv.uint64pow10", YtfakmddlgjngnaaGreatDoor.Rows.laid_internal_strconv_uint64pow10) ∈ L) : Facts W :=
 ⟨⟨Go.Proofs.cell_of_shapedOpen_int (zero := #[.int .i64 0]) (t:=3) hs (of_decide_eq_true (by kernel_rfl)) (by kernel_rfl) rfl (by kernel_rfl) (by kernel_rfl) Tryz.underlying3,eDh (Lib.laidMet.reads hL h1)⟩,trivial,trivial⟩
theorem dFg {W : World} (hL : laidMet Tryz.prog eQd W) (hs : W.ShapedOpen Tryz.prog) : Facts W:=cFu hL hs (.tail _ (.tail _ (.head _)))
theorem aOj {H : Type} {enc : TypeId × Value → H} {a : Assume} {C : Checked} {os : Os} {f : FuncId} {fn : Func} {s : ChangeSpec} {conds : List PathCond} {apart fresh handsOn again : Bool} {X : World → Array Value → Prop}
  (hX : ∀ (w w' : World) (args : Array Value),w.heap = w'.heap → X w args → X w' args)
  (own : ownKnob C.prog.godebug = none) (started : os.Started) (noInit : C.prog.inits.idxOf? f = none) (hfn : C.prog.funcs[f]? = some fn)
  (witness : ∃ (w : World) (tape : Tape) (i : Input),w.os = os ∧ (w.forCall tape i).Shaped C.prog ∧ i.vars = [] ∧ Input.okWide C.prog (w.forCall tape i) .any w.heap.size f i ∧
   ((s.pre enc C.prog fn conds apart (w.forCall tape i).memory i.args ∧ X (w.forCall tape i).memory i.args) ∧ sizedMet enc C.prog fn (OpenSpec.ofChange s) apart (w.forCall tape i).memory i.args) ∧ a.holds C.prog (lone (Frame.enter C.prog f i.args .normal) [] (w.forCall tape i)))
  (contract : ∀ (W : World) (base : Nat) (args : Array Value) (ds gs : List (DataW H)) (before : List MemPlace),
   (∀ (j : Nat) t v,fn.params[j]? = some t → args[j]? = some v → Value.okWide C.prog W .any base t v) →
   DataW.Whole enc C.prog fn.params.toList s.vars apart W args.toList ds gs before →
   X W args → W.ShapedOpen C.prog →
   Calls C.prog f args W fun e W'=>∃ v,e = .returned v ∧ s.post enc C.prog fn apart fresh handsOn again W args v W') :
  ReturnsInHanded a C os f .any (fun w args=>(s.pre enc C.prog fn conds apart w args ∧ X w args) ∧ sizedMet enc C.prog fn (OpenSpec.ofChange s) apart w args) (s.post enc C.prog fn apart fresh handsOn again):=by
 refine returnsInHanded_of_calls own started noInit witness ?_
 intro w tape i _ hsh _ hok hpre hholds
 obtain ⟨_,_,_,fn',hfn',_,_,_,_,hval⟩:=hok
 have e : fn' = fn:=Option.some.inj (hfn'.symm.trans hfn)
 subst e
 obtain ⟨⟨⟨ds,gs,before,hw,hc⟩,hx⟩,hz⟩:=hpre
 have hw':=DataW.Whole.of_heap (w':=w.forCall tape i) (by rfl) hw
 refine (contract (w.forCall tape i) w.heap.size i.args ds gs before hval hw' (hX _ _ _ (by rfl) hx) hsh).mono fun e W' ⟨v,he,hp⟩ => ?_
 subst he
 exact ChangeSpec.post_blind hp
theorem own : ownKnob Tryz.prog.godebug = none:=by kernel_rfl
end Go.Dd

namespace Go.Dd
open Go.Proofs Go.RowKit
def PlV (v : DV) : Prop:=∀ (ρ ρ' : Ren) x,VR ρ v x → VR ρ' v x
def PlVs (l : List DV) : Prop:=∀ (ρ ρ' : Ren) xs,VRs ρ l xs → VRs ρ' l xs
theorem PlV.ofI (k : IntKind) (n : Int) : PlV (.i k n):=fun ρ ρ' x h=>by cases h; exact .i _ _
theorem PlV.ofB (b : Bool) : PlV (.b b):=fun ρ ρ' x h=>by cases h; exact .b _
theorem PlV.ofS (s : List Nat) : PlV (.s s):=fun ρ ρ' x h=>by
 cases h with
 | s _ bs hb=>exact .s _ bs hb
theorem PlVs.nil : PlVs []:=fun ρ ρ' xs h=>by cases h; exact .nil
theorem PlVs.cons {v : DV} {l : List DV} (h : PlV v) (hs : PlVs l) : PlVs (v :: l):=fun ρ ρ' xs q=>by
 cases q with
 | cons _ x' _ l' q1 q2=>exact .cons _ _ _ _ (h _ _ _ q1) (hs _ _ _ q2)
theorem PlV.ofA {l : List DV} (h : PlVs l) : PlV (.a l):=fun ρ ρ' x q=>by
 cases q with
 | a _ x' q1=>exact .a _ _ (h _ _ _ q1)
theorem PlV.ofT {l : List DV} (h : PlVs l) : PlV (.t l):=fun ρ ρ' x q=>by
 cases q with
 | t _ x' q1=>exact .t _ _ (h _ _ _ q1)
def aEz (tab : List (List DV × DV)) (args : List DV) (h : Hp) : aH :=
 List.rec (motive:=fun _=>aH) none (fun e _ ih=>bif fBm e.1 args then some (e.2,h) else ih) tab
theorem tG {args : List DV} {h : Hp} {v : DV} {h1 : Hp} : ∀ {tab : List (List DV × DV)},aEz tab args h = some (v,h1) → h1 = h ∧ (args,v) ∈ tab
 | [],e=>by cases e
 | x :: tab,e=>by
  change (bif fBm x.1 args then some (x.2,h) else aEz tab args h) = some (v,h1) at e
  cases hb : fBm x.1 args with
  | true =>
   rw [hb] at e
   simp only [cond_true,bB,bN] at e
   obtain ⟨rfl,rfl⟩:=e
   exact ⟨rfl,by rw [← fBr _ _ hb]; exact List.mem_cons_self⟩
  | false =>
   rw [hb] at e
   obtain ⟨q1,q2⟩:=tG (tab:=tab) e
   exact ⟨q1,List.mem_cons_of_mem _ q2⟩
theorem bZd (tab : List (List DV × DV)) (args : List DV) : SimP false (aEz tab args) (aEz tab args):=by
 intro h h' S v k e
 have hk:=(tG e).1
 subst hk
 refine ⟨h', ?_,S⟩
 clear S
 induction tab with
 | nil=>cases e
 | cons x tab ih =>
  change (bif fBm x.1 args then some (x.2,k) else aEz tab args k) = some (v,k) at e
  show (bif fBm x.1 args then some (x.2,h') else aEz tab args h') = some (v,h')
  cases hb : fBm x.1 args with
  | true =>
   rw [hb] at e
   simp only [cond_true,bB,bN] at e
   rw [e.1]
   rfl
  | false =>
   rw [hb] at e
   exact ih e
structure SeenB (F : List DV → Hp → aH) (e : List DV × DV) : Prop where
 run : ∃ p g,F e.1 ⟨p,.e⟩ = some (e.2,g)
 pa : PlVs e.1
 pv : PlV e.2
theorem eEx {f : FuncId} {F : List DV → Hp → aH} (hF : ∀ G,jV Tryz.prog G f F) {tab : List (List DV × DV)} (hall : ∀ e ∈ tab,SeenB F e) (fn : Func) (hf : Tryz.prog.funcs[f]? = some fn) (hb : fn.body.isSome = true) (G : Gd) :
  jV Tryz.prog G f (aEz tab):=by
 intro args h v h1 hr ρ w args' H hargs
 obtain ⟨rfl,hm⟩:=tG hr
 obtain ⟨⟨p,g,hg⟩,pa,pv⟩:=hall _ hm
 refine .inl ⟨aUx hf hb _ _, ?_⟩
 refine (bWa hF hg fn hf hb w (G.ok w H.gl) args' (pa _ _ _ hargs)).mono ?_
 rintro e w' ⟨ρ',v',rfl,hv,_,hbel,_⟩
 exact ⟨ρ,_,rfl,Ex.refl _ _,pv _ _ _ hv,H.later hbel,Kp.later H hbel⟩
section
variable {r2 r1 : RT} {N : Nat}
def bVz (f : FuncId) (tab : List (List DV × DV)) (r2 : RT) : RT:=fun g args h=>bif Nat.beq g f then aEz tab args h else r2 g args h
def aSr (f : FuncId) (tab : List (List DV × DV)) (r1 : RT) : RT:=fun g=>bif Nat.beq g f then aEz tab else r1 g
theorem Two.put (T : Two N r2 r1) (f : FuncId) (tab : List (List DV × DV)) (hf : CF.I f = none) (hok : ∀ G,jV Tryz.prog G f (aEz tab)) : Two N (bVz f tab r2) (aSr f tab r1) where
 ok:=by
  refine ⟨T.ok.own,fun G g => ?_⟩
  unfold aSr
  cases hg : Nat.beq g f with
  | true=>cases Nat.eq_of_beq_eq_true hg; exact hok G
  | false=>exact T.ok.fns G g
 sim g args:=by
  intro h h' S
  unfold bVz aSr
  cases hg : Nat.beq g f with
  | true=>exact bZd tab args h h' S
  | false=>exact T.sim g args h h' S
 own g F h1 h2 args:=by
  unfold aSr
  cases hg : Nat.beq g f with
  | true=>cases Nat.eq_of_beq_eq_true hg; rw [hf] at h2; cases h2
  | false=>exact T.own g F h1 h2 args
theorem Two.down (T : Two N r2 r1) {M : Nat} {f : FuncId} {args : List DV} {p : Pos} {v : DV} {k : Hp} (hr : aI CF r2 M f args ⟨p,.e⟩ = some (v,k)) : ∃ g,aI CF1 r1 (M + 12) f args ⟨p,.e⟩ = some (v,g):=by
 obtain ⟨g,h1,_⟩:=sY (P:=Tryz.prog) (I2:=CF.I) (I1:=CF1.I) T.call M 12 f args ⟨p,.e⟩ ⟨p,.e⟩ ⟨rfl,fun b o hb=>by cases b <;> cases hb⟩ _ _ hr
 exact ⟨g,h1⟩
theorem fCe (T : Two N r2 r1) {r2' r1' : RT} {N' : Nat} (T' : Two N' r2' r1') (M : Nat) (f : FuncId) (tab : List (List DV × DV)) (hf : CF.I f = none) (fn : Func) (hfn : Tryz.prog.funcs[f]? = some fn) (hb : fn.body.isSome = true)
  (hall : ∀ e ∈ tab,(∃ p k,aI CF r2 M f e.1 ⟨p,.e⟩ = some (e.2,k)) ∧ PlVs e.1 ∧ PlV e.2) : Two N' (bVz f tab r2') (aSr f tab r1') :=
 T'.put f tab hf (eEx (F:=aI CF1 r1 (M + 12) f) (fun G=>xJ T.ok Try_ok (M + 12) f) (fun e he=>by
  obtain ⟨⟨p,k,h1⟩,h2,h3⟩:=hall e he
  obtain ⟨g,hg⟩:=T.down h1
  exact ⟨⟨p,g,hg⟩,h2,h3⟩) fn hfn hb)
theorem fCr (T : Two N r2 r1) {M : Nat} {f : FuncId} {args : List DV} {h0 : Hp} {ρ : Ren} (hr : ∃ k,aI CF r2 M f args h0 = some (.b true,k)) (fn : Func) (hf : Tryz.prog.funcs[f]? = some fn) (hb : fn.body.isSome = true)
  (w : World) (W : Facts w) (R : Ro w ρ h0) (args' : Array Value) (hargs : VRs ρ args args'.toList) :
  Calls Tryz.prog f args' w fun e w'=>e = .returned (.bool true) ∧ Below w.heap.size w w':=by
 obtain ⟨k,hk⟩:=hr
 obtain ⟨g,h1,_⟩:=sY (P:=Tryz.prog) (I2:=CF.I) (I1:=CF1.I) T.call M 12 f args h0 h0 R.sim _ _ hk
 have H:=R.hr W
 rcases xJ T.ok Try_ok (M + 12) f args h0 _ g h1 _ w args' H hargs with ⟨_,h⟩ | ⟨ρ',w',v',h,_⟩
 ·refine h.mono ?_
  rintro e w' ⟨ρ',v',rfl,h2,h3,h4,h5⟩
  cases h3
  exact ⟨rfl,h5.low⟩
 ·exfalso
  have hn : ¬ fn.name = "runtime.NumGoroutine" := by simpa using Try_ok.names f fn hf
  have hbn : fn.body ≠ none:=by intro e; rw [e] at hb; cases hb
  unfold callFunc at h
  simp [show CF1.P.funcs[f]? = some fn from hf,hn,hbn] at h
end
theorem eQk (n : Nat) : Two n (jX n) (fU CF1 (n + 12)) where
 ok:=⟨aIi,fun G g=>bAe (n + 12) G g⟩
 sim g args:=by
  intro h h' S
  rw [zG]
  exact aYi n g args h h' S
 own g F h1 h2 args:=rfl
def isV (v : DV) (r : aH) : Bool:=match r with
 | some (x,_)=>DV.beq x v
 | none=>false
theorem aQv {v : DV} {r : aH} (h : isV v r = true) : ∃ k,r = some (v,k):=by
 cases r with
 | none=>cases h
 | some p =>
  obtain ⟨x,k⟩:=p
  exact ⟨k,by rw [fBs x v h]⟩
theorem bEe {r : aH} (h : isV (.b true) r = true) : ∃ k,r = some (.b true,k):=aQv h
def aCb (n : Nat) (p : Nat → Bool) : Bool:=Nat.rec true (fun k ih=>p k && ih) n
theorem uS {p : Nat → Bool} : ∀ {n : Nat},aCb n p = true → ∀ k,k < n → p k = true
 | 0,_,k,hk=>by omega
 | n + 1,h,k,hk=>by
  change (p n && aCb n p) = true at h
  simp only [Bool.and_eq_true] at h
  rcases Nat.lt_or_eq_of_le (Nat.le_of_lt_succ hk) with q | rfl
  ·exact uS h.2 k q
  ·exact h.1
end Go.Dd

namespace Go.Dd
open Go.Proofs
def dN (x : DV) : Option Nat :=
 DV.rec (motive_1:=fun _=>Option Nat) (motive_2:=fun _=>PUnit) none (fun _=>none) (fun ik n=>IntKind.rec (motive:=fun _=>Option Nat) none none none (Int.rec (motive:=fun _=>Option Nat) (fun m=>some m) (fun _=>none) n) none none none none ik) (fun _=>none) none (fun _ _=>none) none (fun _ _ _ _=>none) (fun _ _ _ _=>none) none none (fun _=>none) none (fun _ _ _ _ _=>none) none (fun _ _ _=>none) (fun _ _=>none) (fun _ _=>none) (fun _=>none) PUnit.unit (fun _ _ _ _=>PUnit.unit) x
theorem dHz {x : DV} {m : Nat} (h : dN x = some m) : x = .i .i64 (Int.ofNat m):=by
 cases x <;> (try (cases h; done))
 rename_i ik n
 cases ik <;> (try (cases h; done))
 cases n with
 | ofNat k=>cases h; rfl
 | negSucc k=>cases h
def onN (x : DV) (k : Nat → Option (DV × Hp)) : Option (DV × Hp):=Option.rec (motive:=fun _=>Option (DV × Hp)) none (fun m=>k m) (dN x)
theorem oG {x : DV} {k : Nat → Option (DV × Hp)} {r : DV × Hp} (h : onN x k = some r) : ∃ m,x = .i .i64 (Int.ofNat m) ∧ k m = some r:=by
 unfold onN at h
 cases e : dN x with
 | none=>rw [e] at h; cases h
 | some m=>rw [e] at h; exact ⟨m,dHz e,h⟩
def on3 (r : List DV) (k : DV → DV → DV → List DV → Option (DV × Hp)) : Option (DV × Hp) :=
 List.rec (motive:=fun _=>Option (DV × Hp)) none (fun a l _=>List.rec (motive:=fun _=>Option (DV × Hp)) none (fun b l _=>List.rec (motive:=fun _=>Option (DV × Hp)) none (fun c l _=>k a b c l) l) l) r
theorem aUp {r : List DV} {k : DV → DV → DV → List DV → Option (DV × Hp)} {x : DV × Hp} (h : on3 r k = some x) : ∃ a b c l,r = a :: b :: c :: l ∧ k a b c l = some x:=by
 match r with
 | []=>cases h
 | [_]=>cases h
 | [_,_]=>cases h
 | a :: b :: c :: l=>exact ⟨a,b,c,l,rfl,h⟩
def ifB (c : Bool) (a b : Option (DV × Hp)) : Option (DV × Hp):=Bool.rec (motive:=fun _=>Option (DV × Hp)) b a c
theorem kI {c : Bool} {a b : Option (DV × Hp)} {r : DV × Hp} (h : ifB c a b = some r) : (c = true ∧ a = some r) ∨ (c = false ∧ b = some r):=by
 cases c
 ·exact .inr ⟨rfl,h⟩
 ·exact .inl ⟨rfl,h⟩
theorem aVe {c : Bool} {a : Option (DV × Hp)} {r : DV × Hp} (h : ifB c a none = some r) : c = true ∧ a = some r:=by
 cases c
 ·cases h
 ·exact ⟨rfl,h⟩
theorem dRi {c : Bool} {b : Option (DV × Hp)} {r : DV × Hp} (h : ifB c none b = some r) : c = false ∧ b = some r:=by
 cases c
 ·exact ⟨rfl,h⟩
 ·cases h
def owB (at' len : Nat) (b c : Pos) (ih : List DV → Nat → Int → Hp → Option (DV × Hp)) (r : List DV) (p : Nat) (best : Int) (h : Hp) : Option (DV × Hp) :=
  ifB (Nat.ble (Nat.add p 2) at')
   (on3 r fun a0 _ _ r1=>ifB (Nat.blt p len) (onN a0 fun op=>ifB (Nat.beq op 18)
    (ifB (Nat.blt (Nat.succ p) len)
     (on3 r1 fun b0 b1 b2 _=>onN b0 fun op2=>ifB (Nat.beq op2 16)
      (onN b1 fun A=>onN b2 fun B=>ifB (Nat.ble A 100000) (ifB (Nat.ble B 100000) (ifB (kC c h.next) none (ifB (kC b h.next) none
       (ifB (Nat.blt (Nat.add p 2) (Nat.add A (Nat.mul B 256)))
        (ifB (Nat.blt at' (Nat.add A (Nat.mul B 256)))
         (ih r1 (Nat.succ p) (.ofNat p) ⟨h.next.succ,Tr.set (.row .ex [b0,b1,b2]) h.next h.bl⟩)
         (ih r1 (Nat.succ p) best ⟨h.next.succ,Tr.set (.row .ex [b0,b1,b2]) h.next h.bl⟩))
        (ih r1 (Nat.succ p) best ⟨h.next.succ,Tr.set (.row .ex [b0,b1,b2]) h.next h.bl⟩)))) none) none)
      (ih r1 (Nat.succ p) best h))
     (ih r1 (Nat.succ p) best h))
    (ih r1 (Nat.succ p) best h)) none)
   (some (.i .i64 best,h))
def owL (at' len : Nat) (b c : Pos) (m : Nat) : List DV → Nat → Int → Hp → Option (DV × Hp) :=
 Nat.rec (motive:=fun _=>List DV → Nat → Int → Hp → Option (DV × Hp)) (fun _ _ _ _=>none) (fun _ ih=>owB at' len b c ih) m
def onL (x : DV) (k : Pos → Nat → Nat → Nat → Option (DV × Hp)) : Option (DV × Hp) :=
 DV.rec (motive_1:=fun _=>Option (DV × Hp)) (motive_2:=fun _=>PUnit) none (fun _=>none) (fun _ _=>none) (fun _=>none) none (fun _ _=>none) none (fun b o n c=>k b o n c) (fun _ _ _ _=>none) none none (fun _=>none) none (fun _ _ _ _ _=>none) none (fun _ _ _=>none) (fun _ _=>none) (fun _ _=>none) (fun _=>none) PUnit.unit (fun _ _ _ _=>PUnit.unit) x
theorem cHn {x : DV} {k : Pos → Nat → Nat → Nat → Option (DV × Hp)} {r : DV × Hp} (h : onL x k = some r) : ∃ b o n c,x = .l b o n c ∧ k b o n c = some r:=by
 cases x <;> (try (cases h; done))
 exact ⟨_,_,_,_,rfl,h⟩
def onP (x : DV) (k : Pos → Nat → Option (DV × Hp)) : Option (DV × Hp) :=
 DV.rec (motive_1:=fun _=>Option (DV × Hp)) (motive_2:=fun _=>PUnit) none (fun _=>none) (fun _ _=>none) (fun _=>none) none (fun b o=>k b o) none (fun _ _ _ _=>none) (fun _ _ _ _=>none) none none (fun _=>none) none (fun _ _ _ _ _=>none) none (fun _ _ _=>none) (fun _ _=>none) (fun _ _=>none) (fun _=>none) PUnit.unit (fun _ _ _ _=>PUnit.unit) x
theorem cGq {x : DV} {k : Pos → Nat → Option (DV × Hp)} {r : DV × Hp} (h : onP x k = some r) : ∃ b o,x = .p b o ∧ k b o = some r:=by
 cases x <;> (try (cases h; done))
 exact ⟨_,_,rfl,h⟩
def onO {α : Type} (x : Option α) (k : α → Option (DV × Hp)) : Option (DV × Hp):=Option.rec (motive:=fun _=>Option (DV × Hp)) none k x
theorem aRu {α : Type} {x : Option α} {k : α → Option (DV × Hp)} {r : DV × Hp} (h : onO x k = some r) : ∃ a,x = some a ∧ k a = some r:=by
 cases x with
 | none=>cases h
 | some a=>exact ⟨a,rfl,h⟩
def owF (m : Nat) (x0 x1 : DV) (h : Hp) : Option (DV × Hp) :=
 ifB (Nat.ble 10 m) (onN x0 fun at'=>ifB (Nat.ble at' 100000) (onP x1 fun b o=>onO (cellD b o h) fun l=>onL l fun c o2 len _=>onO (rowOf c h) fun cs=>owL at' len b c m (bPs cs o2) 0 (.negSucc 0) h) none) none
theorem wW : ∀ {p q : Pos},kC p q = false → p ≠ q
 | .h,.h,h=>by cases h
 | .h,.o _,_=>fun e=>by cases e
 | .h,.i _,_=>fun e=>by cases e
 | .o _,.h,_=>fun e=>by cases e
 | .o p,.o q,h=>fun e=>by cases e; exact wW (p:=p) (q:=p) h rfl
 | .o _,.i _,_=>fun e=>by cases e
 | .i _,.h,_=>fun e=>by cases e
 | .i _,.o _,_=>fun e=>by cases e
 | .i p,.i q,h=>fun e=>by cases e; exact wW (p:=p) (q:=p) h rfl
section
variable {b c : Pos} {o o2 len cap : Nat} {cs : List DV} {h : Hp}
structure OwH (b c : Pos) (o o2 len cap : Nat) (cs : List DV) (h : Hp) : Prop where
 hb : cellD b o h = some (.l c o2 len cap)
 hc : rowOf c h = some cs
theorem aFp {p q : Pos} {ob : Ob} {h : Hp} (e : p ≠ q) (n : Pos) : rowOf p ⟨n,Tr.set ob q h.bl⟩ = rowOf p h:=by
 rw [cQ,cQ]
 show (match (Tr.set ob q h.bl).get p with | some (.row _ l)=>some l | _=>none) = _
 rw [fAw _ _ _ _ e]
 cases h.bl.get p with
 | none=>rfl
 | some o=>cases o <;> rfl
theorem bRh {p q : Pos} {o : Nat} {ob : Ob} {h : Hp} (e : p ≠ q) (n : Pos) : cellD p o ⟨n,Tr.set ob q h.bl⟩ = cellD p o h:=by
 rw [dD,dD,aFp e]
theorem OwH.set (O : OwH b c o o2 len cap cs h) (e1 : c ≠ h.next) (e2 : b ≠ h.next) (ob : Ob) : OwH b c o o2 len cap cs ⟨h.next.succ,Tr.set ob h.next h.bl⟩ :=
 ⟨(bRh e2 _).trans O.hb,(aFp e1 _).trans O.hc⟩
theorem ixA (p : Nat) (hp : p < len) (h : Hp) : aG 3 (.l c o2 len cap) (.i .i64 (Int.ofNat p)) h = some (.p c (o2 + p * 3),h):=by
 rw [eT]
 dsimp only
 rw [if_pos ⟨Int.natCast_nonneg p,by simp only [Int.ofNat_eq_natCast]; omega⟩]
 rfl
theorem ldC {q : Nat} {v : DV} (hc : rowOf c h = some cs) (hq : cs[q]? = some v) (hv : v.one = true) : aA (.p c q) h = some (v,h):=by
 rw [cO]
 dsimp only
 rw [dD,hc]
 simp only [nthD_eq,hq,hv,if_true]
theorem ldB (hb : cellD b o h = some (.l c o2 len cap)) : aA (.p b o) h = some (.l c o2 len cap,h):=by
 rw [cO]
 dsimp only
 rw [hb]
theorem dTb {r : List DV} {p : Nat} (hr : cs.drop (o2 + p * 3) = r) {a0 a1 a2 : DV} {r1 : List DV} (e : r = a0 :: a1 :: a2 :: r1) : cs[o2 + p * 3]? = some a0 ∧ cs[o2 + p * 3 + 1]? = some a1 ∧ cs[o2 + p * 3 + 2]? = some a2 ∧ cs.drop (o2 + (p + 1) * 3) = r1:=by
 subst e
 have k : ∀ j,(cs.drop (o2 + p * 3))[j]? = cs[o2 + p * 3 + j]? := fun j=>List.getElem?_drop
 refine ⟨?_, ?_, ?_, ?_⟩
 ·have:=k 0; rw [hr] at this; simpa using this.symm
 ·have:=k 1; rw [hr] at this; simpa using this.symm
 ·have:=k 2; rw [hr] at this; simpa using this.symm
 ·have : (cs.drop (o2 + p * 3)).drop 3 = r1:=by rw [hr]; rfl
  rw [List.drop_drop] at this
  rw [← this]
  congr 1
  omega
theorem oQ {a b : Nat} (h : Nat.blt a b = true) : a < b:=Nat.le_of_ble_eq_true h
theorem uC {a b : Nat} (h : Nat.blt a b = false) : b ≤ a:=by
 rcases Nat.lt_or_ge a b with q | q
 ·rw [show Nat.blt a b = true from Nat.ble_eq_true_of_le q] at h; cases h
 ·exact q
theorem bTw {a b : Nat} (h : Nat.ble a b = false) : b < a:=by
 rcases Nat.lt_or_ge b a with q | q
 ·exact q
 ·rw [Nat.ble_eq_true_of_le q] at h; cases h
theorem aFs {a b : Nat} (h : Nat.beq a b = false) : a ≠ b:=fun e=>by rw [e,Nat.beq_refl] at h; cases h
theorem dTi {a b : Nat} (h : a ≠ b) : (Int.ofNat a != Int.ofNat b) = true:=by
 simp only [bne_iff_ne,ne_eq,Int.ofNat_eq_natCast,Int.natCast_inj]; exact h
theorem dXj (a b : Nat) : decide (Int.ofNat a ≥ Int.ofNat b) = decide (b ≤ a):=by
 simp only [Int.ofNat_eq_natCast,ge_iff_le,Int.ofNat_le]
theorem eZa (a b : Nat) : decide (Int.ofNat a < Int.ofNat b) = decide (a < b):=by
 simp only [Int.ofNat_eq_natCast,Int.ofNat_lt]
theorem eTn (a b : Nat) : decide (Int.ofNat a ≤ Int.ofNat b) = decide (a ≤ b):=by
 simp only [Int.ofNat_eq_natCast,Int.ofNat_le]
theorem eWv (a b : Nat) : decide (Int.ofNat a > Int.ofNat b) = decide (b < a):=by
 simp only [Int.ofNat_eq_natCast,gt_iff_lt,Int.ofNat_lt]
theorem dXq (hc : rowOf c h = some cs) {p op : Nat} (hp : p < len) (h0 : cs[o2 + p * 3]? = some (.i .i64 (Int.ofNat op))) (ho : op ≠ 18) (n : Nat) :
  jX (n + 1) 254 [.l c o2 len cap,.i .i64 (Int.ofNat p)] h = some (.t [.i .i64 (Int.ofNat 0),.b false],h):=by
 rw [shS 254 rfl,aCw]
 unfold s254
 simp only [g0,g1,ixA p hp,bP,fld,Nat.add_zero,ldC hc h0 rfl,nK,dTi ho,iP,dL,eC]
theorem dEf (hc : rowOf c h = some cs) {p : Nat} (hp : p < len) (hl : len ≤ p + 1) (hr : p < 1000000) (h0 : cs[o2 + p * 3]? = some (.i .i64 (Int.ofNat 18))) (n : Nat) :
  jX (n + 1) 254 [.l c o2 len cap,.i .i64 (Int.ofNat p)] h = some (.t [.i .i64 (Int.ofNat 0),.b false],h):=by
 rw [shS 254 rfl,aCw]
 unfold s254
 have ln : ∀ h,bM (.l c o2 len cap) h = some (.i .i64 (Int.ofNat len),h):=fun h=>rfl
 have e : (Int.ofNat 18 != Int.ofNat 18) = false:=rfl
 simp only [g0,g1,ixA p hp,bP,fld,Nat.add_zero,ldC hc h0 rfl,nK,e,nE,dK p 1 _ (by omega),ln,qE,dXj,decide_eq_true hl,dS,iP,dL,eC]
theorem cJt (hc : rowOf c h = some cs) {p op : Nat} (hp : p < len) (hl : p + 1 < len) (hr : p < 1000000) (h0 : cs[o2 + p * 3]? = some (.i .i64 (Int.ofNat 18))) (h1 : cs[o2 + (p + 1) * 3]? = some (.i .i64 (Int.ofNat op))) (ho : op ≠ 16) (n : Nat) :
  jX (n + 1) 254 [.l c o2 len cap,.i .i64 (Int.ofNat p)] h = some (.t [.i .i64 (Int.ofNat 0),.b false],h):=by
 rw [shS 254 rfl,aCw]
 unfold s254
 have ln : ∀ h,bM (.l c o2 len cap) h = some (.i .i64 (Int.ofNat len),h):=fun h=>rfl
 have e : (Int.ofNat 18 != Int.ofNat 18) = false:=rfl
 have d : decide (len ≤ p + 1) = false:=decide_eq_false (by omega)
 simp only [g0,g1,ixA p hp,bP,fld,Nat.add_zero,ldC hc h0 rfl,nK,e,nE,dK p 1 _ (by omega),ln,qE,dXj,d,dS,ixA (p + 1) hl,ldC hc h1 rfl,dTi ho,dL,eC]
theorem eKl (n : Nat) (h : Hp) : jX (n + 1) 222 [.i .i64 (Int.ofNat 16)] h = some (.b true,h):=by
 rw [shS 222 rfl,cKm]
 unfold s222
 have e : (Int.ofNat 16 == Int.ofNat 16) = true:=rfl
 simp only [g0,iX,e,bP,iP,dL]
theorem eYg (B : Nat) (hB : B ≤ 100000) (h : Hp) : dA .shl (.i .i64 (Int.ofNat B)) (.i .u64 (Int.ofNat 8)) h = some (.i .i64 (Int.ofNat (B * 256)),h):=by
 have e : IntKind.i64.wrap (Int.ofNat B * 2 ^ (min (Int.ofNat 8).toNat IntKind.i64.bits)) = Int.ofNat (B * 256):=by
  have e1 : (2 : Int) ^ (min (Int.ofNat 8).toNat IntKind.i64.bits) = 256:=by decide
  rw [e1]
  have e2 : Int.ofNat B * 256 = Int.ofNat (B * 256):=by simp [Int.ofNat_eq_natCast]
  rw [e2]
  exact kD _ (by simp only [Int.ofNat_eq_natCast]; omega)
 unfold dA
 dsimp only
 rw [if_neg (by decide),e]
theorem ePb {A B : Nat} (hA : A ≤ 100000) (hB : B ≤ 100000) (n : Nat) (h : Hp) :
  jX (n + 2) 156 [.a [.i .i64 (Int.ofNat 16),.i .i64 (Int.ofNat A),.i .i64 (Int.ofNat B)]] h = some (.i .i64 (Int.ofNat (A + B * 256)),⟨h.next.succ,Tr.set (.row .ex [.i .i64 (Int.ofNat 16),.i .i64 (Int.ofNat A),.i .i64 (Int.ofNat B)]) h.next h.bl⟩):=by
 rw [shS 156 rfl,cJj]
 unfold s156
 have bx : bZ (.a [.i .i64 (Int.ofNat 16),.i .i64 (Int.ofNat A),.i .i64 (Int.ofNat B)]) h = some (.p h.next 0,⟨h.next.succ,Tr.set (.row .ex [.i .i64 (Int.ofNat 16),.i .i64 (Int.ofNat A),.i .i64 (Int.ofNat B)]) h.next h.bl⟩):=Eq.trans rfl rfl
 have hrow : rowOf h.next ⟨h.next.succ,Tr.set (.row .ex [.i .i64 (Int.ofNat 16),.i .i64 (Int.ofNat A),.i .i64 (Int.ofNat B)]) h.next h.bl⟩ = some [.i .i64 (Int.ofNat 16),.i .i64 (Int.ofNat A),.i .i64 (Int.ofNat B)]:=by
  rw [cQ]
  show (match (Tr.set _ h.next h.bl).get h.next with | some (.row _ l)=>some l | _=>none) = _
  rw [fAx]
 have nt : ∀ h,eQ .not (.b true) h = some (.b false,h):=fun h=>Eq.trans rfl rfl
 simp only [g0,bx,bP,fld,Nat.zero_add,ldC hrow (q:=0) rfl rfl,eKl,nt,eF,ldC hrow (q:=1) rfl rfl,ldC hrow (q:=2) rfl rfl,eYg B hB,dK A (B * 256) _ (by omega)]
theorem dJp (hc : rowOf c h = some cs) {p A B : Nat} (hp : p < len) (hl : p + 1 < len) (hr : p < 1000000) (hA : A ≤ 100000) (hB : B ≤ 100000) (h0 : cs[o2 + p * 3]? = some (.i .i64 (Int.ofNat 18))) (h1 : cs[o2 + (p + 1) * 3]? = some (.i .i64 (Int.ofNat 16)))
  (h2 : cs[o2 + (p + 1) * 3 + 1]? = some (.i .i64 (Int.ofNat A))) (h3 : cs[o2 + (p + 1) * 3 + 2]? = some (.i .i64 (Int.ofNat B))) (n : Nat) :
  jX (n + 3) 254 [.l c o2 len cap,.i .i64 (Int.ofNat p)] h = some (.t [.i .i64 (Int.ofNat (A + B * 256)),.b (decide (p + 2 < A + B * 256))],⟨h.next.succ,Tr.set (.row .ex [.i .i64 (Int.ofNat 16),.i .i64 (Int.ofNat A),.i .i64 (Int.ofNat B)]) h.next h.bl⟩):=by
 rw [shS 254 rfl,aCw]
 unfold s254
 have ln : ∀ h,bM (.l c o2 len cap) h = some (.i .i64 (Int.ofNat len),h):=fun h=>rfl
 have e : (Int.ofNat 18 != Int.ofNat 18) = false:=rfl
 have e6 : (Int.ofNat 16 != Int.ofNat 16) = false:=rfl
 have d : decide (len ≤ p + 1) = false:=decide_eq_false (by omega)
 have la : aK 3 (.p c (o2 + (p + 1) * 3)) h = some (.a [.i .i64 (Int.ofNat 16),.i .i64 (Int.ofNat A),.i .i64 (Int.ofNat B)],h):=by
  rw [eH]
  dsimp only
  have hd : cs.drop (o2 + (p + 1) * 3) = .i .i64 (Int.ofNat 16) :: .i .i64 (Int.ofNat A) :: .i .i64 (Int.ofNat B) :: cs.drop (o2 + (p + 1) * 3 + 3):=by
   have st : ∀ (q : Nat) (v : DV),cs[q]? = some v → cs.drop q = v :: cs.drop (q + 1):=fun q v hq=>by
    obtain ⟨hq1,hq2⟩:=List.getElem?_eq_some_iff.1 hq
    rw [List.drop_eq_getElem_cons hq1,hq2]
   rw [st _ _ h1,st _ _ h2,st _ _ h3]
  have hce : cellsAt c (o2 + (p + 1) * 3) 3 h = some [.i .i64 (Int.ofNat 16),.i .i64 (Int.ofNat A),.i .i64 (Int.ofNat B)]:=by
   unfold cellsAt
   rw [hc]
   dsimp only
   rw [dropD_eq,hd]
   rfl
  rw [hce]
 simp only [g0,g1,ixA p hp,bP,fld,Nat.add_zero,ldC hc h0 rfl,nK,e,nE,dK p 1 _ (by omega),ln,qE,dXj,d,dS,ixA (p + 1) hl,ldC hc h1 rfl,e6,eF,la,ePb hA hB,dK p 2 _ (by omega),aCc,eWv]
theorem cJb (n : Nat) (hn : 3 ≤ n) (at' : Nat) (hat : at' ≤ 100000) : ∀ (m : Nat) (r : List DV) (p : Nat) (best : Int) (h : Hp) (x : DV × Hp),owL at' len b c m r p best h = some x → cs.drop (o2 + p * 3) = r → p ≤ 100000 → OwH b c o o2 len cap cs h →
  jI (jX n) n m (.i .i64 (Int.ofNat at')) (.p b o) (.i .i64 best) (.i .i64 (Int.ofNat p)) h = some x
 | 0,r,p,best,h,x,e,hr,hp1,O=>by cases e
 | m + 1,r,p,best,h,x,e,hr,hp1,O=>by
  obtain ⟨k,rfl⟩ : ∃ k,n = k + 3:=⟨n - 3,by omega⟩
  have ih : ∀ (r : List DV) (p : Nat) (best : Int) (h : Hp) (x : DV × Hp),owL at' len b c m r p best h = some x → cs.drop (o2 + p * 3) = r → p ≤ 100000 → OwH b c o o2 len cap cs h → jI (jX (k + 3)) (k + 3) m (.i .i64 (Int.ofNat at')) (.p b o) (.i .i64 best) (.i .i64 (Int.ofNat p)) h = some x:=cJb (k + 3) hn at' hat m
  show rP (jX (k + 3)) (k + 3) (jI (jX (k + 3)) (k + 3) m) _ _ _ _ h = some x
  change owB at' len b c (owL at' len b c m) r p best h = some x at e
  generalize owL at' len b c m = L at e ih
  unfold owB at e
  rcases kI e with ⟨q,e⟩ | ⟨q,e⟩
  ·have hpa : p + 2 ≤ at':=Nat.le_of_ble_eq_true q
   obtain ⟨a0,a1,a2,r1,er,e⟩:=aUp e
   obtain ⟨c0,c1,c2,hr1⟩:=dTb hr er
   obtain ⟨q1,e⟩:=aVe e
   have hpl:=oQ q1
   obtain ⟨op,rfl,e⟩:=oG e
   unfold rP
   simp only [dK p 2 _ (show p + 2 < 4611686018427387904 by omega),bP,aXn,eTn,decide_eq_true hpa,eC]
   unfold aLr
   have key : ∀ (v : DV) (t : Nat) (h1 : Hp),jX (k + 3) 254 [.l c o2 len cap,.i .i64 (Int.ofNat p)] h = some (.t [.i .i64 (Int.ofNat 0),.b false],h) →
     (bnd (aA (.p b o) h) fun v3 h3=>bnd (jX (k + 3) 254 [v3,.i .i64 (Int.ofNat p)] h3) fun v4 h4=>bnd (aF 0 v4 h4) fun v5 h5=>bnd (aF 1 v4 h5) fun v6 h6=>bnd (gD v6 true (some (.i .i64 (Int.ofNat at'),h6)) h6) fun v7 h7=>bnd (gD v6 true (some (v5,h7)) h7) fun v8 h8=>bnd (gD v6 true (aC .lss v7 v8 h8) h8) fun v9 h9=>bnd (aN v6 v9 (.b false) h9) fun v10 h10 =>
      aR v10 (lS (jX (k + 3)) (k + 3) (jI (jX (k + 3)) (k + 3) m) (.i .i64 (Int.ofNat at')) (.p b o) (.i .i64 (Int.ofNat p)) (.i .i64 (Int.ofNat p)) h10) (lS (jX (k + 3)) (k + 3) (jI (jX (k + 3)) (k + 3) m) (.i .i64 (Int.ofNat at')) (.p b o) (.i .i64 best) (.i .i64 (Int.ofNat p)) h10)) =
     jI (jX (k + 3)) (k + 3) m (.i .i64 (Int.ofNat at')) (.p b o) (.i .i64 best) (.i .i64 (Int.ofNat (p + 1))) h:=by
    intro _ _ _ hi
    have x0 : ∀ h,aF 0 (.t [.i .i64 (Int.ofNat 0),.b false]) h = some (.i .i64 (Int.ofNat 0),h):=fun h=>Eq.trans rfl rfl
    have x1 : ∀ h,aF 1 (.t [.i .i64 (Int.ofNat 0),.b false]) h = some (.b false,h):=fun h=>Eq.trans rfl rfl
    simp only [ldB O.hb,bP,hi,x0,x1,aFi,dS,eF]
    unfold lS
    simp only [dK p 1 _ (show p + 1 < 4611686018427387904 by omega),bP]
   rcases kI e with ⟨q2,e⟩ | ⟨q2,e⟩
   ·have o18 : op = 18:=Nat.eq_of_beq_eq_true q2
    subst o18
    rcases kI e with ⟨q3,e⟩ | ⟨q3,e⟩
    ·have hl : p + 1 < len:=oQ q3
     obtain ⟨b0,b1,b2,r2,er2,e⟩:=aUp e
     obtain ⟨d0,d1,d2,hr2⟩:=dTb hr1 er2
     obtain ⟨op2,rfl,e⟩:=oG e
     rcases kI e with ⟨q4,e⟩ | ⟨q4,e⟩
     ·have o16 : op2 = 16:=Nat.eq_of_beq_eq_true q4
      subst o16
      obtain ⟨A,rfl,e⟩:=oG e
      obtain ⟨B,rfl,e⟩:=oG e
      obtain ⟨qA,e⟩:=aVe e
      obtain ⟨qB,e⟩:=aVe e
      obtain ⟨qc,e⟩:=dRi e
      obtain ⟨qb,e⟩:=dRi e
      have hA:=Nat.le_of_ble_eq_true qA
      have hB:=Nat.le_of_ble_eq_true qB
      have O':=O.set (wW qc) (wW qb) (.row .ex [.i .i64 (Int.ofNat 16),.i .i64 (Int.ofNat A),.i .i64 (Int.ofNat B)])
      have hi:=dJp (cap:=cap) O.hc hpl hl (by omega) hA hB c0 d0 d1 d2 k
      have x0 : ∀ (a b : DV) h,aF 0 (.t [a,b]) h = some (a,h):=fun _ _ h=>Eq.trans rfl rfl
      have x1 : ∀ (a b : DV) h,aF 1 (.t [a,b]) h = some (b,h):=fun _ _ h=>Eq.trans rfl rfl
      simp only [ldB O.hb,bP,hi,x0,x1]
      rcases kI e with ⟨q5,e⟩ | ⟨q5,e⟩
      ·have h5 : p + 2 < A + B * 256:=oQ q5
       simp only [decide_eq_true h5,cMb,bP,jC,eZa,dL]
       rcases kI e with ⟨q6,e⟩ | ⟨q6,e⟩
       ·have h6 : at' < A + B * 256:=oQ q6
        simp only [decide_eq_true h6,eC]
        unfold lS
        simp only [dK p 1 _ (show p + 1 < 4611686018427387904 by omega),bP]
        exact ih r1 (p + 1) _ _ x e hr1 (by omega) O'
       ·have h6 : ¬ at' < A + B * 256:=by have:=uC q6; exact Nat.not_lt.2 this
        simp only [decide_eq_false h6,eF]
        unfold lS
        simp only [dK p 1 _ (show p + 1 < 4611686018427387904 by omega),bP]
        exact ih r1 (p + 1) _ _ x e hr1 (by omega) O'
      ·have h5 : ¬ p + 2 < A + B * 256:=by have:=uC q5; exact Nat.not_lt.2 this
       simp only [decide_eq_false h5,aFi,bP,dS,eF]
       unfold lS
       simp only [dK p 1 _ (show p + 1 < 4611686018427387904 by omega),bP]
       exact ih r1 (p + 1) _ _ x e hr1 (by omega) O'
     ·exact (key .u 0 h (cJt O.hc hpl hl (by omega) c0 d0 (aFs q4) (k + 2))).trans (ih r1 (p + 1) _ _ x e hr1 (by omega) O)
    ·exact (key .u 0 h (dEf O.hc hpl (uC q3) (by omega) c0 (k + 2))).trans (ih r1 (p + 1) _ _ x e hr1 (by omega) O)
   ·exact (key .u 0 h (dXq O.hc hpl c0 (aFs q2) (k + 2))).trans (ih r1 (p + 1) _ _ x e hr1 (by omega) O)
  ·have hpa : ¬ p + 2 ≤ at':=by have:=bTw q; exact Nat.not_le.2 this
   cases e
   unfold rP
   simp only [dK p 2 _ (show p + 2 < 4611686018427387904 by omega),bP,aXn,eTn,decide_eq_false hpa,eF]
   rfl
end
theorem eGn {m : Nat} {x0 x1 : DV} {h : Hp} {x : DV × Hp} (e : owF m x0 x1 h = some x) : s253 (jX m) m x0 x1 h = some x:=by
 unfold owF at e
 obtain ⟨q,e⟩:=aVe e
 obtain ⟨at',rfl,e⟩:=oG e
 obtain ⟨q1,e⟩:=aVe e
 obtain ⟨b,o,rfl,e⟩:=cGq e
 obtain ⟨l,hl,e⟩:=aRu e
 obtain ⟨c,o2,len,cap,rfl,e⟩:=cHn e
 obtain ⟨cs,hc,e⟩:=aRu e
 have hm : 3 ≤ m:=by have:=Nat.le_of_ble_eq_true q; omega
 exact cJb (b:=b) (c:=c) (o:=o) (o2:=o2) (len:=len) (cap:=cap) (cs:=cs) m hm at' (Nat.le_of_ble_eq_true q1) m _ 0 _ h x e (by simp) (by omega) ⟨hl,hc⟩
def owX (ih : RT) (m : Nat) (args : List DV) (h : Hp) : aH:=Option.rec (motive:=fun _=>aH) (s253 ih m (aP args 0) (aP args 1) h) (fun r=>some r) (owF m (aP args 0) (aP args 1) h)
theorem dTu (m : Nat) (args : List DV) (h : Hp) : owX (jX m) m args h = aI CF (jX m) m 253 args h:=by
 unfold owX
 cases e : owF m (aP args 0) (aP args 1) h with
 | none =>
  dsimp only
  rw [aD args 0,aD args 1]
  exact (bCg (jX m) m args h).symm
 | some r =>
  dsimp only
  rw [← eGn e,aD args 0,aD args 1]
  exact (bCg (jX m) m args h).symm
def shF (n : Nat) : RT :=
 Nat.rec (motive:=fun _=>RT) (fun _ _ _=>none) (fun m ih=>fun f args h=>cdR (Nat.beq f 253) (owX ih m args h) (cdR (rgB f) (rgS ih m f args h) (shB ih m f args h))) n
theorem bAf : ∀ n,shF n = jX n
 | 0=>rfl
 | n + 1=>by
  funext f args h
  show cdR (Nat.beq f 253) (owX (shF n) n args h) (cdR (rgB f) (rgS (shF n) n f args h) (shB (shF n) n f args h)) = _
  rw [bAf n]
  cases e : Nat.beq f 253 with
  | true =>
   cases Nat.eq_of_beq_eq_true e
   show owX (jX n) n args h = _
   rw [dTu]
   exact (aDi 253 rfl n args h).symm
  | false =>
   show cdR (rgB f) (rgS (jX n) n f args h) (shB (jX n) n f args h) = (bif rgB f then rgS (jX n) n f args h else shB (jX n) n f args h)
   cases rgB f <;> rfl
def aAu (n : Nat) : RT:=fun g args h=>cdR (Nat.beq g 11) (dMc args h) (shF n g args h)
theorem aGo (n : Nat) : aAu n = bUb n:=by
 funext g args h
 rw [bGo]
 unfold aAu
 rw [bAf]
 cases Nat.beq g 11 <;> rfl
end Go.Dd

namespace Go.Dd
open Go.Proofs
def aFz (n : Nat) : RT:=fun g=>bif Nat.beq g 11 then cRp else fU CF1 (n + 12) g
theorem cBk (n : Nat) : OkC CF1 (aFz n):=by
 refine ⟨aIi,fun G g => ?_⟩
 unfold aFz
 cases hg : Nat.beq g 11 with
 | true=>cases Nat.eq_of_beq_eq_true hg; exact cVa G
 | false=>exact bAe (n + 12) G g
theorem bYw (n : Nat) (g : FuncId) (args : List DV) : SimP false (bUb n g args) (aFz n g args):=by
 intro h h' S
 rw [bGo]
 unfold aFz
 cases hg : Nat.beq g 11 with
 | false =>
  rw [cond_false,cond_false,zG]
  exact aYi n g args h h' S
 | true=>exact bZh args h h' S
theorem eQl (n : Nat) : Two n (bUb n) (aFz n) where
 ok:=cBk n
 sim:=bYw n
 own g F h1 h2 args:=by
  unfold aFz
  cases h10 : Nat.beq g 11 with
  | true =>
   cases Nat.eq_of_beq_eq_true h10
   exact absurd h2 (by show ¬ CF.I 11 = some F; exact fun e=>by cases e)
  | false=>rfl
def aUy (s : List Nat) (fuel e : Nat) (look text shown : List Nat) (left : Nat) : List DV × DV :=
 ([.s s,.i .i64 (.ofNat fuel)],.t [.a [.i .i64 (.ofNat e),.s look,.s text,.s shown,.i .i64 (.ofNat left)],.b true])
def uX (s a b : List Nat) : List DV × DV:=([.s s],.t [.s a,.s b])
def jU (f : FuncId) (p : Pos) (e : List DV × DV) : Bool:=isV e.2 (aI CF (aAu 4000) 4000 f e.1 ⟨p,.e⟩)
def dQ (f : FuncId) (e : List DV × DV) : Prop:=(∃ p k,aI CF (bUb 4000) 4000 f e.1 ⟨p,.e⟩ = some (e.2,k)) ∧ PlVs e.1 ∧ PlV e.2
theorem bTf {s look text shown : List Nat} {fuel e left : Nat} {p : Pos} (h : jU 7 p (aUy s fuel e look text shown left) = true) : dQ 7 (aUy s fuel e look text shown left):=by
 obtain ⟨k,hk⟩:=aQv h
 rw [aGo] at hk
 exact ⟨⟨_,k,hk⟩,.cons (.ofS _) (.cons (.ofI _ _) .nil),.ofT (.cons (.ofA (.cons (.ofI _ _) (.cons (.ofS _) (.cons (.ofS _) (.cons (.ofS _) (.cons (.ofI _ _) .nil)))))) (.cons (.ofB _) .nil))⟩
theorem kH {s a b : List Nat} {p : Pos} (h : jU 10 p (uX s a b) = true) : dQ 10 (uX s a b):=by
 obtain ⟨k,hk⟩:=aQv h
 rw [aGo] at hk
 exact ⟨⟨_,k,hk⟩,.cons (.ofS _) .nil,.ofT (.cons (.ofS _) (.cons (.ofS _) .nil))⟩
end Go.Dd

namespace Go.Dd
open Go.Proofs
def kT (left : Bool) (k : Nat) : List Nat:=Nat.rec (motive:=fun _=>List Nat) (bif left then [94,55,55] else [55,55]) (fun i s=>91 :: s ++ [93,32,101,110,115,117,114,101,58,32,91] ++ [48 + (i + 1) % 10] ++ [32,115,104,111,119,93]) k
def dNa (k : Nat) : List Nat:=Nat.rec (motive:=fun _=>List Nat) [] (fun i s=>s ++ [48 + (i + 1) % 10]) k
def bC (left : Bool) (k : Nat) : List DV × DV:=aUy (kT left k) 1000 0 [55,55] [] (dNa k) (998 - (bif left then 10 else 21) * k)
def cIt : List DV × DV:=uX [51,32,43,32,52] [55] []
def cLb : List DV × DV:=uX [91,58,120,32,124,32,120,32,42,32,120,93,32,118,97,108,117,101,58,32,53] [50,53] []
def cLp : List DV × DV:=uX [124,32,98,32,124,32,98,32,58,61,32,91,94,51,93,46,32,98,32,118,97,108,117,101,46,32,52] [51] []
def cTu : List DV × DV:=uX [51,32,102,111,111] [100,111,101,115,78,111,116,85,110,100,101,114,115,116,97,110,100,58,32,35,102,111,111] []
def cMh : List DV × DV:=uX [91,49,32,101,114,114,111,114,58,32,39,120,39,93,32,101,110,115,117,114,101,58,32,91,50,32,115,104,111,119,93] [101,114,114,111,114,58,32,39,120,39] []
def cDg : List DV × DV:=uX [91,94,49,93,32,101,110,115,117,114,101,58,32,91,50,32,115,104,111,119,93] [49] [50]
def aSa : List (List DV × DV):=[cIt,cLb,cLp,cTu,cMh,cDg]
def aAo : List (List DV × DV):=[bC false 0,bC false 1,bC false 2,bC false 3,bC false 4,bC false 5,bC false 6,bC false 7,bC false 8,bC false 9,bC false 10,bC false 11,bC false 12,bC true 0,bC true 1,bC true 2,bC true 3,bC true 4,bC true 5,bC true 6,bC true 7,bC true 8,bC true 9,bC true 10,bC true 11,bC true 12]
theorem dF {left : Bool} {k : Nat} {p : Pos} (h : jU 7 p (bC left k) = true) : dQ 7 (bC left k):=bTf h
end Go.Dd

namespace Go.Dd
open Go.Proofs
theorem eAh : jU 10 (aL 1) cIt = true:=by kernel_rfl
theorem dVu : jU 10 (aL 1) cLb = true:=by kernel_rfl
theorem eCo : jU 10 (aL 1) cLp = true:=by kernel_rfl
theorem dWq : jU 10 (aL 1) cTu = true:=by kernel_rfl
theorem eHx : jU 10 (aL 1) cMh = true:=by kernel_rfl
theorem dWi : jU 10 (aL 1) cDg = true:=by kernel_rfl
theorem dTt : ∀ e ∈ aSa,dQ 10 e:=by
 intro e he
 simp only [aSa,List.mem_cons,List.not_mem_nil,or_false] at he
 rcases he with rfl | rfl | rfl | rfl | rfl | rfl
 ·exact kH eAh
 ·exact kH dVu
 ·exact kH eCo
 ·exact kH dWq
 ·exact kH eHx
 ·exact kH dWi
end Go.Dd

namespace Go.Dd
open Go.Proofs
def cCm : RT:=bVz 10 aSa (jX 4000)
theorem eSe : Two 4000 cCm (aSr 10 aSa (fU CF1 (4000 + 12))) :=
 fCe (eQl 4000) (eQk 4000) 4000 10 aSa rfl Tryz.f10 Tryz.func10 (by kernel_rfl) dTt
def bHq : List DV × DV:=([],.b true)
theorem eDf : isV (.b true) (aI CF cCm 4000 6 [] hS) = true:=by kernel_rfl
theorem eHh : ∀ e ∈ [bHq],(∃ p k,aI CF cCm 4000 6 e.1 ⟨p,.e⟩ = some (e.2,k)) ∧ PlVs e.1 ∧ PlV e.2:=by
 intro e he
 simp only [List.mem_cons,List.not_mem_nil,or_false] at he
 subst he
 obtain ⟨k,hk⟩:=bEe eDf
 exact ⟨⟨_,k,hk⟩,.nil,.ofB _⟩
def dRo : RT:=bVz 6 [bHq] (jX 4000)
def cKh : RT:=aSr 6 [bHq] (fU CF1 (4000 + 12))
theorem eSx : Two 4000 dRo cKh :=
 fCe eSe (eQk 4000) 4000 6 [bHq] rfl Tryz.f6 Tryz.func6 (by kernel_rfl) eHh
theorem dMv (a b : Nat) (h : Hp) (hb : b ≠ 0) : aC .rem (.i .i64 (Int.ofNat a)) (.i .i64 (Int.ofNat b)) h = some (.i .i64 (Int.ofNat (a % b)),h):=by
 have : ¬ (Int.ofNat b = 0):=by simpa using hb
 simp only [dT,if_true,gG,if_neg this]
 rfl
theorem cZg {n : Int} (hn : -9223372036854775808 ≤ n ∧ n ≤ 9223372036854775807) (c : n < 0) (h : Hp) : eQ .neg (.i .i64 (n + Int.ofNat 1)) h = some (.i .i64 (Int.ofNat (-(n + 1)).toNat),h):=by
 show some (DV.i .i64 (IntKind.i64.wrap (0 - (n + Int.ofNat 1))),h) = _
 rw [kD _ (show -9223372036854775808 ≤ 0 - (n + Int.ofNat 1) ∧ 0 - (n + Int.ofNat 1) ≤ 9223372036854775807 by rw [show (Int.ofNat 1 : Int) = 1 from rfl]; omega)]
 rw [show (0 - (n + Int.ofNat 1) : Int) = Int.ofNat (-(n + 1)).toNat by rw [show (Int.ofNat 1 : Int) = 1 from rfl,Int.ofNat_eq_natCast]; omega]
theorem dVf {n : Int} (hn : -9223372036854775808 ≤ n ∧ n ≤ 9223372036854775807) (F : DV → Hp → aH) (h : Hp) :
  ∃ m : Nat,(bnd (aC .lss (.i .i64 n) (.i .i64 (Int.ofNat 0)) h) fun v1 h1=>aR v1 (bnd (aC .add (.i .i64 n) (.i .i64 (Int.ofNat 1)) h1) fun v2 h2=>bnd (eQ .neg v2 h2) fun v3 h3=>F v3 h3) (F (.i .i64 n) h1)) = F (.i .i64 (Int.ofNat m)) h:=by
 by_cases c : n < 0
 ·refine ⟨(-(n + 1)).toNat, ?_⟩
  have d : decide (n < Int.ofNat 0) = true:=decide_eq_true c
  simp only [jC,d,bP,eC,tH n _ _ (show -9223372036854775808 ≤ n + Int.ofNat 1 ∧ n + Int.ofNat 1 ≤ 9223372036854775807 by rw [show (Int.ofNat 1 : Int) = 1 from rfl]; omega),cZg hn c]
 ·refine ⟨n.toNat, ?_⟩
  have d : decide (n < Int.ofNat 0) = false:=decide_eq_false c
  have e : n = Int.ofNat n.toNat:=by rw [Int.ofNat_eq_natCast]; omega
  simp only [jC,d,bP,eF]
  rw [← e]
end Go.Dd

namespace Go.Dd
open Go.Proofs
def aUd (rec : RT) (n : Nat) (x0 x1 : DV) (k : DV → DV → DV → Hp → aH) (h0 : Hp) : aH :=
 bnd (bQ [(.i .i64 (Int.ofNat 0)),(.s []),(.s []),(.s []),(.i .i64 (Int.ofNat 0))] h0) fun v1 h1 =>
 bnd (rec 11 [(.i .i64 (Int.ofNat 30000))] h1) fun v2 h2 =>
 bnd (aF 0 v2 h2) fun v3 h3 =>
 bnd (aF 1 v2 h3) fun v4 h4 =>
 bnd (pEq (.pointer 62) true v3 .p0 h4) fun v5 h5 =>
 bnd (gD v5 false (some (v4,h5)) h5) fun v6 h6 =>
 bnd (gD v5 false (aC .neq v6 (.i .i64 (Int.ofNat 0)) h6) h6) fun v7 h7 =>
 bnd (aN v5 (.b true) v7 h7) fun v8 h8 =>
 aR v8 (
  bnd (aY [(.i .i64 (Int.ofNat 0)),(.s []),(.s []),(.s []),(.i .i64 (Int.ofNat 0))] [] h8) fun v9 h9 =>
  bnd (aJ 5 v1 v9 h9) fun _ h10 =>
  bnd (aK 5 v1 h10) fun v11 _ =>
  some (.t [v11,(.b false)],h10)) (
  bnd (rec 12 [v3] h8) fun v12 h12 =>
  bnd (aY [(.i .i64 (Int.ofNat 0)),(.s []),(.s []),.l0,(.s []),(.s []),(.i .i64 (Int.ofNat 0)),(.i .i64 (Int.ofNat 0)),(.i .i64 (Int.ofNat 0)),.l0,.l0,(.i .i64 (Int.ofNat 0))] [(0,1,(.i .i64 (Int.ofNat 2))),(4,1,x0)] h12) fun v13 h13 =>
  bnd (rec 13 [v13] h13) fun v14 h14 =>
  bnd (aF 0 v14 h14) fun v15 h15 =>
  bnd (aF 1 v14 h15) fun v16 h16 =>
  bnd (bQ [(.s []),(.i .i64 (Int.ofNat 0)),(.i .i64 (Int.ofNat 0)),(.i .i64 (Int.ofNat 0)),.l0,.l0] h16) fun v17 h17 =>
  bnd (aJ 6 v17 v15 h17) fun _ h18 =>
  bnd (pEq (.pointer 83) true v12 .p0 h18) fun v19 h19 =>
  bnd (gD v19 false (some (v16,h19)) h19) fun v20 h20 =>
  bnd (gD v19 false (eQ .not v20 h20) h20) fun v21 h21 =>
  bnd (aN v19 (.b true) v21 h21) fun v22 h22 =>
  bnd (gD v22 false (some (v12,h22)) h22) fun v23 h23 =>
  bnd (gD v22 false (aK 6 v17 h23) h23) fun v24 h24 =>
  bnd (gD v22 false (some (x1,h24)) h24) fun v25 h25 =>
  bnd (gD v22 false (rec 14 [v23,v24,v25] h25) h25) fun v26 h26 =>
  bnd (gD v22 false (aC .neq v26 (.i .i64 (Int.ofNat 0)) h26) h26) fun v27 h27 =>
  bnd (aN v22 (.b true) v27 h27) fun v28 h28 =>
  aR v28 (
   bnd (aY [(.i .i64 (Int.ofNat 0)),(.s []),(.s []),(.s []),(.i .i64 (Int.ofNat 0))] [] h28) fun v29 h29 =>
   bnd (aJ 5 v1 v29 h29) fun _ h30 =>
   bnd (aK 5 v1 h30) fun v31 _ =>
   some (.t [v31,(.b false)],h30)) (
   k v1 v3 v12 h28))
def aUm (rec : RT) (v1 v3 v12 : DV) (h28 : Hp) : aH :=
 bnd (rec 15 [v12] h28) fun v32 h32 =>
 bnd (rec 16 [v3,v12] h32) fun v33 h33 =>
 bnd (aJ 5 v1 v33 h33) fun _ h34 =>
 bnd (aK 5 v1 h34) fun v35 _ =>
 some (.t [v35,(.b true)],h34)
theorem dWu (rec : RT) (n : Nat) (x0 x1 : DV) (h0 : Hp) : s7 rec n x0 x1 h0 = aUd rec n x0 x1 (aUm rec) h0:=rfl
def dXn : DV → DV → DV → Hp → aH:=fun a b c h=>some (.t [a,b,c],h)
theorem oM {r : aH} {k : DV → Hp → aH} {x : DV × Hp} (e : bnd r k = some x) : ∃ v h,r = some (v,h) ∧ k v h = some x:=by
 cases r with
 | none=>cases e
 | some p=>exact ⟨p.1,p.2,rfl,e⟩
theorem bJl {c : DV} {a b : aH} {x : DV × Hp} (e : aR c a b = some x) : (c = .b true ∧ a = some x) ∨ (c = .b false ∧ b = some x):=by
 cases c <;> (try (cases e; done))
 rename_i t
 cases t
 ·exact .inr ⟨rfl,e⟩
 ·exact .inl ⟨rfl,e⟩
theorem cPm {rec : RT} {n : Nat} {x0 x1 a b c : DV} {h0 g : Hp} (e : aUd rec n x0 x1 dXn h0 = some (.t [a,b,c],g)) (k : DV → DV → DV → Hp → aH) : aUd rec n x0 x1 k h0 = k a b c g:=by
 have bad : ∀ {z v1 : DV} {h : Hp},¬ (bnd (aY [(.i .i64 (Int.ofNat 0)),(.s []),(.s []),(.s []),(.i .i64 (Int.ofNat 0))] [] h) fun v9 h9=>bnd (aJ 5 v1 v9 h9) fun _ h10=>bnd (aK 5 v1 h10) fun v11 _=>some (.t [v11,(.b false)],h10)) = some (.t [a,b,c],g):=by
  intro z v1 h e
  obtain ⟨_,_,_,e⟩:=oM e
  obtain ⟨_,_,_,e⟩:=oM e
  obtain ⟨_,_,_,e⟩:=oM e
  cases e
 unfold aUd at e ⊢
 iterate 8
  (obtain ⟨_,_,r,e⟩:=oM e; rw [r,bP]; clear r)
 rcases bJl e with ⟨_,e2⟩ | ⟨hc,e2⟩
 ·exact absurd e2 (bad (z:=.u))
 rw [hc,eF]
 clear e hc
 iterate 17
  (obtain ⟨_,_,r,e2⟩:=oM e2; rw [r,bP]; clear r)
 rcases bJl e2 with ⟨_,e3⟩ | ⟨hc,e3⟩
 ·exact absurd e3 (bad (z:=.u))
 rw [hc,eF]
 unfold dXn at e3
 cases e3
 rfl
def bBd (x : DV) : Bool:=DV.rec (motive_1:=fun _=>Bool) (motive_2:=fun _=>PUnit) true (fun _=>false) (fun _ _=>false) (fun _=>false) false (fun _ _=>false) false (fun _ _ _ _=>false) (fun _ _ _ _=>false) false false (fun _=>false) false (fun _ _ _ _ _=>false) false (fun _ _ _=>false) (fun _ _=>false) (fun _ _=>false) (fun _=>false) PUnit.unit (fun _ _ _ _=>PUnit.unit) x
theorem bFs {x : DV} (h : bBd x = true) : x = .u:=by cases x <;> first | rfl | cases h
def bWx (l : List DV) : List DV → Bool:=List.rec (motive:=fun _=>List DV → Bool) (fun m=>List.rec (motive:=fun _=>Bool) true (fun _ _ _=>false) m)
 (fun x _ ih m=>List.rec (motive:=fun _=>Bool) false (fun y m _=>Bool.rec (motive:=fun _=>Bool) (Bool.rec (motive:=fun _=>Bool) false (Bool.rec (motive:=fun _=>Bool) false (ih m) (bBd y)) (bBd x)) (ih m) (DV.beq x y)) m) l
theorem xB : ∀ {l m : List DV},bWx l m = true → l = m
 | [],[],_=>rfl
 | [],_ :: _,h=>by cases h
 | _ :: _,[],h=>by cases h
 | x :: l,y :: m,h=>by
  change (Bool.rec (motive:=fun _=>Bool) (Bool.rec (motive:=fun _=>Bool) false (Bool.rec (motive:=fun _=>Bool) false (bWx l m) (bBd y)) (bBd x)) (bWx l m) (DV.beq x y)) = true at h
  cases e : DV.beq x y with
  | true =>
   rw [e] at h
   rw [fBs x y e,xB h]
  | false =>
   rw [e] at h
   cases e1 : bBd x with
   | false=>rw [e1] at h; cases h
   | true =>
    cases e2 : bBd y with
    | false=>rw [e1,e2] at h; cases h
    | true =>
     rw [e1,e2] at h
     rw [bFs e1,bFs e2,xB h]
def dRg : Kind → Kind → Bool
 | .ro,.ro=>true
 | .ex,.ex=>true
 | .gr a,.gr b=>Nat.beq a b
 | .sp,.sp=>true
 | _,_=>false
theorem cJp {a b : Kind} (h : dRg a b = true) : a = b:=by
 cases a <;> cases b <;> first | rfl | (cases h; done) | (cases Nat.eq_of_beq_eq_true h; rfl)
def eGe (l : List (DV × DV)) : List (DV × DV) → Bool:=List.rec (motive:=fun _=>List (DV × DV) → Bool) (fun m=>List.rec (motive:=fun _=>Bool) true (fun _ _ _=>false) m)
 (fun x _ ih m=>List.rec (motive:=fun _=>Bool) false (fun y m _=>DV.beq x.1 y.1 && (DV.beq x.2 y.2 && ih m)) m) l
theorem bHg : ∀ {l m : List (DV × DV)},eGe l m = true → l = m
 | [],[],_=>rfl
 | [],_ :: _,h=>by cases h
 | _ :: _,[],h=>by cases h
 | x :: l,y :: m,h=>by
  change (DV.beq x.1 y.1 && (DV.beq x.2 y.2 && eGe l m)) = true at h
  simp only [Bool.and_eq_true] at h
  rw [bHg h.2.2,Prod.ext (fBs _ _ h.1) (fBs _ _ h.2.1)]
def obQ (o p : Ob) : Bool:=match o,p with
 | .row k l,.row k' m=>dRg k k' && bWx l m
 | .mp l,.mp m=>eGe l m
 | .big n t,.big m u=>Nat.beq n m && wtE t u
 | .mi t,.mi u=>wtE t u
 | _,_=>false
theorem dVn (o p : Ob) (h : obQ o p = true) : o = p:=by
 unfold obQ at h
 split at h
 ·simp only [Bool.and_eq_true] at h; rw [cJp h.1,xB h.2]
 ·rw [bHg h]
 ·simp only [Bool.and_eq_true] at h; rw [Nat.eq_of_beq_eq_true h.1,uA _ _ h.2]
 ·rw [uA _ _ h]
 ·cases h
def cGs (g : Tr Ob) (l : List (Pos × Ob)) : Bool:=List.rec (motive:=fun _=>Bool) true (fun x _ ih=>(match g.get x.1 with
 | some o=>obQ o x.2
 | none=>false) && ih) l
theorem aTi (t : Tr Ob) : ∀ l : List (Pos × Ob),cGs t l = true → ∀ x ∈ l,t.get x.1 = some x.2
 | [],_,x,hx=>by cases hx
 | y :: l,h,x,hx=>by
  change ((match t.get y.1 with | some o=>obQ o y.2 | none=>false) && cGs t l) = true at h
  simp only [Bool.and_eq_true] at h
  rcases List.mem_cons.1 hx with rfl | hx
  ·cases e : t.get x.1 with
   | none=>rw [e] at h; cases h.1
   | some o=>rw [e] at h; rw [dVn _ _ h.1]
  ·exact aTi t l h.2 x hx
def eGz (r : aH) (vs : List DV) (nx : Nat) (l : List (Pos × Ob)) : Bool:=match r with
 | some (.t us,g)=>bWx us vs && (kC g.next (aL nx) && cGs g.bl l)
 | _=>false
theorem cOt {r : aH} {vs : List DV} {nx : Nat} {l : List (Pos × Ob)} (h : eGz r vs nx l = true) : ∃ g,r = some (.t vs,g) ∧ Sim true (iM nx l) g:=by
 unfold eGz at h
 split at h <;> (try (cases h; done))
 rename_i us g
 simp only [Bool.and_eq_true] at h
 refine ⟨g,by rw [xB h.1], ?_,fun b o hb=>⟨o, ?_,kV o⟩⟩
 ·exact lF _ _ h.2.1
 ·exact aTi _ _ h.2.2 (b,o) (aDh _ _ _ hb)
theorem aUt (n : Nat) (g : FuncId) (hg : Nat.beq g 11 = false) (args : List DV) : SimP true (aAu n g args) (aAu n g args):=by
 intro h h' S
 unfold aAu
 rw [hg,bAf]
 exact aGf n g args h h' S
theorem bSb (n : Nat) (v1 v3 v12 : DV) : SimP true (aUm (aAu n) v1 v3 v12) (aUm (aAu n) v1 v3 v12):=by
 intro h h' S
 unfold aUm
 refine fBc (aUt n 15 rfl _ h h' S) fun v => ?_
 intro h h' S
 refine fBc (aUt n 16 rfl _ h h' S) fun v => ?_
 intro h h' S
 refine fBc (eW 5 _ _ h h' S) fun v => ?_
 intro h h' S
 obtain ho:=jB (g:=true) 5 v1 h h' S
 intro u k e
 obtain ⟨v,h2,r,e⟩:=oM (r:=aK 5 v1 h) e
 obtain ⟨k',r',S'⟩:=ho v h2 r
 cases e
 refine ⟨h', ?_,S⟩
 show bnd (aK 5 v1 h') _ = _
 rw [r',bP]
def aEy (n : Nat) (l : List DV) : List DV:=Nat.rec (motive:=fun _=>List DV) [] (fun _ ih=>l ++ ih) n
def vM (x0 x1 : DV) (vs : List DV) (nx : Nat) (l : List (Pos × Ob)) : Bool:=eGz (aUd (aAu 4000) 4000 x0 x1 dXn ⟨aL 0,.e⟩) vs nx l
def vO (v : DV) (a b c : DV) (nx : Nat) (l : List (Pos × Ob)) : Bool:=isV v (aUm (aAu 4000) a b c (iM nx l))
theorem dGv {x0 x1 v a b c : DV} {nx : Nat} {l : List (Pos × Ob)} (h1 : vM x0 x1 [a,b,c] nx l = true) (h2 : vO v a b c nx l = true) : ∃ k,aI CF (bUb 4000) 4000 7 [x0,x1] ⟨aL 0,.e⟩ = some (v,k):=by
 obtain ⟨g,e1,S⟩:=cOt h1
 obtain ⟨k,e2⟩:=aQv h2
 obtain ⟨k',e3,_⟩:=bSb 4000 a b c _ g S v k e2
 refine ⟨k', ?_⟩
 rw [← aGo,eJc]
 show s7 (aAu 4000) 4000 x0 x1 _ = _
 rw [dWu,cPm e1]
 exact e3
theorem gR {s look text shown : List Nat} {fuel e left : Nat} {a b c : DV} {nx : Nat} {l : List (Pos × Ob)} (h1 : vM (.s s) (.i .i64 (.ofNat fuel)) [a,b,c] nx l = true) (h2 : vO (aUy s fuel e look text shown left).2 a b c nx l = true) : dQ 7 (aUy s fuel e look text shown left):=by
 obtain ⟨k,hk⟩:=dGv h1 h2
 exact ⟨⟨_,k,hk⟩,.cons (.ofS _) (.cons (.ofI _ _) .nil),.ofT (.cons (.ofA (.cons (.ofI _ _) (.cons (.ofS _) (.cons (.ofS _) (.cons (.ofS _) (.cons (.ofI _ _) .nil)))))) (.cons (.ofB _) .nil))⟩
end Go.Dd

end
