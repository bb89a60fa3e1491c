/- A part of the proof: ON OF GZ LB LC OQ LS OX R12 RX W6 XW LD LE LF LI LJ LK: each text has a comment of its own. -/
import Derived.Test.YtjfmbeinhhdapaaGreatDoorPE8
import Derived.Tactics
import Derived.Tactics2
import Derived.Defers
import Derived.Laws.Pointers
import Derived.Laws.LoneSync
import Derived.RegionTactic
import Derived.RegionCalls
import Derived.ChangeAlike
import Derived.Laws.NewBlocks
import Derived.Lib.Bytealg
import Derived.Test.YtjfmbeinhhdapaaGreatDoorRows
import Derived.Test.YtjfmbeinhhdapaaGreatDoorCards
import Derived.WalkKit
import Derived.ProofKit
import Derived.OpenShut
import Derived.Carry
import Derived.Lib.LaidU8
import Derived.Lay
import Derived.LaidOnce
import Derived.SevenTiedAt
import Derived.ChangeMaps5
import Derived.Test.YtjfmbeinhhdapaaGreatDoorPEtT
set_option linter.unusedVariables false
set_option linter.unusedSimpArgs false
set_option linter.constructorNameAsVariable false
set_option maxRecDepth 100000
noncomputable section
namespace Go.Proofs.Onc
theorem disable (w : World) : (callFunc 320 #[]).run Tryz.prog w = .ok (.value (.tuple #[])) w:=run_call_mark0 Tryz.func320 (by kernel_rfl) (by kernel_rfl) (by kernel_rfl) .disable (by kernel_rfl) w
theorem enable (w : World) : (callFunc 322 #[]).run Tryz.prog w = .ok (.value (.tuple #[])) w:=run_call_mark0 Tryz.func322 (by kernel_rfl) (by kernel_rfl) (by kernel_rfl) .enable (by kernel_rfl) w
theorem acquire (a : Addr) (w : World) : (callFunc 323 #[.pointer (some a)]).run Tryz.prog w = .ok (.value (.tuple #[])) w:=run_call_marked Tryz.func323 (by kernel_rfl) (by kernel_rfl) (by kernel_rfl) .acquire (by kernel_rfl) a w
theorem releaseMerge (a : Addr) (w : World) : (callFunc 325 #[.pointer (some a)]).run Tryz.prog w = .ok (.value (.tuple #[])) w:=run_call_marked Tryz.func325 (by kernel_rfl) (by kernel_rfl) (by kernel_rfl) .releaseMerge (by kernel_rfl) a w
set_option maxRecDepth 100000 in
set_option maxHeartbeats 1600000 in
theorem aAo (a : Addr) (x : Value) (u : FrameMode) (w : World) (hc : w.cell? a = some x) (hz : w.frozen? a = false) :
  CallsD Tryz.prog 189 #[.pointer (some a),.bool true] u w fun e u' w'=>u' = u ∧ (e = .returned (.tuple #[]) ∧ w' = w.drew.setCell a (.int .u32 1)):=by
 have hc' : w.drew.cell? a = some x:=by go_simp
 have hz' : w.drew.frozen? a = false:=by go_simp
 have hst:=run_call_store (P:=Tryz.prog) Tryz.func265 (by kernel_rfl) (by kernel_rfl) (by kernel_rfl) (by kernel_rfl) (k:=.u32) (y:=1) hc' hz'
 go_enter_d Tryz.func189,Tryz.ntmps189
 go_wp2
 go_region_calls
 all_goals (go_end0; exact ⟨rfl,rfl⟩)
set_option maxRecDepth 100000 in
set_option maxHeartbeats 1600000 in
theorem vQ (a : Addr) (u : FrameMode) (w : World) (hc : w.cell? a = some (.int .i32 1)) (hz : w.frozen? a = false) :
  CallsD Tryz.prog 188 #[.pointer (some a)] u w fun e u' w'=>u' = u ∧ (e = .returned (.tuple #[]) ∧ w' = w.setCell a (.int .i32 0)):=by
 have hd:=disable
 have he:=enable
 have hr:=releaseMerge
 have hadd:=run_call_add (P:=Tryz.prog) Tryz.func326 (by kernel_rfl) (by kernel_rfl) (by kernel_rfl) .i32 (by kernel_rfl) (y := -1) (s:=0) hc hz (by simp [go_sem]; rfl)
 have hcv:=run_convert_to_unsafe (P:=Tryz.prog) (src:=394) (dst:=166) Tryz.underlying394 Tryz.underlying166 (by kernel_rfl) hc
 go_enter_d Tryz.func188,Tryz.ntmps188
 go_wp2
 go_end0
 go_wp2
 go_end0
 exact ⟨rfl,rfl⟩
set_option maxRecDepth 100000 in
set_option maxHeartbeats 1600000 in
theorem bFd (a : Addr) (w : World) (hc : w.cell? a = some (.int .i32 0)) (hz : w.frozen? a = false) :
  Calls Tryz.prog 187 #[.pointer (some a)] w fun e w'=>e = .returned (.tuple #[]) ∧ w' = w.setCell a (.int .i32 1):=by
 have hd:=disable
 have he:=enable
 have ha:=acquire
 have hcas:=run_call_cas_hit (P:=Tryz.prog) Tryz.func321 (by kernel_rfl) (by kernel_rfl) (by kernel_rfl) .i32 (by kernel_rfl) (y:=1) hc hz
 have hc' : (w.setCell a (.int .i32 1)).cell? a = some (.int .i32 1):=World.cell?_setCell_same w a _ hc
 have hcv:=run_convert_to_unsafe (P:=Tryz.prog) (src:=394) (dst:=166) Tryz.underlying394 Tryz.underlying166 (by kernel_rfl) hc'
 go_enter Tryz.func187,Tryz.ntmps187
 go_wp2
 first | go_end0 | (simp only [Exit.inBlock,Exit.then]; refine bodyPost_ret (results_none rfl _ _ _) rfl ?_) | refine bodyPost_ret (results_none rfl _ _ _) rfl ?_
 go_wp2
 go_end0
 exact ⟨rfl,rfl⟩
structure Held (b off : Nat) (w : World) : Prop where
 done : ∃ x,w.cell? ⟨b,off,none⟩ = some x
 lock : w.cell? ⟨b,off + 1,none⟩ = some (.int .i32 1)
 f0 : w.frozen? ⟨b,off,none⟩ = false
 f1 : w.frozen? ⟨b,off + 1,none⟩ = false
set_option maxRecDepth 100000 in
set_option maxHeartbeats 1600000 in
theorem bUv (b off : Nat) (pv : Value) (w : World) (R : World → Prop)
  (h0 : w.cell? ⟨b,off,none⟩ = some (.int .u32 0)) (h1 : w.cell? ⟨b,off + 1,none⟩ = some (.int .i32 0)) (f1 : w.frozen? ⟨b,off + 1,none⟩ = false)
  (hcall : Calls Tryz.prog 67 #[pv] (w.setCell ⟨b,off + 1,none⟩ (.int .i32 1)) fun e w'=>e = .returned (.tuple #[]) ∧ R w' ∧ Held b off w') :
  Calls Tryz.prog 117 #[.pointer (some ⟨b,off,none⟩),.func (.func 67) #[pv] #[]] w fun e w'=>e = .returned (.tuple #[]) ∧
   ∃ w2,R w2 ∧ w' = (w2.drew.setCell ⟨b,off,none⟩ (.int .u32 1)).setCell ⟨b,off + 1,none⟩ (.int .i32 0):=by
 have hl:=run_call_load (P:=Tryz.prog) Tryz.func186 (by kernel_rfl) (by kernel_rfl) (by kernel_rfl) .u32 (by kernel_rfl) (w:=w.setCell ⟨b,off + 1,none⟩ (.int .i32 1)) (a:=⟨b,off,none⟩) (x:=0) ((World.cell?_setCell_other _ ⟨b,off + 1,none⟩ ⟨b,off,none⟩ _ (by simp)).trans h0)
 have hnot : ∀ (x : Bool) (w : World),(Op.unary .not (.bool x)).run Tryz.prog w = .ok (.bool (!x)) w:=fun _ _=>rfl
 go_enter_defers Tryz.func117,Tryz.ntmps117
 go_wp2_with (first | (go_at_call 187; refine (bFd ⟨b,off + 1,none⟩ _ (by go_simp) (by go_simp)).mono ?_; rintro e w' ⟨rfl,rfl⟩) | (go_at_call 116; go_in) | (go_at_call 67; refine hcall.mono ?_; rintro e w2 ⟨rfl,hR,hH⟩))
 refine leaves_cons (f:=189) (args := #[.pointer (some ⟨b,off,none⟩),.bool true]) (by simp) (by simp [go_sem]) ?_
 obtain ⟨x,hx⟩:=hH.done
 refine (aAo ⟨b,off,none⟩ x .returning _ hx hH.f0).mono ?_
 rintro e u' w'' ⟨rfl,rfl,rfl⟩
 refine leaves_cons (f:=188) (args := #[.pointer (some ⟨b,off + 1,none⟩)]) (by simp [settle]) (by simp [go_sem]) ?_
 refine (vQ ⟨b,off + 1,none⟩ _ _ ?_ ?_).mono ?_
 ·refine (World.cell?_setCell_other _ ⟨b,off,none⟩ ⟨b,off + 1,none⟩ _ (by simp)).trans ?_
  rw [World.cell?_drew]
  exact hH.lock
 ·simp [hH.f1]
 rintro e u' w'' ⟨rfl,rfl,rfl⟩
 simp [Leaves,settle,results,Tryz.results117]
 exact ⟨w2,hR,rfl⟩
set_option maxRecDepth 100000 in
set_option maxHeartbeats 1600000 in
theorem do_first (b off : Nat) (pv : Value) (w : World) (R : World → Prop)
  (h0 : w.cell? ⟨b,off,none⟩ = some (.int .u32 0)) (h1 : w.cell? ⟨b,off + 1,none⟩ = some (.int .i32 0)) (f1 : w.frozen? ⟨b,off + 1,none⟩ = false)
  (hcall : Calls Tryz.prog 67 #[pv] (w.setCell ⟨b,off + 1,none⟩ (.int .i32 1)) fun e w'=>e = .returned (.tuple #[]) ∧ R w' ∧ Held b off w') :
  Calls Tryz.prog 66 #[.pointer (some ⟨b,off,none⟩),.func (.func 67) #[pv] #[]] w fun e w'=>e = .returned (.tuple #[]) ∧
   ∃ w2,R w2 ∧ w' = (w2.drew.setCell ⟨b,off,none⟩ (.int .u32 1)).setCell ⟨b,off + 1,none⟩ (.int .i32 0):=by
 have hl:=run_call_load (P:=Tryz.prog) Tryz.func186 (by kernel_rfl) (by kernel_rfl) (by kernel_rfl) .u32 (by kernel_rfl) h0
 have hnot : ∀ (x : Bool) (w : World),(Op.unary .not (.bool x)).run Tryz.prog w = .ok (.bool (!x)) w:=fun _ _=>rfl
 go_enter Tryz.func66,Tryz.ntmps66
 go_wp2_with (first | (go_at_call 116; go_in) | (go_at_call 117; refine (bUv b off pv _ R h0 h1 f1 hcall).mono ?_; rintro e w' ⟨rfl,w2,hR,rfl⟩))
 go_end0
 exact ⟨rfl,w2,hR,rfl⟩
end Go.Proofs.Onc

namespace Go.Dd
open Go.Proofs
theorem uG {G : Gd} {ρ : Ren} {h : Hp} {w : World} (H : HR G ρ h w) {b : Pos} {o : Nat} {v : DV} {h0 : Hp} {L : Loc} (hL : ρ b = some L) (e : aA (.p b o) h = some (v,h0)) :
  h0 = h ∧ v.one = true ∧ (∃ k l,h.bl.get b = some (.row k l) ∧ l[o]? = some v) ∧ ∃ v',w.cell? (eC L o) = some v' ∧ VR ρ v v':=by
 unfold aA at e
 simp only at e
 split at e <;> (try (cases e; done))
 rename_i u hc
 simp only [aU,bG] at e
 obtain ⟨rfl,rfl⟩:=e
 unfold cellD rowOf at hc
 split at hc <;> (try (cases hc; done))
 rename_i l hl
 split at hl <;> (try (cases hl; done))
 rename_i k l0 hb
 cases hl
 split at hc <;> (try (cases hc; done))
 rename_i u0 hi
 split at hc <;> (try (cases hc; done))
 rename_i ho
 cases hc
 exact ⟨rfl,ho,⟨k,l,hb,hi⟩,H.cell b k l L o _ hb hL hi ho⟩
theorem iU {P : Program} {G : Gd} {ρ : Ren} {h h1 : Hp} {w : World} (H : HR G ρ h w) {b : Pos} {o : Nat} {x v : DV} {x' : Value} {L : Loc} (hL : ρ b = some L) (hx : VR ρ x x') (hc : dD x = some [x]) (ho : x.one = true)
  (e : aG 1 (.p b o) x h = some (v,h1)) :
  (∃ y,w.cell? (eC L o) = some y) ∧ w.frozen? (eC L o) = false ∧ HR G ρ h1 (w.setCell (eC L o) x') ∧ Kp G w (w.setCell (eC L o) x'):=by
 unfold aG at e
 simp only [hc] at e
 split at e <;> (try (cases e; done))
 split at e <;> (try (cases e; done))
 rename_i h' hs
 simp only [aU,bG] at e
 obtain ⟨_,rfl⟩:=e
 have hs0:=hs
 unfold cE at hs0
 split at hs0 <;> (try (cases hs0; done))
 rename_i k l hb
 split at hs0 <;> (try (cases hs0; done))
 rename_i hk
 split at hs0 <;> (try (cases hs0; done))
 rename_i l' hp
 obtain ⟨p1,p2,p3,p4,p5⟩:=kE o l [x] l' hp
 obtain ⟨_,x0,q1,q2⟩:=p4 0 x rfl
 rw [Nat.add_zero] at q1
 have hcl : Claims ρ h b (eC L o):=⟨k,l,L,hb,hL,.inl ⟨o,x0,q1,q2,rfl⟩⟩
 have hro : ¬ isRo h b:=by
  rintro ⟨l0,h0⟩
  rw [hb] at h0
  cases h0
  cases hk
 obtain ⟨y,hy⟩:=H.lt_cell hcl
 have hf:=(H.free b _ hcl hro).1
 have hone : aQe x' = true:=(VRs.cons _ _ _ _ hx VRs.nil : VRs ρ [x] [x']).mem_one (fun v hv=>by simp at hv; subst hv; exact ho) x' (by simp)
 obtain ⟨w',s1,s2,s3⟩:=fV (P:=P) H hs hL (.cons _ _ _ _ hx .nil)
 have : w' = w.setCell (eC L o) x':=by
  have hr:=pN (P:=P) hy hf hone
  have e0 : (eC L o).add 0 = eC L o:=by rw [eN]; rfl
  simp only [storeCells,Sem.run_bind,e0,hr,Result.andThen_ok,Sem.run_pure] at s1
  cases s1
  rfl
 subst this
 exact ⟨⟨y,hy⟩,hf,s2,s3⟩
theorem aUl {k : IntKind} {n : Int} {v : DV} (h : isI k n v = true) : v = .i k n:=by
 unfold isI at h
 split at h
 ·simp only [Bool.and_eq_true,decide_eq_true_eq] at h
  obtain ⟨rfl,rfl⟩:=h
  rfl
 ·cases h
theorem cMm (G : Gd) : gG Tryz.prog G 66 aDi:=by
 intro args h v h1 hr ρ w args' H hargs
 unfold aDi at hr
 split at hr <;> (try (cases hr; done))
 rename_i r x
 obtain ⟨d,g0,a1,hr⟩:=cZ hr
 obtain ⟨m,g1,a2,hr⟩:=cZ hr
 obtain ⟨a3,hr⟩:=mJ hr
 obtain ⟨_,h2,a4,hr⟩:=cZ hr
 obtain ⟨u,h3,a5,hr⟩:=cZ hr
 obtain ⟨m3,g3,a6,hr⟩:=cZ hr
 obtain ⟨a7,hr⟩:=mJ hr
 split at hr <;> (try (cases hr; done))
 obtain ⟨_,h4,a8,hr⟩:=cZ hr
 obtain ⟨_,h5,a9,hr⟩:=cZ hr
 simp only [aU,bG] at hr
 obtain ⟨rfl,rfl⟩:=hr
 rw [Bool.and_eq_true] at a3
 have e1:=aUl a3.1
 have e2:=aUl a3.2
 have e3:=aUl a7
 subst e1 e2 e3
 obtain ⟨a⟩:=args'
 cases hargs with
 | cons _ x1 l1 l1' hx1 hxs =>
 cases hxs with
 | cons _ x2 l2 l2' hx2 hxs2 =>
 cases hxs2
 cases hx1 with
 | p _ _ L hL =>
 cases hx2 with
 | f _ _ _ fx fy hfx hfy =>
 obtain ⟨fx⟩:=fx
 obtain ⟨fy⟩:=fy
 cases hfy
 cases hfx with
 | cons _ x' l3 l3' hx hxs3 =>
 cases hxs3
 obtain ⟨rfl,_,_,d',b1,b2⟩:=uG H hL a1
 obtain ⟨rfl,_,_,m',b3,b4⟩:=uG H hL a2
 cases b2
 cases b4
 have e0 : eC L 0 = ⟨L.bl,L.of,none⟩:=by
  unfold eC at *
  simp only [if_true] at b1 ⊢
  cases hs : L.spot with
  | none=>rfl
  | some s =>
   rw [hs] at b1
   unfold World.cell? at b1
   split at b1 <;> simp at b1
 have e1 : eC L 1 = ⟨L.bl,L.of + 1,none⟩:=by simp [eC]
 rw [e0] at b1
 rw [e1] at b3
 obtain ⟨_,c1,H2,K2⟩:=iU (P:=Tryz.prog) H hL (.i .i32 1) rfl rfl a4
 rw [e1] at c1 H2 K2
 refine .inl ⟨?_, ?_⟩
 ·have hn : ¬ Tryz.f66.name = "runtime.NumGoroutine" := by simpa using Try_ok.names 66 Tryz.f66 Tryz.func66
  have hbn : Tryz.f66.body ≠ none := by intro e; have : Tryz.f66.body.isSome = true := by kernel_rfl
                                        rw [e] at this; cases this
  unfold callFunc
  simp [show Tryz.prog.funcs[66]? = some Tryz.f66 from Tryz.func66,hn,hbn]
 have hcall : Calls Tryz.prog 67 #[x'] (w.setCell ⟨L.bl,L.of + 1,none⟩ (.int .i32 1)) fun e w'=>e = .returned (.tuple #[]) ∧ (∃ ρ',Ex G ρ ρ' ∧ HR G ρ' h3 w' ∧ Kp G (w.setCell ⟨L.bl,L.of + 1,none⟩ (.int .i32 1)) w') ∧ Onc.Held L.bl L.of w':=by
  rcases KC0.fns G 67 [x] h2 _ h3 a5 ρ _ #[x'] H2 (.cons _ _ _ _ hx .nil) with ⟨_,hc⟩ | ⟨ρ',w',v',hc,_⟩
  ·refine hc.mono ?_
   rintro e w' ⟨ρ',v',rfl,h6,h7,h8,h9⟩
   have e6 : v' = .tuple #[]:=by
    cases h7 with
    | t _ y hy =>
     obtain ⟨y⟩:=y
     cases hy
     rfl
   subst e6
   have hL' : ρ' r = some L:=h6.ext _ _ hL
   obtain ⟨_,_,_,m'',b5,b6⟩:=uG h8 hL' a6
   cases b6
   obtain ⟨b7,b8,_,_⟩:=iU (P:=Tryz.prog) h8 hL' (.i .u32 1) rfl rfl a8
   rw [e1] at b5
   rw [e0] at b7 b8
   refine ⟨rfl,⟨ρ',h6,h8,h9⟩,⟨b7,b5,b8, ?_⟩⟩
   obtain ⟨_,_,h10,_⟩:=iU (P:=Tryz.prog) h8 hL' (.i .u32 1) rfl rfl a8
   have:=(iU (P:=Tryz.prog) h10 hL' (.i .i32 0) rfl rfl a9).2.1
   rw [e0,e1] at this
   simpa using this
  ·exfalso
   have hn : ¬ Tryz.f67.name = "runtime.NumGoroutine" := by simpa using Try_ok.names 67 Tryz.f67 Tryz.func67
   have hbn : Tryz.f67.body ≠ none := by intro e; have : Tryz.f67.body.isSome = true := by kernel_rfl
                                         rw [e] at this; cases this
   unfold callFunc at hc
   simp [show CF0.P.funcs[67]? = some Tryz.f67 from Tryz.func67,hn,hbn] at hc
 have goal:=Onc.do_first L.bl L.of x' w _ b1 b3 c1 hcall
 rw [e0]
 refine goal.mono ?_
 rintro e w' ⟨rfl,w2,⟨ρ',h6,h8,h9⟩,rfl⟩
 have hL' : ρ' r = some L:=h6.ext _ _ hL
 obtain ⟨_,_,h10,h11⟩:=iU (P:=Tryz.prog) h8.drew hL' (.i .u32 1) rfl rfl a8
 obtain ⟨_,_,h12,h13⟩:=iU (P:=Tryz.prog) h10 hL' (.i .i32 0) rfl rfl a9
 rw [e0] at h10 h11 h12 h13
 rw [e1] at h12 h13
 exact ⟨ρ',_,rfl,h6,.t [] #[] .nil,h12,K2.trans (h9.drew.trans (h11.trans h13))⟩
end Go.Dd

namespace Go.Dd
open Go.Proofs
structure Lo (lo : Nat) (h h' : Hp) : Prop where
 next : h.next.toNat ≤ h'.next.toNat
 get : ∀ p : Pos,p.toNat < lo → h'.bl.get p = h.bl.get p
theorem Lo.refl (lo : Nat) (h : Hp) : Lo lo h h:=⟨Nat.le_refl _,fun _ _=>rfl⟩
theorem Lo.trans {lo : Nat} {a b c : Hp} (u : Lo lo a b) (v : Lo lo b c) : Lo lo a c:=⟨Nat.le_trans u.next v.next,fun p h=>(v.get p h).trans (u.get p h)⟩
theorem zS : ∀ l : List DV,(∀ v ∈ l,v.one = true) → jJ l.length l = some l:=mG
def GrS (x : DV) (l : List DV) (lo : Nat) (h : Hp) : Prop:=(x = .l0 ∧ l = []) ∨ ∃ b,x = .l b 0 l.length l.length ∧ h.bl.get b = some (.row (.gr 1) l) ∧ lo ≤ b.toNat ∧ b.toNat < h.next.toNat
theorem GrS.app {x : DV} {l : List DV} {lo : Nat} {h : Hp} (S : GrS x l lo h) (hlo : lo ≤ h.next.toNat) (hl : ∀ v ∈ l,v.one = true) {z v : DV} (hz : dD v = some [v]) (hv : v.one = true) {bytes : Nat} (hb : (l.length + 1) * bytes ≤ kY) :
  ∃ y g,aO [z] 1 [(0,1,v)] h = some (y,g) ∧ ∃ x' h',bB 1 bytes x y g = some (x',h') ∧ GrS x' (l ++ [v]) lo h' ∧ Lo lo h h':=by
 refine ⟨.l h.next 0 1 1,⟨h.next.succ,Tr.set (.row .ex [v]) h.next h.bl⟩, ?_, ?_⟩
 ·simp [aO,jV,hz]
 ·have src : lM 1 (.l h.next 0 1 1) ⟨h.next.succ,Tr.set (.row .ex [v]) h.next h.bl⟩ = some (1,[v]):=by
   have : cellsAt h.next 0 (1 * 1) ⟨h.next.succ,Tr.set (.row .ex [v]) h.next h.bl⟩ = some [v]:=by
    simp [cellsAt,rowOf,dXv,jJ,hv]
   simp only [lM,this]
  have ns:=dXw h.next
  have ns2:=dXw h.next.succ
  rcases S with ⟨rfl,rfl⟩ | ⟨b,rfl,hbg,h1,h2⟩
  ·refine ⟨.l h.next.succ 0 1 1,⟨h.next.succ.succ,Tr.set (.row (.gr 1) [v]) h.next.succ (Tr.set (.row .ex [v]) h.next h.bl)⟩, ?_, ?_, ?_⟩
   ·unfold bB
    rw [src]
    dsimp only
    rw [if_neg (by simp),if_pos (by simpa using hb)]
   ·exact .inr ⟨h.next.succ,rfl,dXv _ _ _,by omega,by show _ < h.next.succ.succ.toNat; omega⟩
   ·refine ⟨by show _ ≤ h.next.succ.succ.toNat; omega,fun p hp => ?_⟩
    show (Tr.set _ h.next.succ (Tr.set _ h.next h.bl)).get p = _
    rw [dXu _ _ _ _ (fun e=>by subst e; omega),dXu _ _ _ _ (fun e=>by subst e; omega)]
  ·have hne : b ≠ h.next:=fun e=>by subst e; omega
   have hget : (Tr.set (.row .ex [v]) h.next h.bl).get b = some (.row (.gr 1) l):=by rw [dXu _ _ _ _ hne]; exact hbg
   have hcells : cellsAt b 0 (l.length * 1) ⟨h.next.succ,Tr.set (.row .ex [v]) h.next h.bl⟩ = some l:=by
    simp only [cellsAt,rowOf,hget,List.drop_zero,Nat.mul_one]
    exact zS l hl
   refine ⟨.l h.next.succ 0 (l.length + 1) (l.length + 1),⟨h.next.succ.succ,Tr.set (.row (.gr 1) (l ++ [v])) h.next.succ (Tr.set (.row .sp (bR 0 l)) b (Tr.set (.row .ex [v]) h.next h.bl))⟩, ?_, ?_, ?_⟩
   ·unfold bB
    rw [src]
    dsimp only
    rw [if_neg (by omega),hget,hcells]
    dsimp only
    rw [if_pos hb,if_pos (by simp)]
   ·exact .inr ⟨h.next.succ,by simp,dXv _ _ _,by omega,by show _ < h.next.succ.succ.toNat; omega⟩
   ·refine ⟨by show _ ≤ h.next.succ.succ.toNat; omega,fun p hp => ?_⟩
    show (Tr.set _ h.next.succ (Tr.set _ b (Tr.set _ h.next h.bl))).get p = _
    rw [dXu _ _ _ _ (fun e=>by subst e; omega),dXu _ _ _ _ (fun e=>by subst e; omega),dXu _ _ _ _ (fun e=>by subst e; omega)]
def GrZ (sz : Nat) (x : DV) (n : Nat) (cells : List DV) (lo : Nat) (h : Hp) : Prop :=
 cells.length = n * sz ∧ (∀ v ∈ cells,v.one = true) ∧ ((x = .l0 ∧ n = 0) ∨ ∃ b,x = .l b 0 n n ∧ h.bl.get b = some (.row (.gr sz) cells) ∧ lo ≤ b.toNat ∧ b.toNat < h.next.toNat)
theorem GrZ.nil (sz lo : Nat) (h : Hp) : GrZ sz .l0 0 [] lo h:=⟨by simp,by simp,.inl ⟨rfl,rfl⟩⟩
theorem GrZ.appV {sz n lo : Nat} {x : DV} {cells : List DV} {h : Hp} (S : GrZ sz x n cells lo h) (hlo : lo ≤ h.next.toNat) {zeros c : List DV} {cv : DV} (hsz : 0 < sz) (fd : jV zeros [(0,sz,cv)] = some c) (hc : c.length = sz) (ho : ∀ v ∈ c,v.one = true) {bytes : Nat} (hb : (n + 1) * bytes ≤ kY) :
  ∃ y g,aO zeros 1 [(0,sz,cv)] h = some (y,g) ∧ ∃ x' h',bB sz bytes x y g = some (x',h') ∧ GrZ sz x' (n + 1) (cells ++ c) lo h' ∧ Lo lo h h' ∧
   (∀ p : Pos,p.toNat < h.next.toNat → (∀ m,x ≠ .l p 0 m m) → h'.bl.get p = h.bl.get p) ∧ ∀ p m,x' = .l p 0 m m → h.next.toNat ≤ p.toNat:=by
 obtain ⟨s1,s2,S⟩:=S
 have l' : (cells ++ c).length = (n + 1) * sz:=by rw [List.length_append,s1,hc,Nat.add_mul,Nat.one_mul]
 have o' : ∀ v ∈ cells ++ c,v.one = true:=fun v hv=>by
  rcases List.mem_append.1 hv with hv | hv
  ·exact s2 v hv
  ·exact ho v hv
 refine ⟨.l h.next 0 1 1,⟨h.next.succ,Tr.set (.row .ex c) h.next h.bl⟩, ?_, ?_⟩
 ·simp only [aO,fd]
 ·have src : lM sz (.l h.next 0 1 1) ⟨h.next.succ,Tr.set (.row .ex c) h.next h.bl⟩ = some (1,c):=by
   have : cellsAt h.next 0 (1 * sz) ⟨h.next.succ,Tr.set (.row .ex c) h.next h.bl⟩ = some c:=by
    simp only [cellsAt,rowOf,dXv,List.drop_zero,Nat.one_mul]
    rw [← hc]
    exact zS c ho
   simp only [lM,this]
  have ns:=dXw h.next
  have ns2:=dXw h.next.succ
  rcases S with ⟨rfl,rfl⟩ | ⟨b,rfl,hbg,h1,h2⟩
  ·have hn : cells = []:=by simpa using s1
   subst hn
   refine ⟨.l h.next.succ 0 1 1,⟨h.next.succ.succ,Tr.set (.row (.gr sz) c) h.next.succ (Tr.set (.row .ex c) h.next h.bl)⟩, ?_,⟨l',o', ?_⟩, ?_,fun p hp _ => ?_,fun p m e=>by cases e; omega⟩
   ·unfold bB
    rw [src]
    dsimp only
    rw [if_neg (by simp),if_pos (by simpa using hb)]
   ·exact .inr ⟨h.next.succ,rfl,dXv _ _ _,by omega,by show _ < h.next.succ.succ.toNat; omega⟩
   ·refine ⟨by show _ ≤ h.next.succ.succ.toNat; omega,fun p hp => ?_⟩
    show (Tr.set _ h.next.succ (Tr.set _ h.next h.bl)).get p = _
    rw [dXu _ _ _ _ (fun e=>by subst e; omega),dXu _ _ _ _ (fun e=>by subst e; omega)]
   ·show (Tr.set _ h.next.succ (Tr.set _ h.next h.bl)).get p = _
    rw [dXu _ _ _ _ (fun e=>by subst e; omega),dXu _ _ _ _ (fun e=>by subst e; omega)]
  ·have hne : b ≠ h.next:=fun e=>by subst e; omega
   have hget : (Tr.set (.row .ex c) h.next h.bl).get b = some (.row (.gr sz) cells):=by rw [dXu _ _ _ _ hne]; exact hbg
   have hcells : cellsAt b 0 (n * sz) ⟨h.next.succ,Tr.set (.row .ex c) h.next h.bl⟩ = some cells:=by
    simp only [cellsAt,rowOf,hget,List.drop_zero]
    rw [← s1]
    exact zS cells s2
   refine ⟨.l h.next.succ 0 (n + 1) (n + 1),⟨h.next.succ.succ,Tr.set (.row (.gr sz) (cells ++ c)) h.next.succ (Tr.set (.row .sp (bR 0 cells)) b (Tr.set (.row .ex c) h.next h.bl))⟩, ?_,⟨l',o', ?_⟩, ?_,fun p hp hx => ?_,fun p m e=>by cases e; omega⟩
   ·unfold bB
    rw [src]
    dsimp only
    rw [if_neg (by omega),hget,hcells]
    dsimp only
    rw [if_pos hb,if_pos ⟨rfl,by rw [s1,Nat.zero_add]⟩]
   ·exact .inr ⟨h.next.succ,rfl,dXv _ _ _,by omega,by show _ < h.next.succ.succ.toNat; omega⟩
   ·refine ⟨by show _ ≤ h.next.succ.succ.toNat; omega,fun p hp => ?_⟩
    show (Tr.set _ h.next.succ (Tr.set _ b (Tr.set _ h.next h.bl))).get p = _
    rw [dXu _ _ _ _ (fun e=>by subst e; omega),dXu _ _ _ _ (fun e=>by subst e; omega),dXu _ _ _ _ (fun e=>by subst e; omega)]
   ·show (Tr.set _ h.next.succ (Tr.set _ b (Tr.set _ h.next h.bl))).get p = _
    rw [dXu _ _ _ _ (fun e=>by subst e; omega),dXu _ _ _ _ (fun e=>by subst e; exact hx n rfl),dXu _ _ _ _ (fun e=>by subst e; omega)]
end Go.Dd

namespace Go.Dd
open Go.Proofs
theorem aDu {c : Nat} : ∀ {a : Bs},c ∉ a → cA c a = [a]
 | [],_=>rfl
 | x :: a,h=>by
  have hx : x ≠ c:=fun e=>h (by simp [e])
  rw [cA,if_neg hx,aDu (fun e=>h (by simp [e]))]
theorem iM (s : List Nat) (h : Hp) : cM (.s s) h = some (.i .i64 (Int.ofNat s.length),h):=rfl
theorem yZ {s : List Nat} {i c : Nat} (hi : s[i]? = some c) (h : Hp) : bX (.s s) (.i .i64 (Int.ofNat i)) h = some (.i .u8 (Int.ofNat c),h):=by
 show (if (0 : Int) ≤ Int.ofNat i then (match s[(Int.ofNat i).toNat]? with
  | some c=>some (DV.i .u8 (c : Int),h)
  | none=>none) else none) = _
 rw [if_pos (show (0 : Int) ≤ Int.ofNat i from Int.natCast_nonneg i),show (Int.ofNat i).toNat = i from rfl,hi]
 rfl
theorem dQt {s : List Nat} {a b : Nat} (hab : a ≤ b) (hb : b ≤ s.length) (h : Hp) : cK (.s s) (some (.i .i64 (Int.ofNat a))) (some (.i .i64 (Int.ofNat b))) h = some (.s ((s.take b).drop a),h):=by
 have h1 : hiD (some (.i .i64 (Int.ofNat b))) s.length s.length = some b:=by
  simp only [hiD,fL]
  rw [if_pos (by show (0 : Int) ≤ (b : Int) ∧ (b : Int) ≤ (s.length : Int); omega)]
  rfl
 have h2 : loD (some (.i .i64 (Int.ofNat a))) b = some a:=by
  simp only [loD,fL]
  rw [if_pos (by show (0 : Int) ≤ (a : Int) ∧ (a : Int) ≤ (b : Int); omega)]
  rfl
 simp only [cK,h1,h2]
section
variable {rec : RT} {n : Nat} {s : List Nat} {c : Nat}
theorem aSk (hs : s.length < 1000000000) (lo : Nat) : ∀ (k i frm m : Nat) (out : List Bs) (x5 : DV) (h : Hp),i + k = s.length → frm ≤ i → k + 1 < m → c ∉ (s.take i).drop frm → out.length ≤ i → GrS x5 (out.map DV.s) lo h → lo ≤ h.next.toNat →
  ∃ x' h',mK rec n m (.s s) (.i .u8 (Int.ofNat c)) x5 (.i .i64 (Int.ofNat frm)) (.i .i64 (Int.ofNat i)) h = some (x',h') ∧ GrS x' ((out ++ cA c ((s.take i).drop frm ++ s.drop i)).map DV.s) lo h' ∧ Lo lo h h':=by
 have add1 : ∀ (j : Nat) (h : Hp),j ≤ s.length → aD .add (.i .i64 (Int.ofNat j)) (.i .i64 (Int.ofNat 1)) h = some (.i .i64 (Int.ofNat (j + 1)),h):=fun j h hj=>bZ j 1 h (by omega)
 intro k
 induction k with
 | zero =>
  intro i frm m out x5 h hi hf hm hc ho G hlo
  obtain ⟨m,rfl⟩ : ∃ j,m = j + 1 + 1:=⟨m - 2,by omega⟩
  have hil : i = s.length:=by omega
  subst hil
  have le1 : decide (Int.ofNat s.length ≤ Int.ofNat s.length) = true:=decide_eq_true (Int.le_refl _)
  have le2 : decide (Int.ofNat (s.length + 1) ≤ Int.ofNat s.length) = false:=decide_eq_false (by show ¬ ((s.length + 1 : Nat) : Int) ≤ (s.length : Int); omega)
  have eq1 : (Int.ofNat s.length == Int.ofNat s.length) = true:=by simp
  obtain ⟨y,g,b1,x',h',b2,G',L'⟩:=GrS.app G hlo (fun v hv=>by simp only [List.mem_map] at hv; obtain ⟨a,_,rfl⟩:=hv; rfl) (z:=.s []) (v:=.s ((s.take s.length).drop frm)) rfl rfl (bytes:=16) (by rw [List.length_map]; unfold kY; omega)
  refine ⟨x',h', ?_, ?_,L'⟩
  ·show lN rec n (mK rec n (m + 1)) _ _ _ _ _ h = _
   unfold lN
   simp only [iM,aI,tP,le1,bF]
   unfold yC
   simp only [iM,aI,fB,eq1,dN,bN,bF,dQt hf (Nat.le_refl _),b1,b2,add1 _ _ (Nat.le_refl _)]
   unfold pR
   simp only [add1 _ _ (Nat.le_refl _),aI]
   show lN rec n (mK rec n m) _ _ _ _ _ h' = _
   unfold lN
   simp only [iM,aI,tP,le2,bW]
   rfl
  ·rw [List.drop_length,List.append_nil,aDu hc,List.map_append]
   exact G'
 | succ k ih =>
  intro i frm m out x5 h hi hf hm hc ho G hlo
  obtain ⟨m,rfl⟩ : ∃ j,m = j + 1:=⟨m - 1,by omega⟩
  have hlt : i < s.length:=by omega
  obtain ⟨x,hx⟩ : ∃ x,s[i]? = some x:=⟨s[i],List.getElem?_eq_getElem hlt⟩
  have le1 : decide (Int.ofNat i ≤ Int.ofNat s.length) = true:=decide_eq_true (by show (i : Int) ≤ (s.length : Int); omega)
  have eq1 : (Int.ofNat i == Int.ofNat s.length) = false:=by
   rw [beq_eq_false_iff_ne]
   intro e
   have:=Int.ofNat.inj e
   omega
  have hd : s.drop i = x :: s.drop (i + 1):=by
   rw [List.drop_eq_getElem_cons hlt]
   congr 1
   have:=List.getElem?_eq_getElem hlt
   rw [hx] at this
   exact (Option.some.inj this).symm
  have ht : s.take (i + 1) = s.take i ++ [x]:=by
   rw [List.take_add_one,hx]; rfl
  have htl : (s.take i).length = i:=by rw [List.length_take]; omega
  by_cases e : x = c
  ·have eq2 : (Int.ofNat x == Int.ofNat c) = true:=by rw [e]; simp
   obtain ⟨y,g,b1,x',h',b2,G',L'⟩:=GrS.app G hlo (fun v hv=>by simp only [List.mem_map] at hv; obtain ⟨a,_,rfl⟩:=hv; rfl) (z:=.s []) (v:=.s ((s.take i).drop frm)) rfl rfl (bytes:=16) (by rw [List.length_map]; unfold kY; omega)
   have G2 : GrS x' ((out ++ [(s.take i).drop frm]).map DV.s) lo h':=by rw [List.map_append]; exact G'
   have hnil : (s.take (i + 1)).drop (i + 1) = []:=List.drop_of_length_le (by rw [List.length_take]; omega)
   obtain ⟨x2,h2,r1,r2,r3⟩:=ih (i + 1) (i + 1) m (out ++ [(s.take i).drop frm]) x' h' (by omega) (Nat.le_refl _) (by omega) (by rw [hnil]; simp) (by simp; omega) G2 (Nat.le_trans hlo L'.next)
   refine ⟨x2,h2, ?_, ?_,L'.trans r3⟩
   ·rw [← r1]
    show lN rec n (mK rec n m) _ _ _ _ _ h = _
    unfold lN
    simp only [iM,aI,tP,le1,bF]
    unfold yC
    simp only [iM,aI,fB,eq1,eU,yZ hx,eq2,bM,bF,dQt hf (Nat.le_of_lt hlt),b1,b2,add1 _ _ (Nat.le_of_lt hlt)]
    unfold pR
    simp only [add1 _ _ (Nat.le_of_lt hlt),aI]
   ·rw [hnil,List.nil_append] at r2
    rw [hd,e,aMd hc]
    simpa using r2
  ·have eq2 : (Int.ofNat x == Int.ofNat c) = false:=by
    rw [beq_eq_false_iff_ne]
    intro q
    exact e (Int.ofNat.inj q)
   have hacc : (s.take (i + 1)).drop frm = (s.take i).drop frm ++ [x]:=by
    rw [ht,List.drop_append_of_le_length (by omega)]
   obtain ⟨x2,h2,r1,r2,r3⟩:=ih (i + 1) frm m out x5 h (by omega) (by omega) (by omega) (by rw [hacc]; simp only [List.mem_append,List.mem_singleton,not_or]; exact ⟨hc,fun q=>e q.symm⟩) (by omega) G hlo
   refine ⟨x2,h2, ?_, ?_,r3⟩
   ·rw [← r1]
    show lN rec n (mK rec n m) _ _ _ _ _ h = _
    unfold lN
    simp only [iM,aI,tP,le1,bF]
    unfold yC
    simp only [iM,aI,fB,eq1,eU,yZ hx,eq2,bM,bW]
    unfold pR
    simp only [add1 _ _ (Nat.le_of_lt hlt),aI]
   ·rw [hacc] at r2
    rw [hd]
    simpa using r2
theorem aDh (hs : s.length < 1000000000) (hn : s.length + 1 < n) (h : Hp) : ∃ x' h',s19 rec n (.s s) (.i .u8 (Int.ofNat c)) h = some (x',h') ∧ GrS x' ((cA c s).map DV.s) h.next.toNat h' ∧ Lo h.next.toNat h h':=by
 obtain ⟨x',h',r1,r2,r3⟩:=aSk (rec:=rec) (n:=n) (c:=c) hs h.next.toNat s.length 0 0 n [] .l0 h (by omega) (Nat.le_refl _) hn (by simp) (Nat.le_refl _) (.inl ⟨rfl,rfl⟩) (Nat.le_refl _)
 exact ⟨x',h',r1,by simpa using r2,r3⟩
end
end Go.Dd

namespace Go.Dd
open Go.Proofs
def aGp (s : Bs) : Int:=match eR s with
 | some k=>Int.ofNat k
 | none=>Int.negSucc 0
theorem dQd (a b : Nat) (h : Hp) (hr : a * b < 4611686018427387904) : aD .mul (.i .i64 (Int.ofNat a)) (.i .i64 (Int.ofNat b)) h = some (.i .i64 (Int.ofNat (a * b)),h):=by
 simp only [aD,if_true,fF]
 rw [show (Int.ofNat a * Int.ofNat b : Int) = Int.ofNat (a * b) from rfl,kB _ (show -9223372036854775808 ≤ Int.ofNat (a * b) ∧ Int.ofNat (a * b) ≤ 9223372036854775807 by show -9223372036854775808 ≤ ((a * b : Nat) : Int) ∧ ((a * b : Nat) : Int) ≤ 9223372036854775807; omega)]
theorem dIh (x : Nat) (h1 : 48 ≤ x) (h2 : x ≤ 57) (h : Hp) : aD .sub (.i .u8 (Int.ofNat x)) (.i .u8 (Int.ofNat 48)) h = some (.i .u8 (Int.ofNat (x - 48)),h):=by
 have : x = 48 ∨ x = 49 ∨ x = 50 ∨ x = 51 ∨ x = 52 ∨ x = 53 ∨ x = 54 ∨ x = 55 ∨ x = 56 ∨ x = 57:=by omega
 rcases this with rfl | rfl | rfl | rfl | rfl | rfl | rfl | rfl | rfl | rfl <;> rfl
theorem dLk (x : Nat) (h2 : x ≤ 9) (h : Hp) : dV .i64 (.i .u8 (Int.ofNat x)) h = some (.i .i64 (Int.ofNat x),h):=by
 have : x = 0 ∨ x = 1 ∨ x = 2 ∨ x = 3 ∨ x = 4 ∨ x = 5 ∨ x = 6 ∨ x = 7 ∨ x = 8 ∨ x = 9:=by omega
 rcases this with rfl | rfl | rfl | rfl | rfl | rfl | rfl | rfl | rfl | rfl <;> rfl
section
variable {rec : RT} {n : Nat} {s : List Nat}
theorem bTb (hs : s.length ≤ 9) : ∀ (k i m a : Nat) (h : Hp),i + k = s.length → k < m → a < 10 ^ i →
  qF rec n m (.s s) (.i .i64 (Int.ofNat a)) (.i .i64 (Int.ofNat i)) h = some (.i .i64 (if (s.drop i).all oN then Int.ofNat (lZ a (s.drop i)) else Int.negSucc 0),h):=by
 intro k
 induction k with
 | zero =>
  intro i m a h hi hm ha
  obtain ⟨m,rfl⟩ : ∃ j,m = j + 1:=⟨m - 1,by omega⟩
  have hil : i = s.length:=by omega
  subst hil
  have l1 : decide (Int.ofNat s.length < Int.ofNat s.length) = false:=decide_eq_false (Int.lt_irrefl _)
  show tH rec n (qF rec n m) _ _ _ h = _
  unfold tH
  simp only [iM,aI,cO,l1,bW,List.drop_length]
  rfl
 | succ k ih =>
  intro i m a h hi hm ha
  obtain ⟨m,rfl⟩ : ∃ j,m = j + 1:=⟨m - 1,by omega⟩
  have hlt : i < s.length:=by omega
  obtain ⟨x,hx⟩ : ∃ x,s[i]? = some x:=⟨s[i],List.getElem?_eq_getElem hlt⟩
  have hd : s.drop i = x :: s.drop (i + 1):=by
   rw [List.drop_eq_getElem_cons hlt]
   congr 1
   have:=List.getElem?_eq_getElem hlt
   rw [hx] at this
   exact (Option.some.inj this).symm
  have l1 : decide (Int.ofNat i < Int.ofNat s.length) = true:=decide_eq_true (by show (i : Int) < (s.length : Int); omega)
  show tH rec n (qF rec n m) _ _ _ h = _
  unfold tH
  rw [hd,List.all_cons]
  by_cases c1 : x < 48
  ·have l2 : decide (Int.ofNat x < Int.ofNat 48) = true:=decide_eq_true (by show (x : Int) < 48; omega)
   have d1 : oN x = false:=by unfold oN; simp only [aJz]; simp; omega
   simp only [iM,aI,cO,l1,bF,yZ hx,l2,dN,bN,d1,Bool.false_and,Bool.false_eq_true,if_false]
  ·have l2 : decide (Int.ofNat x < Int.ofNat 48) = false:=decide_eq_false (by show ¬ (x : Int) < 48; omega)
   by_cases c2 : x > 57
   ·have l3 : decide (Int.ofNat x > Int.ofNat 57) = true:=decide_eq_true (by show (57 : Int) < (x : Int); omega)
    have d1 : oN x = false:=by unfold oN; simp only [aJz]; simp; omega
    simp only [iM,aI,cO,l1,bF,yZ hx,l2,eU,fP,l3,bM,d1,Bool.false_and,Bool.false_eq_true,if_false]
   ·have l3 : decide (Int.ofNat x > Int.ofNat 57) = false:=decide_eq_false (by show ¬ (57 : Int) < (x : Int); omega)
    have d1 : oN x = true:=by unfold oN; simp; omega
    have p9 : 10 ^ (i + 1) ≤ 10 ^ 9:=Nat.pow_le_pow_right (by omega) (by omega)
    have pw : 10 ^ (i + 1) = 10 * 10 ^ i:=by rw [Nat.pow_succ,Nat.mul_comm]
    have ih':=ih (i + 1) m (10 * a + (x - 48)) h (by omega) (by omega) (by omega)
    simp only [iM,aI,cO,l1,bF,yZ hx,l2,eU,fP,l3,bM,bW,dQd 10 a h (by omega),dIh x (by omega) (by omega),dLk (x - 48) (by omega),bZ (10 * a) (x - 48) h (by omega),bZ i 1 h (by omega),d1,Bool.true_and]
    exact ih'
theorem cDm (hn : 10 < n) (h : Hp) : s35 rec n (.s s) h = some (.i .i64 (aGp s),h):=by
 unfold s35 bBi aGp eR
 by_cases c1 : s.length < 1
 ·have l1 : decide (Int.ofNat s.length < Int.ofNat 1) = true:=decide_eq_true (by show (s.length : Int) < 1; omega)
  simp only [iM,aI,cO,l1,dN,sK,bN,bF]
  rw [if_pos (.inl c1)]
 have l1 : decide (Int.ofNat s.length < Int.ofNat 1) = false:=decide_eq_false (by show ¬ (s.length : Int) < 1; omega)
 by_cases c2 : s.length > 9
 ·have l2 : decide (Int.ofNat s.length > Int.ofNat 9) = true:=decide_eq_true (by show (9 : Int) < (s.length : Int); omega)
  simp only [iM,aI,cO,l1,eU,fP,l2,bM,dN,sK,bN,bF]
  rw [if_pos (.inr (.inl c2))]
 have l2 : decide (Int.ofNat s.length > Int.ofNat 9) = false:=decide_eq_false (by show ¬ (9 : Int) < (s.length : Int); omega)
 obtain ⟨x,t,rfl⟩ : ∃ x t,s = x :: t:=by
  cases s with
  | nil=>simp at c1
  | cons x t=>exact ⟨x,t,rfl⟩
 have hx : (x :: t)[0]? = some x:=rfl
 have zero : (Int.ofNat 0 : Int) = 0:=rfl
 have loop : bAz rec n (.s (x :: t)) h = some (.i .i64 (if (x :: t).all oN then Int.ofNat (lZ 0 (x :: t)) else Int.negSucc 0),h):=bTb (rec:=rec) (n:=n) (s:=x :: t) (by omega) (x :: t).length 0 n 0 h (by omega) (by omega) (by simp)
 have nine : (x :: t).length ≤ 9:=by omega
 have one : ¬ (x :: t).length < 1:=c1
 have more : ¬ (x :: t).length > 9:=c2
 have h0 : (x :: t).head? = some x:=rfl
 by_cases c3 : (x :: t).length > 1
 ·have l3 : decide (Int.ofNat (x :: t).length > Int.ofNat 1) = true:=decide_eq_true (by show (1 : Int) < ((x :: t).length : Int); omega)
  by_cases c4 : x = 48
  ·have e4 : (Int.ofNat x == Int.ofNat 48) = true:=by rw [c4]; rfl
   simp only [iM,aI,cO,l1,eU,fP,l2,bM,l3,nA,yZ hx,fB,e4,bN,bF]
   rw [if_pos (.inr (.inr (.inl ⟨c3,by rw [h0,c4]⟩)))]
  ·have e4 : (Int.ofNat x == Int.ofNat 48) = false:=by rw [beq_eq_false_iff_ne]; intro q; exact c4 (Int.ofNat.inj q)
   simp only [iM,aI,cO,l1,eU,fP,l2,bM,l3,nA,yZ hx,fB,e4,bN,bW,loop]
   cases hb : (x :: t).all oN with
   | true =>
    have no : ¬ ((x :: t).length < 1 ∨ (x :: t).length > 9 ∨ (x :: t).length > 1 ∧ (x :: t).head? = some 48 ∨ true = false):=by
     rintro (q | q | q | q)
     ·exact one q
     ·exact more q
     ·exact c4 (Option.some.inj q.2)
     ·cases q
    rw [if_pos rfl,if_neg no]
   | false =>
    rw [if_neg (show ¬ (false = true) by decide),if_pos (.inr (.inr (.inr rfl)))]
 ·have l3 : decide (Int.ofNat (x :: t).length > Int.ofNat 1) = false:=decide_eq_false (by show ¬ (1 : Int) < ((x :: t).length : Int); omega)
  have gt_f : ∀ (r : aH) (h : Hp),gD (.b false) true r h = some (aS,h):=fun r h=>rfl
  simp only [iM,aI,cO,l1,eU,fP,l2,bM,l3,gt_f,sK,bW,loop]
  cases hb : (x :: t).all oN with
  | true =>
   have no : ¬ ((x :: t).length < 1 ∨ (x :: t).length > 9 ∨ (x :: t).length > 1 ∧ (x :: t).head? = some 48 ∨ true = false):=by
    rintro (q | q | q | q)
    ·exact one q
    ·exact more q
    ·exact c3 q.1
    ·cases q
   rw [if_pos rfl,if_neg no]
  | false =>
   rw [if_neg (show ¬ (false = true) by decide),if_pos (.inr (.inr (.inr rfl)))]
end
end Go.Dd

namespace Go.Dd
open Go.Proofs
abbrev bD (c : Nat) : DV:=.i .u8 (Int.ofNat c)
def spB (x : Nat) : Bool:=Nat.beq x 10 || (Nat.beq x 34 || Nat.beq x 92)
def iR : Bs → Nat
 | []=>0
 | x :: t=>(if spB x then 1 else 0) + iR t
def vR (x : Nat) : Bs:=if x = 10 then [92,110] else if x = 34 ∨ x = 92 then [92,x] else [x]
theorem kC (x : Nat) (t : Bs) : cY (x :: t) = vR x ++ cY t:=by
 have e : cY (x :: t) = if x = 10 then 92 :: 110 :: cY t else if x = 34 ∨ x = 92 then 92 :: x :: cY t else x :: cY t:=rfl
 rw [e]
 unfold vR
 by_cases h1 : x = 10
 ·rw [if_pos h1,if_pos h1]; rfl
 ·rw [if_neg h1,if_neg h1]
  by_cases h2 : x = 34 ∨ x = 92
  ·rw [if_pos h2,if_pos h2]; rfl
  ·rw [if_neg h2,if_neg h2]; rfl
theorem zM : ∀ (a b : Bs),cY (a ++ b) = cY a ++ cY b
 | [],b=>rfl
 | x :: a,b=>by rw [List.cons_append,kC,kC,zM a b,List.append_assoc]
theorem bPg (x : Nat) : cY [x] = vR x:=by rw [kC]; simp [cY]
theorem spB_ff {x : Nat} : spB x = false ↔ ¬ x = 10 ∧ ¬ x = 34 ∧ ¬ x = 92:=by
 unfold spB
 simp [lY]
theorem bLw (x : Nat) : (vR x).length = 1 + (if spB x then 1 else 0):=by
 unfold vR
 cases h : spB x with
 | false =>
  obtain ⟨h1,h2,h3⟩:=spB_ff.1 h
  simp [h1,h2,h3]
 | true =>
  by_cases h1 : x = 10
  ·simp [h1]
  ·have h2 : x = 34 ∨ x = 92:=by
    unfold spB at h
    simpa [h1,lY] using h
   simp [h1,h2]
theorem rH : ∀ s : Bs,(cY s).length = s.length + iR s
 | []=>rfl
 | x :: t=>by
  rw [kC,List.length_append,bLw,rH t]
  simp only [iR,List.length_cons]
  omega
theorem aBo : ∀ {s : Bs},iR s = 0 → cY s = s
 | [],_=>rfl
 | x :: t,h=>by
  simp only [iR] at h
  have hx : spB x = false:=by
   cases e : spB x with
   | false=>rfl
   | true=>rw [e] at h; simp at h
  obtain ⟨h1,h2,h3⟩:=spB_ff.1 hx
  rw [kC,aBo (s:=t) (by omega)]
  simp [vR,h1,h2,h3]
theorem bBc : ∀ (a b : Bs),iR (a ++ b) = iR a + iR b
 | [],b=>by simp [iR]
 | x :: a,b=>by
  rw [List.cons_append]
  simp only [iR,bBc a b]
  omega
theorem bAv : ∀ s : Bs,gM 92 s + gM 34 s + gM 10 s = iR s
 | []=>rfl
 | x :: t=>by
  have ih:=bAv t
  by_cases h1 : x = 10
  ·subst h1; simp [gM,iR,spB,lY]; omega
  ·by_cases h2 : x = 34
   ·subst h2; simp [gM,iR,spB,lY]; omega
   ·by_cases h3 : x = 92
    ·subst h3; simp [gM,iR,spB,lY]; omega
    ·simp [gM,iR,spB,lY,h1,h2,h3]; omega
theorem bAo : ∀ {s : Bs},(∀ c ∈ s,c < 256) → ∀ c ∈ cY s,c < 256
 | [],_,c,h=>by cases h
 | x :: t,hs,c,h=>by
  rw [kC,List.mem_append] at h
  rcases h with h | h
  ·have hx:=hs x (by simp)
   unfold vR at h
   split at h
   ·simp at h; omega
   ·split at h
    ·simp at h; rcases h with h | h <;> omega
    ·simp at h; omega
  ·exact bAo (fun d hd=>hs d (by simp [hd])) c h
theorem aZg : ∀ (a : List DV) (l vs : List DV),fR a.length (a ++ l) vs = (jS l vs).map (a ++ ·)
 | [],l,vs=>by
  simp only [List.length_nil,List.nil_append]
  show jS l vs = _
  cases jS l vs <;> rfl
 | x :: a,l,vs=>by
  simp only [List.length_cons,List.cons_append]
  show (fR a.length (a ++ l) vs).map (x :: ·) = _
  rw [aZg a l vs]
  cases jS l vs <;> rfl
theorem tR : ∀ {l : Bs},(∀ c ∈ l,c < 256) → qX (l.map bD) = some l
 | [],_=>rfl
 | x :: l,h=>by
  show (if x < 256 then (qX (l.map bD)).map (x :: ·) else none) = _
  rw [if_pos (h x (by simp)),tR (fun c hc=>h c (by simp [hc]))]
  rfl
theorem aVu (l : Bs) : ∀ v ∈ l.map bD,v.one = true:=fun v hv=>by
 simp only [List.mem_map] at hv
 obtain ⟨c,_,rfl⟩:=hv
 rfl
section
variable {rec : RT} {n : Nat} {s : Bs} {b b1 b2 b3 bT : Pos}
def rep (b1 b2 b3 : Pos) (x : Nat) : DV:=if x = 10 then .l b1 0 2 2 else if x = 34 then .l b2 0 2 2 else if x = 92 then .l b3 0 2 2 else .l0
def uJ (b1 b2 b3 bT : Pos) : List DV:=(List.range 256).map (rep b1 b2 b3) ++ [.l bT 0 3 3]
structure Rp (h : Hp) (b b1 b2 b3 bT : Pos) : Prop where
 row : h.bl.get b = some (.row .ex (uJ b1 b2 b3 bT))
 tr : ∃ k,h.bl.get bT = some (.row k [.s [92],.s [34],.s [10]])
 r1 : h.bl.get b1 = some (.row (.gr 1) [bD 92,bD 110])
 r2 : h.bl.get b2 = some (.row (.gr 1) [bD 92,bD 34])
 r3 : h.bl.get b3 = some (.row (.gr 1) [bD 92,bD 92])
 lo : b.toNat < h.next.toNat ∧ b1.toNat < h.next.toNat ∧ b2.toNat < h.next.toNat ∧ b3.toNat < h.next.toNat ∧ bT.toNat < h.next.toNat
variable {h : Hp}
theorem cBs (x : Nat) : (rep b1 b2 b3 x).one = true:=by
 unfold rep
 split
 ·rfl
 ·split
  ·rfl
  ·split <;> rfl
theorem Rp.rep (R : Rp h b b1 b2 b3 bT) {x : Nat} (hx : x < 256) : aA (.p b x) h = some (rep b1 b2 b3 x,h):=by
 have e : (uJ b1 b2 b3 bT)[x]? = some (Dd.rep b1 b2 b3 x):=by
  unfold uJ
  rw [List.getElem?_append_left (by simpa using hx),List.getElem?_map,List.getElem?_range hx]
  rfl
 simp only [aA,cellD,rowOf,R.row,e,cBs,if_true]
theorem Rp.tab (R : Rp h b b1 b2 b3 bT) : aA (.p b 256) h = some (.l bT 0 3 3,h):=by
 have e : (uJ b1 b2 b3 bT)[256]? = some (.l bT 0 3 3):=by
  unfold uJ
  rw [List.getElem?_append_right (by simp)]
  simp
 simp only [aA,cellD,rowOf,R.row,e]
 rfl
theorem bQk (x : Nat) (hx : x < 256) (h : Hp) : eL 256 1 (.p b 0) (bD x) h = some (.p b x,h):=by
 unfold eL
 simp only
 rw [if_pos (by show (0 : Int) ≤ (x : Int) ∧ (x : Int) < ((256 : Nat) : Int); omega)]
 show some (DV.p b (0 + (x : Int).toNat * 1),h) = _
 simp
theorem aTq (b : Pos) (o : Nat) (h : Hp) : aY (.p b o) h = some (.p b o,h):=rfl
theorem aUn (b : Pos) (o k : Nat) (h : Hp) : aB k (.p b o) h = some (.p b (o + k),h):=rfl
theorem cTf (b : Pos) (o l c : Nat) (h : Hp) : pEq (.slice 5) false (.l b o l c) .l0 h = some (.b true,h):=rfl
theorem cTu (h : Hp) : pEq (.slice 5) false .l0 .l0 h = some (.b false,h):=rfl
theorem aKf (b : Pos) (o l c : Nat) (h : Hp) : cB (.l b o l c) h = some (.i .i64 (Int.ofNat l),h):=rfl
theorem cQm (h : Hp) : aD .sub (.i .i64 (Int.ofNat 2)) (.i .i64 (Int.ofNat 1)) h = some (.i .i64 (Int.ofNat 1),h):=rfl
theorem aDk (x : Nat) : (spB x = false ∧ rep b1 b2 b3 x = .l0 ∧ vR x = [x]) ∨ (spB x = true ∧ ∃ q y,rep b1 b2 b3 x = .l q 0 2 2 ∧ vR x = [92,y] ∧ y < 256 ∧ ((q = b1 ∧ y = 110) ∨ (q = b2 ∧ y = 34) ∨ (q = b3 ∧ y = 92))):=by
 by_cases h1 : x = 10
 ·subst h1
  exact .inr ⟨rfl,b1,110,rfl,rfl,by decide,.inl ⟨rfl,rfl⟩⟩
 ·by_cases h2 : x = 34
  ·subst h2
   exact .inr ⟨rfl,b2,34,rfl,rfl,by decide,.inr (.inl ⟨rfl,rfl⟩)⟩
  ·by_cases h3 : x = 92
   ·subst h3
    exact .inr ⟨rfl,b3,92,rfl,rfl,by decide,.inr (.inr ⟨rfl,rfl⟩)⟩
   ·exact .inl ⟨spB_ff.2 ⟨h1,h2,h3⟩,by simp [rep,h1,h2,h3],by simp [vR,h1,h2,h3]⟩
theorem Rp.src (R : Rp h b b1 b2 b3 bT) {q : Pos} {y : Nat} (hq : (q = b1 ∧ y = 110) ∨ (q = b2 ∧ y = 34) ∨ (q = b3 ∧ y = 92)) : h.bl.get q = some (.row (.gr 1) [bD 92,bD y]) ∧ q.toNat < h.next.toNat:=by
 rcases hq with ⟨rfl,rfl⟩ | ⟨rfl,rfl⟩ | ⟨rfl,rfl⟩
 ·exact ⟨R.r1,R.lo.2.1⟩
 ·exact ⟨R.r2,R.lo.2.2.1⟩
 ·exact ⟨R.r3,R.lo.2.2.2.1⟩
theorem Rp.set (R : Rp h b b1 b2 b3 bT) {pb : Pos} {o : Ob} (hb : b ≠ pb) (h1 : b1 ≠ pb) (h2 : b2 ≠ pb) (h3 : b3 ≠ pb) (hT : bT ≠ pb) : Rp ⟨h.next,Tr.set o pb h.bl⟩ b b1 b2 b3 bT where
 row:=by rw [← R.row]; exact dXu _ _ _ _ hb
 tr:=by obtain ⟨k,hk⟩:=R.tr; exact ⟨k,by rw [← hk]; exact dXu _ _ _ _ hT⟩
 r1:=by rw [← R.r1]; exact dXu _ _ _ _ h1
 r2:=by rw [← R.r2]; exact dXu _ _ _ _ h2
 r3:=by rw [← R.r3]; exact dXu _ _ _ _ h3
 lo:=R.lo
def fZ (A : Bs) (N : Nat) : List DV:=A.map bD ++ List.replicate (N - A.length) (bD 0)
theorem bXp {A vs : Bs} {N : Nat} (h : A.length + vs.length ≤ N) : fR A.length (fZ A N) (vs.map bD) = some (fZ (A ++ vs) N):=by
 unfold fZ
 have e:=aZg (A.map bD) (List.replicate (N - A.length) (bD 0)) (vs.map bD)
 rw [List.length_map] at e
 rw [e]
 have key : ∀ (vs : Bs) (m : Nat),vs.length ≤ m → jS (List.replicate m (bD 0)) (vs.map bD) = some (vs.map bD ++ List.replicate (m - vs.length) (bD 0)):=by
  intro vs
  induction vs with
  | nil=>intro m _; cases m <;> rfl
  | cons x vs ih =>
   intro m hm
   obtain ⟨m,rfl⟩ : ∃ j,m = j + 1:=⟨m - 1,by simp at hm; omega⟩
   show (if (bD 0).one && (bD x).one then (jS (List.replicate m (bD 0)) (vs.map bD)).map (bD x :: ·) else none) = _
   have e1 : ((bD 0).one && (bD x).one) = true:=rfl
   rw [if_pos e1,ih m (by simp at hm; omega)]
   simp
 rw [key vs _ (by omega)]
 simp [Nat.sub_sub]
theorem aAs {A vs : Bs} {N : Nat} {pb : Pos} {h : Hp} (hg : h.bl.get pb = some (.row .ex (fZ A N))) (hN : A.length + vs.length ≤ N) :
  cE pb A.length (vs.map bD) h = some ⟨h.next,Tr.set (.row .ex (fZ (A ++ vs) N)) pb h.bl⟩:=by
 unfold cE
 simp only [hg]
 rw [bXp hN]
 rfl
theorem bQa (hs : s.length < 1000000) (hb : ∀ c ∈ s,c < 256) (pb : Pos) (N : Nat) (hN : N = (cY s).length) (n1 : b ≠ pb) (n2 : b1 ≠ pb) (n3 : b2 ≠ pb) (n4 : b3 ≠ pb) (n5 : bT ≠ pb) :
  ∀ (k i m : Nat) (h : Hp),i + k = s.length → k < m → Rp h b b1 b2 b3 bT → h.bl.get pb = some (.row .ex (fZ (cY (s.take i)) N)) →
  ∃ h',kF rec n m (.p b 0) (.s s) (.l pb 0 N N) (.i .i64 (Int.ofNat (cY (s.take i)).length)) (.i .i64 (Int.ofNat i)) h = some (.s (cY s),h'):=by
 have hql:=rH s
 have hsp : iR s ≤ s.length:=by
  clear hs hb hN hql
  induction s with
  | nil=>simp [iR]
  | cons x t ih=>simp only [iR,List.length_cons]; split <;> omega
 intro k
 induction k with
 | zero =>
  intro i m h hi hm R hg
  obtain ⟨m,rfl⟩ : ∃ j,m = j + 1:=⟨m - 1,by omega⟩
  have hil : i = s.length:=by omega
  subst hil
  have l1 : decide (Int.ofNat s.length < Int.ofNat s.length) = false:=decide_eq_false (Int.lt_irrefl _)
  refine ⟨h, ?_⟩
  show mC rec n (kF rec n m) _ _ _ _ _ h = _
  unfold mC dL
  rw [List.take_length] at hg
  have hrow : fZ (cY s) N = (cY s).map bD:=by unfold fZ; rw [hN]; simp
  rw [hrow] at hg
  have hc : cellsAt pb 0 N h = some ((cY s).map bD):=by
   unfold cellsAt rowOf
   simp only [hg,List.drop_zero]
   have:=mG ((cY s).map bD) (aVu _)
   rw [List.length_map,← hN] at this
   exact this
  simp only [iM,aI,cO,l1,bW,eZ,hc,tR (bAo hb)]
 | succ k ih =>
  intro i m h hi hm R hg
  obtain ⟨m,rfl⟩ : ∃ j,m = j + 1:=⟨m - 1,by omega⟩
  have hlt : i < s.length:=by omega
  obtain ⟨x,hx⟩ : ∃ x,s[i]? = some x:=⟨s[i],List.getElem?_eq_getElem hlt⟩
  have hxb : x < 256:=hb x (List.mem_of_getElem? hx)
  have l1 : decide (Int.ofNat i < Int.ofNat s.length) = true:=decide_eq_true (by show (i : Int) < (s.length : Int); omega)
  have ht : s.take (i + 1) = s.take i ++ [x]:=by rw [List.take_add_one,hx]; rfl
  have hq : cY (s.take (i + 1)) = cY (s.take i) ++ vR x:=by rw [ht,zM,bPg]
  have hle : (cY (s.take i)).length + (vR x).length ≤ N:=by
   have e : cY s = cY (s.take (i + 1)) ++ cY (s.drop (i + 1)):=by rw [← zM,List.take_append_drop]
   rw [hN,e,hq]
   simp only [List.length_append]
   omega
  show ∃ h',mC rec n (kF rec n m) _ _ _ _ _ h = _
  unfold mC wD
  rcases aDk (b1:=b1) (b2:=b2) (b3:=b3) x with ⟨c1,c2,c3⟩ | ⟨c1,q,y,c2,c3,c4,c5⟩
  ·rw [c3] at hle hq
   have hle' : (cY (s.take i)).length < N:=by
    have : (cY (s.take i)).length + 1 ≤ N:=hle
    omega
   have hst:=aAs (vs:=[x]) hg (by simpa using hle)
   obtain ⟨h',hh⟩:=ih (i + 1) m ⟨h.next,Tr.set (.row .ex (fZ (cY (s.take i) ++ [x]) N)) pb h.bl⟩ (by omega) (by omega) (R.set n1 n2 n3 n4 n5) (by rw [hq]; exact dXv _ _ _)
   refine ⟨h', ?_⟩
   rw [hq] at hh
   have e1 : aE 1 (.l pb 0 N N) (.i .i64 (Int.ofNat (cY (s.take i)).length)) h = some (.p pb (cY (s.take i)).length,h):=by
    unfold aE
    simp only
    rw [if_pos (by show (0 : Int) ≤ ((cY (s.take i)).length : Int) ∧ ((cY (s.take i)).length : Int) < (N : Int); omega)]
    show some (DV.p pb (0 + ((cY (s.take i)).length : Int).toNat * 1),h) = _
    simp
   have e2 : aG 1 (.p pb (cY (s.take i)).length) (bD x) h = some (aS,⟨h.next,Tr.set (.row .ex (fZ (cY (s.take i) ++ [x]) N)) pb h.bl⟩):=by
    unfold aG
    simp only [dD]
    rw [if_pos (show [bD x].length = 1 from rfl),show ([DV.i .u8 (Int.ofNat x)] : List DV) = [x].map bD from rfl,hst]
   have e3 : (cY (s.take i)).length + 1 = (cY (s.take i) ++ [x]).length:=by simp
   simp only [iM,aI,cO,l1,bF,yZ hx,aTq,aUn,Nat.add_zero,bQk x hxb,R.rep hxb,c2,cTu,bW,e1,e2,bZ (cY (s.take i)).length 1 _ (by omega)]
   unfold oT
   simp only [bZ i 1 _ (show i + 1 < _ by omega),aI]
   rw [e3]
   exact hh
  ·rw [c3] at hle hq
   have hle' : (cY (s.take i)).length + 2 ≤ N:=by simpa using hle
   have hst:=aAs (vs:=[92,y]) hg (by simpa using hle)
   obtain ⟨h',hh⟩:=ih (i + 1) m ⟨h.next,Tr.set (.row .ex (fZ (cY (s.take i) ++ [92,y]) N)) pb h.bl⟩ (by omega) (by omega) (R.set n1 n2 n3 n4 n5) (by rw [hq]; exact dXv _ _ _)
   refine ⟨h', ?_⟩
   rw [hq] at hh
   obtain ⟨d1,d2⟩:=R.src c5
   have hne : N ≠ (cY (s.take i)).length:=by omega
   have e1 : dF 1 (.l pb 0 N N) (some (.i .i64 (Int.ofNat (cY (s.take i)).length))) none h = some (.l pb (cY (s.take i)).length (N - (cY (s.take i)).length) (N - (cY (s.take i)).length),h):=by
    have q1 : hiD none N N = some N:=by simp [hiD]
    have q2 : loD (some (.i .i64 (Int.ofNat (cY (s.take i)).length))) N = some (cY (s.take i)).length:=by
     simp only [loD,fL]
     rw [if_pos (by show (0 : Int) ≤ ((cY (s.take i)).length : Int) ∧ ((cY (s.take i)).length : Int) ≤ (N : Int); omega)]
     rfl
    simp only [dF,q1,q2,hg,if_neg hne,Nat.zero_add,Nat.mul_one]
   have e2 : lM 1 (.l q 0 2 2) h = some (2,[bD 92,bD y]):=by
    simp only [lM,cellsAt,rowOf,d1]
    rfl
   have e3 : rJ 1 (.l pb (cY (s.take i)).length (N - (cY (s.take i)).length) (N - (cY (s.take i)).length)) (.l q 0 2 2) h = some (.i .i64 (Int.ofNat 2),⟨h.next,Tr.set (.row .ex (fZ (cY (s.take i) ++ [92,y]) N)) pb h.bl⟩):=by
    unfold rJ
    simp only [e2]
    rw [if_pos (by omega),show ([DV.i .u8 (Int.ofNat 92),DV.i .u8 (Int.ofNat y)] : List DV) = [92,y].map bD from rfl,hst]
    rfl
   have e4 : (cY (s.take i)).length + 2 = (cY (s.take i) ++ [92,y]).length:=by simp
   simp only [iM,aI,cO,l1,bF,yZ hx,aTq,aUn,Nat.add_zero,bQk x hxb,R.rep hxb,c2,cTf,e1,e3,bZ (cY (s.take i)).length 2 _ (by omega)]
   unfold oT
   simp only [bZ i 1 _ (show i + 1 < _ by omega),aI]
   rw [e4]
   exact hh
theorem aNs (hs : s.length < 1000000) (hb : ∀ c ∈ s,c < 256) (hn : s.length < n) {h : Hp} (R : Rp h b b1 b2 b3 bT) (any : Bool) (ha : any = decide (iR s ≠ 0)) :
  ∃ h',bC rec n (.p b 0) (.s s) (.i .i64 (Int.ofNat (s.length + iR s))) (.b any) h = some (.s (cY s),h'):=by
 unfold bC
 have hsp : iR s ≤ s.length:=by
  clear hs hb hn ha
  induction s with
  | nil=>simp [iR]
  | cons x t ih=>simp only [iR,List.length_cons]; split <;> omega
 by_cases c : iR s = 0
 ·have e : any = false:=by rw [ha]; simp [c]
  refine ⟨h, ?_⟩
  rw [e,aBo c]
  simp only [show ∀ h,gQ .not (.b false) h = some (.b true,h) from fun _=>rfl,aI,bF]
 ·have e : any = true:=by rw [ha]; simp [c]
  rw [e]
  simp only [show ∀ h,gQ .not (.b true) h = some (.b false,h) from fun _=>rfl,aI,bW]
  unfold aAf
  have hm : bU 1 1 [(.i .u8 (Int.ofNat 0))] (.i .i64 (Int.ofNat (s.length + iR s))) (.i .i64 (Int.ofNat (s.length + iR s))) h = some (.l h.next 0 (s.length + iR s) (s.length + iR s),⟨h.next.succ,Tr.set (.row .ex (List.replicate (s.length + iR s) (bD 0))) h.next h.bl⟩):=by
   unfold bU
   simp only
   rw [if_pos (by
    show (0 : Int) ≤ ((s.length + iR s : Nat) : Int) ∧ ((s.length + iR s : Nat) : Int) ≤ ((s.length + iR s : Nat) : Int) ∧ ((s.length + iR s : Nat) : Int).toNat * 1 ≤ 2 ^ 30 ∧ ((s.length + iR s : Nat) : Int).toNat * 1 ≤ 2 ^ 24 ∧ ((s.length + iR s : Nat) : Int) < 2 ^ 32
    omega)]
   show some (DV.l h.next 0 ((s.length + iR s : Nat) : Int).toNat ((s.length + iR s : Nat) : Int).toNat,Hp.mk h.next.succ (Tr.set (.row .ex (List.replicate ((s.length + iR s : Nat) : Int).toNat [bD 0]).flatten) h.next h.bl)) = _
   rw [Int.toNat_natCast]
   simp
  simp only [hm,aI]
  have ns:=dXw h.next
  have ne : ∀ {p : Pos},p.toNat < h.next.toNat → p ≠ h.next:=fun hp e=>by subst e; omega
  have R0:=R.set (o:=.row .ex (List.replicate (s.length + iR s) (bD 0))) (ne R.lo.1) (ne R.lo.2.1) (ne R.lo.2.2.1) (ne R.lo.2.2.2.1) (ne R.lo.2.2.2.2)
  have R' : Rp ⟨h.next.succ,Tr.set (.row .ex (List.replicate (s.length + iR s) (bD 0))) h.next h.bl⟩ b b1 b2 b3 bT:=⟨R0.row,R0.tr,R0.r1,R0.r2,R0.r3,by
   obtain ⟨l1,l2,l3,l4,l5⟩:=R.lo
   show _ < h.next.succ.toNat ∧ _ < h.next.succ.toNat ∧ _ < h.next.succ.toNat ∧ _ < h.next.succ.toNat ∧ _ < h.next.succ.toNat
   omega⟩
  obtain ⟨h',hh⟩:=bQa (rec:=rec) (n:=n) hs hb h.next (s.length + iR s) (rH s).symm (ne R.lo.1) (ne R.lo.2.1) (ne R.lo.2.2.1) (ne R.lo.2.2.2.1) (ne R.lo.2.2.2.2) s.length 0 n _ (by omega) hn R'
   (by show (Tr.set _ h.next h.bl).get h.next = _
       rw [dXv]
       simp [fZ,cY])
  exact ⟨h',hh⟩
theorem bFp (hs : s.length < 1000000) (hb : ∀ c ∈ s,c < 256) (hn : s.length < n) {h : Hp} (R : Rp h b b1 b2 b3 bT) : ∀ (k i m : Nat) (any : Bool),i + k = s.length → k < m → any = decide (iR (s.take i) ≠ 0) →
  ∃ h',kP rec n m (.p b 0) (.s s) (.i .i64 (Int.ofNat (s.length + iR (s.take i)))) (.b any) (.i .i64 (Int.ofNat i)) h = some (.s (cY s),h'):=by
 have hsp : ∀ s : Bs,iR s ≤ s.length:=by
  intro s
  induction s with
  | nil=>simp [iR]
  | cons x t ih=>simp only [iR,List.length_cons]; split <;> omega
 intro k
 induction k with
 | zero =>
  intro i m any hi hm ha
  obtain ⟨m,rfl⟩ : ∃ j,m = j + 1:=⟨m - 1,by omega⟩
  have hil : i = s.length:=by omega
  subst hil
  have l1 : decide (Int.ofNat s.length < Int.ofNat s.length) = false:=decide_eq_false (Int.lt_irrefl _)
  rw [List.take_length] at ha ⊢
  obtain ⟨h',hh⟩:=aNs (rec:=rec) hs hb hn R any ha
  refine ⟨h', ?_⟩
  show mH rec n (kP rec n m) _ _ _ _ _ h = _
  unfold mH
  simp only [iM,aI,cO,l1,bW]
  exact hh
 | succ k ih =>
  intro i m any hi hm ha
  obtain ⟨m,rfl⟩ : ∃ j,m = j + 1:=⟨m - 1,by omega⟩
  have hlt : i < s.length:=by omega
  obtain ⟨x,hx⟩ : ∃ x,s[i]? = some x:=⟨s[i],List.getElem?_eq_getElem hlt⟩
  have hxb : x < 256:=hb x (List.mem_of_getElem? hx)
  have l1 : decide (Int.ofNat i < Int.ofNat s.length) = true:=decide_eq_true (by show (i : Int) < (s.length : Int); omega)
  have ht : iR (s.take (i + 1)) = iR (s.take i) + (if spB x then 1 else 0):=by
   rw [List.take_add_one,hx]
   show iR (s.take i ++ [x]) = _
   rw [bBc]
   simp [iR]
  have hsl:=hsp (s.take i)
  have htl : (s.take i).length ≤ i:=by rw [List.length_take]; omega
  show ∃ h',mH rec n (kP rec n m) _ _ _ _ _ h = _
  unfold mH xF
  rcases aDk (b1:=b1) (b2:=b2) (b3:=b3) x with ⟨c1,c2,c3⟩ | ⟨c1,q,y,c2,c3,c4,c5⟩
  ·rw [c1] at ht
   simp only [Bool.false_eq_true,if_false,Nat.add_zero] at ht
   obtain ⟨h',hh⟩:=ih (i + 1) m any (by omega) (by omega) (by rw [ht]; exact ha)
   rw [ht] at hh
   refine ⟨h', ?_⟩
   simp only [iM,aI,cO,l1,bF,yZ hx,aTq,aUn,Nat.add_zero,bQk x hxb,R.rep hxb,c2,cTu,bW]
   unfold oY
   simp only [bZ i 1 _ (show i + 1 < _ by omega),aI]
   exact hh
  ·rw [c1] at ht
   simp only [if_true] at ht
   obtain ⟨h',hh⟩:=ih (i + 1) m true (by omega) (by omega) (by rw [ht]; simp)
   rw [ht,← Nat.add_assoc] at hh
   refine ⟨h', ?_⟩
   simp only [iM,aI,cO,l1,bF,yZ hx,aTq,aUn,Nat.add_zero,bQk x hxb,R.rep hxb,c2,cTf,aKf,cQm,bZ (s.length + iR (s.take i)) 1 _ (by omega)]
   unfold oY
   simp only [bZ i 1 _ (show i + 1 < _ by omega),aI]
   exact hh
theorem yI {kk : TT7} {c : Nat} {q : Pos} {y : Nat} (hs : s.length < 1000000) (hc : c < 256) {h : Hp} (R : Rp h b b1 b2 b3 bT) (i sz : Nat) (hi : i < 3) (hT : ∃ k l,h.bl.get bT = some (.row k l) ∧ l[i]? = some (.s [c])) (hrep : rep b1 b2 b3 c = .l q 0 2 2) (hsz : sz + gM c s < 100000000) (any : Bool) :
  oO rec n kk (.p b 0) (.s s) (.i .i64 (Int.ofNat sz)) (.b any) (.l bT 0 3 3) (.i .i64 (Int.ofNat 3)) (.i .i64 (Int.ofNat i)) h =
   kk (.p b 0) (.s s) (.i .i64 (Int.ofNat (sz + gM c s))) (.b (any || decide (gM c s ≠ 0))) (.l bT 0 3 3) (.i .i64 (Int.ofNat 3)) (.i .i64 (Int.ofNat (i + 1))) h:=by
 obtain ⟨k,l,hg,hl⟩:=hT
 have e1 : aE 1 (.l bT 0 3 3) (.i .i64 (Int.ofNat i)) h = some (.p bT i,h):=by
  unfold aE
  simp only
  rw [if_pos (by show (0 : Int) ≤ (i : Int) ∧ (i : Int) < ((3 : Nat) : Int); omega)]
  show some (DV.p bT (0 + (i : Int).toNat * 1),h) = _
  simp
 have e2 : aA (.p bT i) h = some (.s [c],h):=by
  simp only [aA,cellD,rowOf,hg,hl]
  rfl
 have hcb : Nat.blt c 256 = true:=by
  rw [show Nat.blt c 256 = Nat.ble (c + 1) 256 from rfl]
  exact Nat.ble_eq_true_of_le hc
 have hsb : Nat.ble s.length 4000000000 = true:=Nat.ble_eq_true_of_le (by omega)
 have e3 : tY [.s s,.s [c]] h = some (.i .i64 (Int.ofNat (gM c s)),h):=by
  simp only [tY,hcb,hsb,cond_true]
 unfold oO
 simp only [e1,aI,e2,e3,lL]
 by_cases hz : gM c s = 0
 ·have l1 : (Int.ofNat (gM c s) != Int.ofNat 0) = false:=by rw [hz]; rfl
  simp only [l1,bW]
  unfold oX
  simp only [bZ i 1 _ (show i + 1 < _ by omega),aI,hz,Nat.add_zero,ne_eq,not_true,decide_false,Bool.or_false]
 ·have l1 : (Int.ofNat (gM c s) != Int.ofNat 0) = true:=by
   rw [bne_iff_ne]
   intro e
   exact hz (Int.ofNat.inj e)
  have e4 : aD .mul (.i .i64 (Int.ofNat (gM c s))) (.i .i64 (Int.ofNat 1)) h = some (.i .i64 (Int.ofNat (gM c s)),h):=by
   have:=dQd (gM c s) 1 h (by omega)
   rwa [Nat.mul_one] at this
  simp only [l1,bF,show bX (.s [c]) (.i .i64 (Int.ofNat 0)) h = some (bD c,h) from rfl,aI,aTq,aUn,Nat.add_zero,bQk c hc,R.rep hc,hrep,aKf,cQm,e4,bZ sz (gM c s) h (by omega)]
  unfold oX
  simp only [bZ i 1 _ (show i + 1 < _ by omega),aI,hz,ne_eq,not_false_eq_true,decide_true,Bool.or_true]
theorem aHn (c : Nat) : ∀ s : Bs,gM c s ≤ s.length
 | []=>Nat.le_refl _
 | x :: t=>by
  have:=aHn c t
  unfold gM
  cases Nat.beq x c <;> simp <;> omega
theorem cLi (hs : s.length < 1000000) (hb : ∀ c ∈ s,c < 256) (hn : s.length + 10 < n) {h : Hp} (R : Rp h b b1 b2 b3 bT) : ∃ h',s582 rec n (.p b 0) (.s s) h = some (.s (cY s),h'):=by
 unfold s582 aEt aEo aGf
 simp only [iM,aI,aTq,aUn,Nat.zero_add,R.tab,aKf,show ∀ h,aD .mul (.i .i64 (Int.ofNat 3)) (.i .i64 (Int.ofNat 8)) h = some (.i .i64 (Int.ofNat 24),h) from fun _=>rfl,tP]
 unfold wQ
 by_cases c : 24 ≤ s.length
 ·have l1 : decide (Int.ofNat 24 ≤ Int.ofNat s.length) = true:=decide_eq_true (by show ((24 : Nat) : Int) ≤ (s.length : Int); omega)
  simp only [l1,bF]
  unfold aIw
  simp only [aI,aTq,aUn,Nat.zero_add,R.tab,aKf]
  obtain ⟨n,rfl⟩ : ∃ j,n = j + 1 + 1 + 1 + 1:=⟨n - 4,by omega⟩
  obtain ⟨kT,hT⟩:=R.tr
  have q1:=aHn 92 s
  have q2:=aHn 34 s
  have q3:=aHn 10 s
  have qs:=bAv s
  have lt : ∀ i,i < 3 → decide (Int.ofNat i < Int.ofNat 3) = true:=fun i hi=>decide_eq_true (by show (i : Int) < ((3 : Nat) : Int); omega)
  have l33 : decide (Int.ofNat 3 < Int.ofNat 3) = false:=rfl
  have step : ∀ (m i sz : Nat) (any : Bool),i < 3 → iG rec (n + 1 + 1 + 1 + 1) (m + 1) (.p b 0) (.s s) (.i .i64 (Int.ofNat sz)) (.b any) (.l bT 0 3 3) (.i .i64 (Int.ofNat 3)) (.i .i64 (Int.ofNat i)) h = oO rec (n + 1 + 1 + 1 + 1) (iG rec (n + 1 + 1 + 1 + 1) m) (.p b 0) (.s s) (.i .i64 (Int.ofNat sz)) (.b any) (.l bT 0 3 3) (.i .i64 (Int.ofNat 3)) (.i .i64 (Int.ofNat i)) h:=by
   intro m i sz any hi
   show lW rec _ (iG rec _ m) _ _ _ _ _ _ _ h = _
   unfold lW sX
   simp only [cO,lt i hi,aI,bF]
  have last : ∀ (m sz : Nat) (any : Bool),iG rec (n + 1 + 1 + 1 + 1) (m + 1) (.p b 0) (.s s) (.i .i64 (Int.ofNat sz)) (.b any) (.l bT 0 3 3) (.i .i64 (Int.ofNat 3)) (.i .i64 (Int.ofNat 3)) h = bC rec (n + 1 + 1 + 1 + 1) (.p b 0) (.s s) (.i .i64 (Int.ofNat sz)) (.b any) h:=by
   intro m sz any
   show lW rec _ (iG rec _ m) _ _ _ _ _ _ _ h = _
   unfold lW sX
   simp only [cO,l33,aI,bW]
  unfold wS aJv
  rw [step _ 0 _ _ (by omega),yI (c:=92) (q:=b3) (y:=92) hs (by omega) R 0 _ (by omega) ⟨kT,_,hT,rfl⟩ rfl (by omega),
   step _ 1 _ _ (by omega),yI (c:=34) (q:=b2) (y:=34) hs (by omega) R 1 _ (by omega) ⟨kT,_,hT,rfl⟩ rfl (by omega),
   step _ 2 _ _ (by omega),yI (c:=10) (q:=b1) (y:=110) hs (by omega) R 2 _ (by omega) ⟨kT,_,hT,rfl⟩ rfl (by omega),last]
  rw [show s.length + gM 92 s + gM 34 s + gM 10 s = s.length + iR s by omega]
  exact aNs hs hb (by omega) R _ (by
   rw [← qs]
   by_cases z1 : gM 92 s = 0
   ·by_cases z2 : gM 34 s = 0
    ·by_cases z3 : gM 10 s = 0
     ·simp [z1,z2,z3]
     ·simp [z1,z2,z3]
    ·simp [z1,z2]
   ·simp [z1])
 ·have l1 : decide (Int.ofNat 24 ≤ Int.ofNat s.length) = false:=decide_eq_false (by show ¬ ((24 : Nat) : Int) ≤ (s.length : Int); omega)
  simp only [l1,bW]
  obtain ⟨h',hh⟩:=bFp (rec:=rec) hs hb (by omega : s.length < n) R s.length 0 n false (by omega) (by omega) (by simp [iR])
  exact ⟨h',hh⟩
end
end Go.Dd

namespace Go.Dd
open Go.Proofs
theorem aEf (a b : Bs) : uL a b = decide (a = b):=by
 rw [Bool.eq_iff_iff,oZ,decide_eq_true_eq]
theorem fI (a b : Bs) (h : Hp) : bI .eql (.s a) (.s b) h = some (.b (decide (a = b)),h):=by
 show some (DV.b (uL a b),h) = _
 rw [aEf]
theorem oP (a b : Bs) (h : Hp) : bI .neq (.s a) (.s b) h = some (.b (!decide (a = b)),h):=by
 show some (DV.b (!uL a b),h) = _
 rw [aEf]
theorem bQ (a b : Bs) (h : Hp) (hl : a.length + b.length < 4611686018427387904) : bI .add (.s a) (.s b) h = some (.s (a ++ b),h):=by
 have e : ¬ ((a.length + b.length : Nat) : Int) > IntKind.i64.max:=by
  have : IntKind.i64.max = 9223372036854775807:=by decide
  rw [this]
  omega
 simp only [bI,aVd,if_neg e]
def TxS (v : DV) (l : List Bs) (h : Hp) : Prop:=((v = .l0 ∨ v = .le) ∧ l = []) ∨ ∃ b o cap k row,v = .l b o l.length cap ∧ h.bl.get b = some (.row k row) ∧ (∀ j,j < l.length → row[o + j]? = (l[j]?).map DV.s) ∧ b.toNat < h.next.toNat ∧ l.length ≤ cap
theorem TxS.stay {v : DV} {l : List Bs} {h h' : Hp} (T : TxS v l h) (L : Lo h.next.toNat h h') : TxS v l h':=by
 rcases T with T | ⟨b,o,cap,k,row,e1,e2,e3,e4⟩
 ·exact .inl T
 ·exact .inr ⟨b,o,cap,k,row,e1,by rw [L.get b e4.1]; exact e2,e3,Nat.lt_of_lt_of_le e4.1 L.next,e4.2⟩
theorem TxS.stay' {v : DV} {l : List Bs} {h h' : Hp} (T : TxS v l h) (hn : h.next.toNat ≤ h'.next.toNat) (hg : ∀ b o len cap,v = .l b o len cap → h'.bl.get b = h.bl.get b) : TxS v l h':=by
 rcases T with T | ⟨b,o,cap,k,row,e1,e2,e3,e4⟩
 ·exact .inl T
 ·exact .inr ⟨b,o,cap,k,row,e1,by rw [hg b o _ cap e1]; exact e2,e3,Nat.lt_of_lt_of_le e4.1 hn,e4.2⟩
theorem TxS.one {v : DV} {l : List Bs} {h : Hp} (T : TxS v l h) : v.one = true:=by
 rcases T with ⟨rfl | rfl,_⟩ | ⟨b,o,cap,k,row,rfl,_⟩ <;> rfl
theorem TxS.cells {v : DV} {l : List Bs} {h : Hp} (T : TxS v l h) : dD v = some [v]:=by
 rcases T with ⟨rfl | rfl,_⟩ | ⟨b,o,cap,k,row,rfl,_⟩ <;> rfl
theorem TxS.len {v : DV} {l : List Bs} {h : Hp} (T : TxS v l h) (g : Hp) : cB v g = some (.i .i64 (Int.ofNat l.length),g):=by
 rcases T with ⟨rfl | rfl,rfl⟩ | ⟨b,o,cap,k,row,rfl,_⟩ <;> rfl
theorem TxS.at {v : DV} {l : List Bs} {h : Hp} (T : TxS v l h) {i : Nat} {t : Bs} (hi : l[i]? = some t) : ∃ p,(∀ g,aE 1 v (.i .i64 (Int.ofNat i)) g = some (p,g)) ∧ aA p h = some (.s t,h):=by
 have hlt : i < l.length:=by
  rcases Nat.lt_or_ge i l.length with h | h
  ·exact h
  ·rw [List.getElem?_eq_none h] at hi; cases hi
 rcases T with ⟨_,rfl⟩ | ⟨b,o,cap,k,row,rfl,e2,e3,e4⟩
 ·simp at hlt
 ·refine ⟨.p b (o + i),fun g => ?_, ?_⟩
  ·unfold aE
   simp only
   rw [if_pos (by show (0 : Int) ≤ (i : Int) ∧ (i : Int) < (l.length : Int); omega)]
   show some (DV.p b (o + (i : Int).toNat * 1),g) = _
   simp
  ·have:=e3 i hlt
   rw [hi] at this
   simp only [aA,cellD,rowOf,e2,this,Option.map_some,DV.one,if_true]
theorem TxS.drop {v : DV} {l : List Bs} {h : Hp} (T : TxS v l h) {i : Nat} (hi : i ≤ l.length) : ∃ v',dF 1 v (some (.i .i64 (Int.ofNat i))) none h = some (v',h) ∧ TxS v' (l.drop i) h:=by
 rcases T with ⟨hv,rfl⟩ | ⟨b,o,cap,k,row,rfl,e2,e3,e4,e5⟩
 ·have : i = 0:=by simpa using hi
  subst this
  rcases hv with rfl | rfl
  ·exact ⟨.l0,rfl,.inl ⟨.inl rfl,rfl⟩⟩
  ·exact ⟨.le,rfl,.inl ⟨.inr rfl,rfl⟩⟩
 ·have q1 : hiD none l.length cap = some l.length:=by simp [hiD,e5]
  have q2 : loD (some (.i .i64 (Int.ofNat i))) l.length = some i:=by
   simp only [loD,fL]
   rw [if_pos (by show (0 : Int) ≤ (i : Int) ∧ (i : Int) ≤ (l.length : Int); omega)]
   rfl
  have main : ∀ o',(o' = o + i ∨ i = l.length) → TxS (.l b o' (l.length - i) (cap - i)) (l.drop i) h:=fun o' ho=>.inr ⟨b,o',cap - i,k,row,by rw [List.length_drop],e2,fun j hj=>by
   rw [List.length_drop] at hj
   rcases ho with rfl | ho
   ·rw [List.getElem?_drop,← e3 (i + j) (by omega)]
    congr 1
    omega
   ·omega,e4,by rw [List.length_drop]; omega⟩
  have gr : ∀ (c : Prop) [Decidable c],(c → i = l.length) → ∃ v',(if c then some (DV.le,h) else some (DV.l b (o + i * 1) (l.length - i) (cap - i),h)) = some (v',h) ∧ TxS v' (l.drop i) h:=by
   intro c _ hc
   by_cases q : c
   ·rw [if_pos q]
    refine ⟨_,rfl,.inl ⟨.inr rfl, ?_⟩⟩
    rw [hc q,List.drop_length]
   ·rw [if_neg q,Nat.mul_one]
    exact ⟨_,rfl,main _ (.inl rfl)⟩
  have eq : cap = i → i = l.length:=fun h=>by omega
  cases k with
  | ro =>
   refine ⟨_,by simp only [dF,q1,q2,e2]; rfl, ?_⟩
   by_cases q : cap = i
   ·rw [if_pos q]; exact main _ (.inr (eq q))
   ·rw [if_neg q,Nat.mul_one]; exact main _ (.inl rfl)
  | ex =>
   refine ⟨_,by simp only [dF,q1,q2,e2]; rfl, ?_⟩
   by_cases q : cap = i
   ·rw [if_pos q]; exact main _ (.inr (eq q))
   ·rw [if_neg q,Nat.mul_one]; exact main _ (.inl rfl)
  | gr es =>
   have:=gr (cap = i) eq
   simpa only [dF,q1,q2,e2] using this
  | sp =>
   have:=gr (cap = i) eq
   simpa only [dF,q1,q2,e2] using this
theorem GrS.txs {v : DV} {l : List Bs} {lo : Nat} {h : Hp} (G : GrS v (l.map DV.s) lo h) : TxS v l h:=by
 rcases G with ⟨rfl,e⟩ | ⟨b,rfl,e2,e3,e4⟩
 ·exact .inl ⟨.inl rfl,by simpa using e⟩
 ·exact .inr ⟨b,0,l.length,_,_,by simp,e2,fun j _=>by simp,e4,Nat.le_refl _⟩
def StC (ca : List DV) (st : Stp) (h : Hp) : Prop:=∃ v,ca = [.i .i64 st.op,.s st.nm,.s st.sup,v,.s st.tx,.i .i64 st.n] ∧ TxS v st.names h
theorem StC.stay {ca : List DV} {st : Stp} {h h' : Hp} (T : StC ca st h) (L : Lo h.next.toNat h h') : StC ca st h':=by
 obtain ⟨v,e,t⟩:=T
 exact ⟨v,e,t.stay L⟩
theorem StC.len {ca : List DV} {st : Stp} {h : Hp} (T : StC ca st h) : ca.length = 6:=by
 obtain ⟨v,rfl,_⟩:=T; rfl
theorem StC.one {ca : List DV} {st : Stp} {h : Hp} (T : StC ca st h) : ∀ v ∈ ca,v.one = true:=by
 obtain ⟨v,rfl,t⟩:=T
 intro u hu
 simp only [List.mem_cons,List.not_mem_nil,or_false] at hu
 rcases hu with rfl | rfl | rfl | rfl | rfl | rfl <;> first | rfl | exact t.one
theorem dVi (cs : List DV) (h : Hp) : dA (.a cs) h = some (.p h.next 0,⟨h.next.succ,Tr.set (.row .ex cs) h.next h.bl⟩):=rfl
theorem aCd (cs : List DV) (h : Hp) : bY cs h = some (.p h.next 0,⟨h.next.succ,Tr.set (.row .ex cs) h.next h.bl⟩):=rfl
theorem iN (b : Pos) (o k : Nat) (h : Hp) : aB k (.p b o) h = some (.p b (o + k),h):=rfl
theorem sO {b : Pos} {k : Kind} {row : List DV} {o : Nat} {v : DV} {h : Hp} (hg : h.bl.get b = some (.row k row)) (hv : row[o]? = some v) (ho : v.one = true) : aA (.p b o) h = some (v,h):=by
 simp only [aA,cellD,rowOf,hg,hv,ho,if_true]
theorem ld6 {b : Pos} {k : Kind} {row : List DV} {h : Hp} (hg : h.bl.get b = some (.row k row)) (hl : row.length = 6) (ho : ∀ v ∈ row,v.one = true) : aK 6 (.p b 0) h = some (.a row,h):=by
 have:=mG row ho
 rw [hl] at this
 simp only [aK,cellsAt,rowOf,hg,List.drop_zero,this]
theorem aNw : ∀ (l vs : List DV),l.length = vs.length → (∀ v ∈ l,v.one = true) → (∀ v ∈ vs,v.one = true) → jS l vs = some vs
 | [],[],_,_,_=>rfl
 | x :: l,v :: vs,h,h1,h2=>by
  show (if x.one && v.one then (jS l vs).map (v :: ·) else none) = _
  have e:=aNw l vs (by simpa using h) (fun z hz=>h1 z (by simp [hz])) (fun z hz=>h2 z (by simp [hz]))
  rw [h1 x (by simp),h2 v (by simp),e]
  rfl
theorem st6 {b : Pos} {row ca : List DV} {h : Hp} (hg : h.bl.get b = some (.row .ex row)) (hl : row.length = 6) (ho : ∀ v ∈ row,v.one = true) (hc : ca.length = 6) (h1 : ∀ v ∈ ca,v.one = true) :
  aG 6 (.p b 0) (.a ca) h = some (aS,⟨h.next,Tr.set (.row .ex ca) b h.bl⟩):=by
 have : fR 0 row ca = some ca:=aNw row ca (by rw [hl,hc]) ho h1
 simp only [aG,dD,hc,if_true,cE,hg,this,Kind.writable]
theorem Lo.new (o : Ob) (h : Hp) : Lo h.next.toNat h ⟨h.next.succ,Tr.set o h.next h.bl⟩:=⟨by rw [dXw]; exact Nat.le_succ _,fun p hp=>dXu _ _ _ _ (fun e=>by subst e; exact Nat.lt_irrefl _ hp)⟩
theorem Lo.set {lo : Nat} {h : Hp} (o : Ob) {b : Pos} (hb : lo ≤ b.toNat) : Lo lo h ⟨h.next,Tr.set o b h.bl⟩:=⟨Nat.le_refl _,fun p hp=>dXu _ _ _ _ (fun e=>by subst e; omega)⟩
theorem Lo.mono {lo lo' : Nat} {a b : Hp} (u : Lo lo a b) (h : lo' ≤ lo) : Lo lo' a b:=⟨u.next,fun p hp=>u.get p (Nat.lt_of_lt_of_le hp h)⟩
section
variable {rec : RT} {n : Nat}
theorem aWw {a b : Nat} : (Int.ofNat a != Int.ofNat b) = !decide (a = b):=by
 by_cases h : a = b
 ·subst h; simp
 ·have : Int.ofNat a ≠ Int.ofNat b:=fun e=>h (Int.ofNat.inj e)
  rw [decide_eq_false h]
  exact bne_iff_ne.2 this
theorem nbI (a b : Int) : (a != b) = !decide (a = b):=by
 by_cases h : a = b
 ·subst h; simp
 ·simp [h]
theorem jL (c : Bool) (x y : aH) : aT (.b c) x y = if c = true then x else y:=by cases c <;> rfl
theorem gDt (c : Bool) (r : aH) (h : Hp) : gD (.b c) true r h = if c = true then r else some (aS,h):=by cases c <;> rfl
theorem aSb {p q : Pos} {ra rb : List DV} {va vb : DV} {la lb : List Bs} {h : Hp} (hp : h.bl.get p = some (.row .ex ra)) (hq : h.bl.get q = some (.row .ex rb)) (e1 : ra[3]? = some va) (e2 : rb[3]? = some vb) (Ta : TxS va la h) (Tb : TxS vb lb h) (hl : la.length = lb.length) (hlen : la.length < 1000000000) :
  ∀ (k i m : Nat),i + k = la.length → k < m → nQ rec n m (.p p 0) (.p q 0) (.i .i64 (Int.ofNat i)) h = some (.b (decide (la.drop i = lb.drop i)),h):=by
 intro k
 induction k with
 | zero =>
  intro i m hi hm
  obtain ⟨m,rfl⟩ : ∃ j,m = j + 1:=⟨m - 1,by omega⟩
  have l1 : decide (Int.ofNat i < Int.ofNat la.length) = false:=decide_eq_false (by show ¬ (i : Int) < (la.length : Int); omega)
  show tJ rec n (nQ rec n m) _ _ _ h = _
  unfold tJ gX
  simp only [iN,Nat.zero_add,aI,sO hp e1 Ta.one,Ta.len,cO,l1,bW]
  rw [List.drop_of_length_le (by omega),List.drop_of_length_le (by omega)]
  simp
 | succ k ih =>
  intro i m hi hm
  obtain ⟨m,rfl⟩ : ∃ j,m = j + 1:=⟨m - 1,by omega⟩
  have hia : i < la.length:=by omega
  have hib : i < lb.length:=by omega
  have l1 : decide (Int.ofNat i < Int.ofNat la.length) = true:=decide_eq_true (by show (i : Int) < (la.length : Int); omega)
  obtain ⟨pa,a1,a2⟩:=Ta.at (List.getElem?_eq_getElem hia)
  obtain ⟨pb,b1,b2⟩:=Tb.at (List.getElem?_eq_getElem hib)
  show tJ rec n (nQ rec n m) _ _ _ h = _
  unfold tJ
  simp only [iN,Nat.zero_add,aI,sO hp e1 Ta.one,Ta.len,cO,l1,bF,a1,a2,sO hq e2 Tb.one,b1,b2,oP]
  rw [List.drop_eq_getElem_cons hia,List.drop_eq_getElem_cons hib]
  by_cases e : la[i] = lb[i]
  ·simp only [e,decide_true,Bool.not_true,bW,bZ i 1 h (by omega),aI]
   rw [ih (i + 1) m (by omega) (by omega)]
   simp only [List.cons.injEq,true_and]
  ·simp only [List.cons.injEq,e,false_and,decide_false,Bool.not_false,bF]
theorem bNo {ca cb : List DV} {a b : Stp} {h : Hp} (A : StC ca a h) (B : StC cb b h) (hlen : a.names.length < 1000000000) (hn : a.names.length < n) :
  ∃ h',s21 rec n (.a ca) (.a cb) h = some (.b (decide (a = b)),h') ∧ Lo h.next.toNat h h':=by
 obtain ⟨va,rfl,Ta⟩:=A
 obtain ⟨vb,rfl,Tb⟩:=B
 have ns:=dXw h.next
 have ne : h.next ≠ h.next.succ:=fun e=>by have:=congrArg Pos.toNat e; omega
 let ra : List DV:=[.i .i64 a.op,.s a.nm,.s a.sup,va,.s a.tx,.i .i64 a.n]
 let rb : List DV:=[.i .i64 b.op,.s b.nm,.s b.sup,vb,.s b.tx,.i .i64 b.n]
 let h1 : Hp:=⟨h.next.succ,Tr.set (.row .ex ra) h.next h.bl⟩
 let h2 : Hp:=⟨h.next.succ.succ,Tr.set (.row .ex rb) h.next.succ h1.bl⟩
 have L : Lo h.next.toNat h h2:=(Lo.new (.row .ex ra) h).trans ((Lo.new (.row .ex rb) h1).mono (show h.next.toNat ≤ h.next.succ.toNat by omega))
 have hp : h2.bl.get h.next = some (.row .ex ra):=by
  show (Tr.set _ h.next.succ (Tr.set _ h.next h.bl)).get h.next = _
  rw [dXu _ _ _ _ ne,dXv]
 have hq : h2.bl.get h.next.succ = some (.row .ex rb):=dXv _ _ _
 refine ⟨h2, ?_,L⟩
 have Ta':=Ta.stay L
 have Tb':=Tb.stay L
 unfold s21 aCu
 simp only [dVi,aI]
 show bnd (aB 0 (.p h.next 0) h2) _ = _
 have a0 : aA (.p h.next 0) h2 = some (.i .i64 a.op,h2):=sO hp rfl rfl
 have a1 : aA (.p h.next 1) h2 = some (.s a.nm,h2):=sO hp rfl rfl
 have a2 : aA (.p h.next 2) h2 = some (.s a.sup,h2):=sO hp rfl rfl
 have a3 : aA (.p h.next 3) h2 = some (va,h2):=sO hp rfl Ta.one
 have a4 : aA (.p h.next 4) h2 = some (.s a.tx,h2):=sO hp rfl rfl
 have a5 : aA (.p h.next 5) h2 = some (.i .i64 a.n,h2):=sO hp rfl rfl
 have b0 : aA (.p h.next.succ 0) h2 = some (.i .i64 b.op,h2):=sO hq rfl rfl
 have b1 : aA (.p h.next.succ 1) h2 = some (.s b.nm,h2):=sO hq rfl rfl
 have b2 : aA (.p h.next.succ 2) h2 = some (.s b.sup,h2):=sO hq rfl rfl
 have b3 : aA (.p h.next.succ 3) h2 = some (vb,h2):=sO hq rfl Tb.one
 have b4 : aA (.p h.next.succ 4) h2 = some (.s b.tx,h2):=sO hq rfl rfl
 have b5 : aA (.p h.next.succ 5) h2 = some (.i .i64 b.n,h2):=sO hq rfl rfl
 simp only [iN,Nat.zero_add,aI,a0,b0,lL,nbI]
 by_cases c0 : a.op = b.op
 case neg =>
  have : a ≠ b:=fun e=>c0 (by rw [e])
  simp only [c0,decide_false,Bool.not_false,dN,aI,bN,bF,this]
 simp only [c0,decide_true,Bool.not_true,eU,iN,Nat.zero_add,aI,a1,b1,oP,bM]
 by_cases c1 : a.nm = b.nm
 case neg =>
  have : a ≠ b:=fun e=>c1 (by rw [e])
  simp only [c1,decide_false,Bool.not_false,dN,aI,bN,bF,this]
 simp only [c1,decide_true,Bool.not_true,eU,iN,Nat.zero_add,aI,a2,b2,oP,bM]
 by_cases c2 : a.sup = b.sup
 case neg =>
  have : a ≠ b:=fun e=>c2 (by rw [e])
  simp only [c2,decide_false,Bool.not_false,dN,aI,bN,bF,this]
 simp only [c2,decide_true,Bool.not_true,eU,iN,Nat.zero_add,aI,a4,b4,oP,bM]
 by_cases c3 : a.tx = b.tx
 case neg =>
  have : a ≠ b:=fun e=>c3 (by rw [e])
  simp only [c3,decide_false,Bool.not_false,dN,aI,bN,bF,this]
 simp only [c3,decide_true,Bool.not_true,eU,iN,Nat.zero_add,aI,a5,b5,lL,nbI,bM]
 by_cases c4 : a.n = b.n
 case neg =>
  have : a ≠ b:=fun e=>c4 (by rw [e])
  simp only [c4,decide_false,Bool.not_false,dN,aI,bN,bF,this]
 simp only [c4,decide_true,Bool.not_true,eU,iN,Nat.zero_add,aI,a3,b3,Ta.len,Tb.len,lL,aWw,bM]
 by_cases c5 : a.names.length = b.names.length
 case neg =>
  have : a ≠ b:=fun e=>c5 (by rw [e])
  simp only [c5,decide_false,Bool.not_false,bF,this]
 simp only [c5,decide_true,Bool.not_true,bW]
 have lp:=aSb (rec:=rec) (n:=n) hp hq rfl rfl Ta' Tb' c5 hlen a.names.length 0 n (by omega) hn
 show nQ rec n n (.p h.next 0) (.p h.next.succ 0) (.i .i64 (Int.ofNat 0)) h2 = _
 rw [lp]
 have : (decide (List.drop 0 a.names = List.drop 0 b.names)) = decide (a = b):=by
  rw [List.drop_zero,List.drop_zero]
  obtain ⟨o1,n1,s1,m1,t1,k1⟩:=a
  obtain ⟨o2,n2,s2,m2,t2,k2⟩:=b
  simp only at c0 c1 c2 c3 c4
  subst c0 c1 c2 c3 c4
  simp
 rw [this]
end
end Go.Dd

namespace Go.Dd
open Go.Proofs Go.RowKit
theorem cHg (G : Gd) (g : FuncId) (F : List DV → Hp → aH) (h : CFq.I g = some F) : gG CFq.P G g F:=by
 unfold CFq at h
 dsimp only at h
 cases h47 : Nat.beq g 47 with
 | true =>
  rw [h47] at h
  cases Nat.eq_of_beq_eq_true h47
  simp only [cond_true,aU] at h
  subst h
  exact bSd G
 | false =>
  rw [h47] at h
  cases h66 : Nat.beq g 66 with
  | true =>
   rw [h66] at h
   cases Nat.eq_of_beq_eq_true h66
   simp only [cond_false,cond_true,aU] at h
   subst h
   exact cMm G
  | false=>rw [h66] at h; cases h
theorem aWd (r : aH) (f g : DV → Hp → aH) : bnd (bnd r f) g = bnd r fun v h=>bnd (f v h) g:=by
 cases r <;> rfl
def preQ : aH :=
 bnd (aO [(.s []),(.s []),(.s []),(.s []),(.s []),(.s [])] 6 [(0,1,(.s [10])),(1,1,(.s [92,110])),(2,1,(.s [34])),(3,1,(.s [92,34])),(4,1,(.s [92])),(5,1,(.s [92,92]))] ⟨cT 1,.e⟩) fun v1 h1 =>
 bnd (s42 (mS CFq 199998) 199998 v1 h1) fun v2 h2 =>
 bnd (aY v2 h2) fun w1 h1 =>
 bnd (aB 0 w1 h1) fun w2 h2 =>
 bnd (aDi [w2,(.f 67 [v2] [])] h2) fun w3 h3 =>
 bnd (aY v2 h3) fun w4 h4 =>
 bnd (aB 3 w4 h4) fun w5 h5 =>
 aA w5 h5
def bZo (r : aH) (p : Pos) : Option Ob:=match r with
 | some (_,h)=>h.bl.get p
 | none=>none
def dRf (r : aH) : DV:=match r with
 | some (v,_)=>v
 | none=>.u
def dVw (r : aH) : Pos:=match r with
 | some (_,h)=>h.next
 | none=>cT 1
theorem bYf : preQ.isSome = true:=by kernel_rfl
theorem cNk : dRf preQ = .c 258 (.p (cT 5) 0):=by kernel_rfl
theorem cQa : dVw preQ = cT 15:=by kernel_rfl
theorem cQh : bZo preQ (cT 5) = some (.row .ex (uJ (cT 14) (cT 11) (cT 8) (cT 4))):=by kernel_rfl
theorem cQg : bZo preQ (cT 4) = some (.row .ex [.s [92],.s [34],.s [10]]):=by kernel_rfl
theorem cXs : bZo preQ (cT 14) = some (.row (.gr 1) [bD 92,bD 110]):=by kernel_rfl
theorem cUp : bZo preQ (cT 11) = some (.row (.gr 1) [bD 92,bD 34]):=by kernel_rfl
theorem dEk : bZo preQ (cT 8) = some (.row (.gr 1) [bD 92,bD 92]):=by kernel_rfl
theorem dFz : ∃ h,preQ = some (.c 258 (.p (cT 5) 0),h) ∧ Rp h (cT 5) (cT 14) (cT 11) (cT 8) (cT 4):=by
 have e0:=bYf
 have e1:=cNk
 have e2:=cQa
 have e3:=cQh
 have e4:=cQg
 have e5:=cXs
 have e6:=cUp
 have e7:=dEk
 cases h : preQ with
 | none=>rw [h] at e0; cases e0
 | some p =>
  obtain ⟨v,g⟩:=p
  rw [h] at e1 e2 e3 e4 e5 e6 e7
  change v = _ at e1
  change g.next = _ at e2
  subst e1
  refine ⟨g,rfl,e3,⟨_,e4⟩,e5,e6,e7, ?_⟩
  rw [e2]
  refine ⟨?_, ?_, ?_, ?_, ?_⟩ <;> decide +kernel
theorem cZi : bXd CFq.P 258 "Replace" = some 582:=by kernel_rfl
theorem dBl : CFq.I 582 = none:=by kernel_rfl
theorem bZv : ∀ s : Bs,iR s ≤ s.length
 | []=>by simp [iR]
 | x :: t=>by
  have:=bZv t
  simp only [iR,List.length_cons]
  split <;> omega
theorem aTr {s : Bs} (hs : s.length ≤ 100000) (hb : ∀ c ∈ s,c < 256) : ∃ g,mS CFq 200000 25 [.s s] ⟨cT 1,.e⟩ = some (.s (34 :: (cY s ++ [34])),g):=by
 obtain ⟨h,e,R⟩:=dFz
 obtain ⟨g,q⟩:=cLi (rec:=mS CFq 199997) (n:=199997) (by omega) hb (by omega) R
 refine ⟨g, ?_⟩
 have e25 : mS CFq 200000 25 [.s s] ⟨cT 1,.e⟩ = s25 (mS CFq 199999) 199999 (.s s) ⟨cT 1,.e⟩:=dOl (mS CFq 199999) 199999 [.s s] ⟨cT 1,.e⟩
 have e42 : ∀ (v : DV) (h : Hp),mS CFq 199999 42 [v] h = s42 (mS CFq 199998) 199998 v h:=fun v h=>dJi (mS CFq 199998) 199998 [v] h
 have e43 : ∀ (v w : DV) (h : Hp),mS CFq 199999 43 [v,w] h = s43 (mS CFq 199998) 199998 v w h:=fun v w h=>dKr (mS CFq 199998) 199998 [v,w] h
 have e582 : ∀ (v w : DV) (h : Hp),mS CFq 199998 582 [v,w] h = s582 (mS CFq 199997) 199997 v w h:=fun v w h=>cUk (mS CFq 199997) 199997 [v,w] h
 rw [e25]
 have inv : ∀ h,aUm CFq (mS CFq 199998) (.c 258 (.p (cT 5) 0)) "Replace" [.s s] h = mS CFq 199998 582 [.p (cT 5) 0,.s s] h:=by
  intro h
  unfold aUm
  simp only [cZi]
  unfold jY cD
  simp only [dBl]
  rfl
 unfold s25
 simp only [e42,e43]
 unfold s43
 have split : ∀ k : DV → Hp → aH,bnd preQ k = (bnd (aO [(.s []),(.s []),(.s []),(.s []),(.s []),(.s [])] 6 [(0,1,(.s [10])),(1,1,(.s [92,110])),(2,1,(.s [34])),(3,1,(.s [92,34])),(4,1,(.s [92])),(5,1,(.s [92,92]))] ⟨cT 1,.e⟩) fun v1 h1 =>
   bnd (s42 (mS CFq 199998) 199998 v1 h1) fun v2 h2 =>
   bnd (aY v2 h2) fun w1 h1 =>
   bnd (aB 0 w1 h1) fun w2 h2 =>
   bnd (aDi [w2,(.f 67 [v2] [])] h2) fun w3 h3 =>
   bnd (aY v2 h3) fun w4 h4 =>
   bnd (aB 3 w4 h4) fun w5 h5 =>
   bnd (aA w5 h5) k):=by
  intro k
  unfold preQ
  simp only [aWd]
 have key:=split (fun w6 h6=>bnd (bnd (aUm CFq (mS CFq 199998) w6 "Replace" [.s s] h6) fun w7 h7=>some (w7,h7)) fun v3 h3=>bnd (bI .add (.s [34]) v3 h3) fun v4 h4=>bnd (bI .add v4 (.s [34]) h4) fun v5 h5=>some (v5,h5))
 simp only [aWd] at key ⊢
 refine key.symm.trans ?_
 rw [e,aI,inv,e582,q,aI,aI]
 have q1:=rH s
 have sle:=bZv s
 have a1 : bI .add (.s [34]) (.s (cY s)) g = some (.s ([34] ++ cY s),g):=bQ _ _ _ (by simp; omega)
 have a2 : bI .add (.s ([34] ++ cY s)) (.s [34]) g = some (.s ([34] ++ cY s ++ [34]),g):=bQ _ _ _ (by simp; omega)
 rw [a1,aI,a2,aI]
 simp
theorem bIf (G : Gd) : gG CF1.P G 25 lB:=by
 intro args h v h1 hr ρ w args' H hargs
 unfold lB at hr
 split at hr <;> (try (cases hr; done))
 rename_i s
 cases hc : Nat.ble s.length 100000 with
 | false=>rw [hc] at hr; cases hr
 | true =>
 rw [hc] at hr
 simp only [cond_true,aU,bG] at hr
 obtain ⟨rfl,rfl⟩:=hr
 have hs:=Nat.le_of_ble_eq_true hc
 obtain ⟨a⟩:=args'
 cases hargs with
 | cons _ x' l1 l1' hx hxs =>
 cases hxs
 cases hx with
 | s _ bs hbs =>
 have hb : ∀ c ∈ s,c < 256:=fun c hc=>by
  rw [← hbs] at hc
  simp only [List.mem_map] at hc
  obtain ⟨u,_,rfl⟩:=hc
  exact u.toNat_lt
 obtain ⟨g,hg⟩:=aTr hs hb
 refine .inl ⟨aBh Tryz.func25 (by kernel_rfl) _ _, ?_⟩
 refine (aCz (F:=mS CFq 200000 25) (fun G=>aEd (C:=CFq) Try_ok cHg 200000 G 25) hg Tryz.f25 Tryz.func25 (by kernel_rfl) w (G.ok w H.gl) #[.string bs] (.cons _ _ _ _ (.s _ bs hbs) .nil)).mono ?_
 rintro e w' ⟨ρ',v',rfl,hv,_,hbel,_⟩
 cases hv with
 | s _ bs' hbs'=>exact ⟨ρ,_,rfl,Ex.refl _ _,.s _ bs' hbs',H.later hbel,Kp.later H hbel⟩
end Go.Dd

namespace Go.Dd
open Go.Proofs Go.Lib Go.RowKit
theorem aPg (c : Nat) (hc : c < 256) : ∀ (l : List UInt8) (i : Nat),sU c (l.map (·.toNat)) i = if indexByte l c.toUInt8 = -1 then -1 else indexByte l c.toUInt8 + i
 | [],i=>rfl
 | b :: l,i=>by
  have hb : Nat.beq b.toNat c = (b == c.toUInt8):=by
   rw [Bool.eq_iff_iff]
   constructor
   ·intro h
    have:=Nat.eq_of_beq_eq_true h
    simp [← this]
   ·intro h
    have h2 : b = c.toUInt8:=by simpa using h
    rw [h2]
    have : (c.toUInt8).toNat = c:=by simp [Nat.toUInt8]; omega
    rw [this]; simp
  show (bif Nat.beq b.toNat c then Int.ofNat i else sU c (l.map (·.toNat)) (i + 1)) = _
  rw [hb]
  unfold indexByte
  cases h : (b == c.toUInt8) with
  | true=>simp
  | false =>
   have ih:=aPg c hc l (i + 1)
   have hge:=indexByte_ge l c.toUInt8
   simp only [cond_false,Bool.false_eq_true,if_false]
   rw [ih]
   by_cases h1 : indexByte l c.toUInt8 = -1
   ·simp [h1]
   ·simp only [h1,if_false,beq_iff_eq]
    rw [if_neg (by omega)]
    omega
theorem dCh (G : Gd) : gG Tryz.prog G 68 aNu:=by
 intro args h v h1 hr ρ w args' H hargs
 unfold aNu at hr
 split at hr <;> (try (cases hr; done))
 rename_i l c
 cases hc : Nat.blt c 256 with
 | false=>rw [hc] at hr; cases hr
 | true =>
  rw [hc] at hr
  have hc' : c < 256:=by simpa using hc
  simp only [cond_true,aU,bG] at hr
  obtain ⟨rfl,rfl⟩:=hr
  obtain ⟨a⟩:=args'
  cases hargs with
  | cons x x' l1 l1' hx hxs =>
  cases hxs with
  | cons y y' l2 l2' hy hys =>
  cases hys
  cases hx with
  | s l bs hbs =>
  cases hy with
  | i k n =>
  refine .inr ⟨ρ,w,.int .i64 (indexByte bs.data.toList c.toUInt8), ?_,Ex.refl _ _, ?_,H,Kp.refl _ _⟩
  ·rw [run_callFunc_extern (fn:=Tryz.f68) (e:=Extern.BytealgIndexByte.indexByte) (by kernel_rfl) (by kernel_rfl) (by kernel_rfl) (by kernel_rfl) (by kernel_rfl)]
   rw [run_indexByteString bs (Int.ofNat c) w]
   rfl
  ·have e:=aPg c hc' bs.data.toList 0
   rw [hbs] at e
   have e2 : sU c l 0 = indexByte bs.data.toList c.toUInt8:=by
    rw [e]
    split
    ·rename_i h; exact h.symm
    ·simp
   rw [e2]
   exact .i _ _
theorem aLh (G : Gd) (g : FuncId) (F : List DV → Hp → aH) (h : CF1.I g = some F) : gG CF1.P G g F:=by
 change qC g = some F at h
 unfold qC at h
 cases h1 : Nat.beq g 68 with
 | true=>rw [h1] at h; cases h; cases Nat.eq_of_beq_eq_true h1; exact dCh G
 | false =>
 cases h2 : Nat.beq g 351 with
 | true=>rw [h1,h2] at h; cases h; cases Nat.eq_of_beq_eq_true h2; exact cYy G
 | false =>
 cases h3 : Nat.beq g 24 with
 | true=>rw [h1,h2,h3] at h; cases h; cases Nat.eq_of_beq_eq_true h3; exact aXs G
 | false =>
 cases h4 : Nat.beq g 235 with
 | true=>rw [h1,h2,h3,h4] at h; cases h; cases Nat.eq_of_beq_eq_true h4; exact cIs G
 | false =>
 cases h5 : Nat.beq g 23 with
 | true=>rw [h1,h2,h3,h4,h5] at h; cases h; cases Nat.eq_of_beq_eq_true h5; exact cBz G
 | false =>
 cases h6 : Nat.beq g 32 with
 | true=>rw [h1,h2,h3,h4,h5,h6] at h; cases h; cases Nat.eq_of_beq_eq_true h6; exact bZr G
 | false =>
 cases h7 : Nat.beq g 33 with
 | true=>rw [h1,h2,h3,h4,h5,h6,h7] at h; cases h; cases Nat.eq_of_beq_eq_true h7; exact cYb G
 | false =>
 cases h8 : Nat.beq g 74 with
 | true=>rw [h1,h2,h3,h4,h5,h6,h7,h8] at h; cases h; cases Nat.eq_of_beq_eq_true h8; exact bGj G
 | false =>
 cases h9 : Nat.beq g 25 with
 | true=>rw [h1,h2,h3,h4,h5,h6,h7,h8,h9] at h; cases h; cases Nat.eq_of_beq_eq_true h9; exact bIf G
 | false =>
 rw [h1,h2,h3,h4,h5,h6,h7,h8,h9] at h
 cases h
theorem aSq (n : Nat) (G : Gd) (f : FuncId) : gG Tryz.prog G f (fT CF1 n f):=bQt (C:=CF1) Try_ok aLh dDx dAa n G f
end Go.Dd

namespace Go.Dd
open Go.Proofs
def aKq : RT:=fun g args h=>bif Nat.beq g 11 then (match args with
 | []=>some (.b true,h)
 | _=>none) else dB 20000000 g args h
theorem bMx {g : FuncId} (hg : Nat.beq g 11 = false) (args : List DV) (h : Hp) : aKq g args h = dB 20000000 g args h:=by
 unfold aKq
 rw [hg,cond_false]
theorem dRw (h : Hp) : aKq 11 [] h = some (.b true,h):=by
 unfold aKq
 rw [show Nat.beq 11 11 = true from rfl,cond_true]
end Go.Dd

namespace Go.Dd
open Go.Proofs Go.RowKit
theorem cAc {f : FuncId} {args : List DV} {F : List DV → Hp → aH} {v : DV} {g1 : Hp} (hF : ∀ G,gG Tryz.prog G f F) (hr : F args hS = some (v,g1)) (fn : Func) (hf : Tryz.prog.funcs[f]? = some fn) (hb : fn.body.isSome = true)
  (w : World) (W : Facts w) (args' : Array Value) (hargs : VRs (fun _=>none) args args'.toList) :
  Calls Tryz.prog f args' w fun e w'=>∃ ρ' v',e = .returned v' ∧ VR ρ' v v' ∧ HR (gdS w W 1024) ρ' g1 w' ∧ Below w.heap.size w w' ∧ ∀ b L, ρ' b = some L → 1024 ≤ b.toNat:=by
 have hp : (cT 1).toNat = 1024:=by kernel_rfl
 have H : HR (gdS w W 1024) (fun _=>none) hS w:=HR.empty w W 1024 (cT 1) (by rw [hp]; exact Nat.le_refl _)
 rcases hF (gdS w W 1024) args hS v g1 hr _ w args' H hargs with ⟨_,h⟩ | ⟨ρ',w',v',h,_⟩
 ·refine h.mono ?_
  rintro e w' ⟨ρ',v',h1,h2,h3,h4,h5⟩
  exact ⟨ρ',v',h1,h3,h4,h5.low,fun b L hL=>(h2.new b L hL).resolve_left (fun e=>by cases e)⟩
 ·exfalso
  have hn : ¬ fn.name = "runtime.NumGoroutine" := by simpa using Try_ok.names f fn hf
  have hbn : fn.body ≠ none:=by intro e; rw [e] at hb; cases hb
  unfold callFunc at h
  simp [hf,hn,hbn] at h
theorem bHw {f : FuncId} {F : List DV → Hp → aH} {r : Bool} {h1 : Hp} (hF : ∀ G,gG Tryz.prog G f F) {p : Pos} (hr : F [] ⟨p,.e⟩ = some (.b r,h1)) (fn : Func) (hf : Tryz.prog.funcs[f]? = some fn) (hb : fn.body.isSome = true) (G : Gd) :
  gG Tryz.prog G f (fun args h=>match args with
   | []=>some (.b r,h)
   | _=>none):=by
 intro args h v h2 he ρ w args' H hargs
 cases args with
 | cons _ _=>cases he
 | nil =>
  simp only [aU,bG] at he
  obtain ⟨rfl,rfl⟩:=he
  have e0 : args' = #[]:=by
   obtain ⟨a⟩:=args'
   cases hargs
   rfl
  subst e0
  refine .inl ⟨aBh hf hb _ _, ?_⟩
  refine (aCz hF hr fn hf hb w (G.ok w H.gl) #[] .nil).mono ?_
  rintro e w' ⟨ρ',v',rfl,hv,_,hbel,_⟩
  cases hv
  exact ⟨ρ,_,rfl,Ex.refl _ _,.b _,H.later hbel,Kp.later H hbel⟩
theorem Sim.tf {a b c : Hp} (h : Sim true a b) (k : Sim false b c) : Sim false a c:=⟨k.next.trans h.next,fun p o hp=>by
 obtain ⟨o',h1,h2⟩:=h.get p o hp
 rw [lA h2] at h1
 exact k.get p o h1⟩
theorem aCn (o : Ob) : wE true o o:=by cases o <;> simp [wE]
theorem dZz : Sim false hS hS:=⟨rfl,fun b o hb=>by cases b <;> cases hb⟩
theorem bBd (g : FuncId) (F : List DV → Hp → aH) (hg : CF.I g = some F) (n : Nat) (args : List DV) : SimP false (F args) (cD CF1 (fT CF1 (n + 12)) g args):=by
 have hcall : cD CF1 (fT CF1 (n + 12)) g args = fun h=>match qC g with
  | some F=>F args h
  | none=>fT CF1 (n + 12) g args h:=rfl
 rw [hcall]
 rcases yK hg with h1 | ⟨h1,h2⟩
 ·rw [h1]; exact aHc h1 args
 ·rw [h1]; exact aMw g F h2 n args
theorem bOv {g : FuncId} (hg : CF.I g = none) : CF1.I g = none:=(aLr hg).1
theorem aPo : ∃ g',fT CF1 912 55 [.i .i64 (.ofNat 30000)] hS = some (.t [.p (cT 7) 0,.i .i64 (.ofNat 0)],g') ∧ Sim false hN g':=by
 obtain ⟨g,h1,h2⟩:=cVg
 rw [yU] at h1
 obtain ⟨g',h3,h4⟩:=aTy 900 55 [.i .i64 (.ofNat 30000)] hS hS dZz _ _ h1
 exact ⟨g',h3,h2.tf h4⟩
section known
variable {g1 : Hp} {HL : List (Pos × Ob)} {nx0 : Nat}
def exL (g1 : Hp) (l : List (Pos × Ob)) : List (Pos × Ob):=l.map fun x=>(x.1,(g1.bl.get x.1).getD x.2)
theorem aOv (l : List (Pos × Ob)) (t : Tr Ob) (b : Pos) : (iA l t).get b = match (iA l .e).get b with
  | some o=>some o
  | none=>t.get b:=by
 induction l with
 | nil=>rw [show iA [] t = t from rfl,show iA [] .e = .e from rfl,Tr.get_e]
 | cons x l ih =>
  show (Tr.set x.2 x.1 (iA l t)).get b = match (Tr.set x.2 x.1 (iA l .e)).get b with
   | some o=>some o
   | none=>t.get b
  by_cases e : b = x.1
  ·rw [e,dXv,dXv]
  ·rw [dXu _ _ _ _ e,dXu _ _ _ _ e]
   exact ih
theorem bZa (l : List (Pos × Ob)) (b : Pos) (o : Ob) (h : (iA l .e).get b = some o) : (b,o) ∈ l:=by
 induction l with
 | nil=>rw [show iA [] .e = .e from rfl,Tr.get_e] at h; cases h
 | cons x l ih =>
  change (Tr.set x.2 x.1 (iA l .e)).get b = some o at h
  by_cases e : b = x.1
  ·rw [e,dXv] at h
   cases h
   rw [e]
   exact List.mem_cons_self
  ·rw [dXu _ _ _ _ e] at h
   exact List.mem_cons_of_mem _ (ih h)
theorem oV (g1 : Hp) (l : List (Pos × Ob)) (b : Pos) : (iA (exL g1 l) .e).get b = ((iA l .e).get b).map fun o=>(g1.bl.get b).getD o:=by
 induction l with
 | nil=>rw [show exL g1 [] = [] from rfl,show iA [] .e = .e from rfl,Tr.get_e]; rfl
 | cons x l ih =>
  show (Tr.set ((g1.bl.get x.1).getD x.2) x.1 (iA (exL g1 l) .e)).get b = ((Tr.set x.2 x.1 (iA l .e)).get b).map _
  by_cases e : b = x.1
  ·rw [e,dXv,dXv]
   rfl
  ·rw [dXu _ _ _ _ e,dXu _ _ _ _ e]
   exact ih
theorem aEc (S : Sim false (jI nx0 HL) g1) {b : Pos} {o : Ob} (h : (iA HL .e).get b = some o) : ∃ o',g1.bl.get b = some o' ∧ wE false o o' ∧ (iA (exL g1 HL) .e).get b = some o':=by
 obtain ⟨o',h1,h2⟩:=S.get b o h
 refine ⟨o',h1,h2, ?_⟩
 rw [oV,h,h1]
 rfl
def aOk (o : Ob) : Bool:=match o with
 | .row .ex _=>true
 | .mp _=>true
 | .big _ _=>true
 | .mi _=>true
 | _=>false
def cEj (l : List (Pos × Ob)) : Bool:=List.rec (motive:=fun _=>Bool) true (fun x _ ih=>aOk x.2 && ih) l
theorem aMz : ∀ {l : List (Pos × Ob)},cEj l = true → ∀ x ∈ l,aOk x.2 = true
 | [],_,x,h=>by cases h
 | y :: l,hl,x,h=>by
  change (aOk y.2 && cEj l) = true at hl
  simp only [Bool.and_eq_true] at hl
  simp only [List.mem_cons] at h
  rcases h with rfl | h
  ·exact hl.1
  ·exact aMz hl.2 x h
theorem bGf {o o' : Ob} (hk : aOk o = true) (h : wE false o o') : o'.sg = true ∨ ∃ l,o' = .row .ex l:=by
 unfold aOk at hk
 split at hk
 ·have : o' = _:=h
  exact .inr ⟨_,this⟩
 ·have : o' = _:=h
  rw [this]
  exact .inl rfl
 ·exact .inr ⟨_,h⟩
 ·obtain ⟨es,h1,_⟩:=h
  rw [h1]
  exact .inl rfl
 ·cases hk
def aAx (p : List DV → Bool) (v0 : DV) (nx0 : Nat) (HL : List (Pos × Ob)) (g1 : Hp) (args : List DV) (h : Hp) : aH :=
 bif p args && nS h.next (cT 1) then some (v0,⟨cT nx0,iA (exL g1 HL) h.bl⟩) else none
theorem bGx (S1 : Sim false (jI nx0 HL) g1) (p : List DV → Bool) (v0 : DV) (args : List DV) : SimP false (aPj p v0 nx0 HL args) (aAx p v0 nx0 HL g1 args):=by
 intro h h' S
 unfold aPj aAx
 rw [S.next]
 cases (p args && nS h.next (cT 1)) with
 | false=>exact SimR.none _
 | true =>
  intro v k e
  simp only [cond_true,aU,bG] at e
  obtain ⟨rfl,rfl⟩:=e
  refine ⟨⟨cT nx0,iA (exL g1 HL) h'.bl⟩,rfl,rfl,fun b o ho => ?_⟩
  change (iA HL h.bl).get b = some o at ho
  show ∃ o',(iA (exL g1 HL) h'.bl).get b = some o' ∧ wE false o o'
  rw [aOv] at ho ⊢
  cases hb : (iA HL .e).get b with
  | some o1 =>
   rw [hb] at ho
   cases ho
   obtain ⟨o',_,h2,h3⟩:=aEc S1 hb
   exact ⟨o',by rw [h3],h2⟩
  | none =>
   rw [hb] at ho
   rw [oV,hb]
   exact S.get b o ho
theorem bKu {f : FuncId} {F : List DV → Hp → aH} (hF : ∀ G,gG Tryz.prog G f F) {args0 : List DV} {v0 : DV} (hr0 : F args0 hS = some (v0,g1)) (S1 : Sim false (jI nx0 HL) g1) (hk : cEj HL = true) (hnx0 : 1024 ≤ (cT nx0).toNat)
  (fn : Func) (hf : Tryz.prog.funcs[f]? = some fn) (hb : fn.body.isSome = true) {p : List DV → Bool} (hp : ∀ args,p args = true → args = args0) (h0 : ∀ ρ l,VRs ρ args0 l → VRs (fun _=>none) args0 l) (G : Gd) : gG Tryz.prog G f (aAx p v0 nx0 HL g1):=by
 intro args h v h1 hr ρ w args' H hargs
 unfold aAx at hr
 cases hc : (p args && nS h.next (cT 1)) with
 | false=>rw [hc] at hr; cases hr
 | true =>
  rw [hc] at hr
  simp only [cond_true,aU,bG] at hr
  obtain ⟨rfl,rfl⟩:=hr
  simp only [Bool.and_eq_true] at hc
  have ha:=hp _ hc.1
  subst ha
  have hnx:=nD _ _ hc.2
  have hp1 : (cT 1).toNat = 1024:=by kernel_rfl
  refine .inl ⟨aBh hf hb _ _, ?_⟩
  refine (cAc hF hr0 fn hf hb w (G.ok w H.gl) args' (h0 _ _ hargs)).mono ?_
  rintro e w' ⟨ρ2,v',rfl,hv,H2,hbel,hlow⟩
  have S2 : Sim true ⟨g1.next,iA (exL g1 HL) .e⟩ g1:=⟨rfl,fun b o ho=>by
   change (iA (exL g1 HL) .e).get b = some o at ho
   rw [oV] at ho
   cases hb : (iA HL .e).get b with
   | none=>rw [hb] at ho; cases ho
   | some o1 =>
    obtain ⟨o',q1,_,q3⟩:=aEc S1 hb
    rw [oV] at q3
    rw [q3] at ho
    cases ho
    exact ⟨_,q1,aCn _⟩⟩
  have hgn : g1.next = cT nx0:=S1.next
  have H3:=HR.sub S2 H2
  obtain ⟨j1,j2,j3⟩:=H.join (J:=iA (exL g1 HL) h.bl) hbel H3 rfl (fun b L hL=>by rw [hnx,hp1]; exact hlow b L hL) (fun b o ho=>by
    change (iA (exL g1 HL) .e).get b = some o at ho
    rw [oV] at ho
    cases hb : (iA HL .e).get b with
    | none=>rw [hb] at ho; cases ho
    | some o1 =>
     obtain ⟨o',q1,q2,q3⟩:=aEc S1 hb
     rw [oV] at q3
     rw [q3] at ho
     cases ho
     exact bGf (aMz hk _ (bZa _ _ _ hb)) q2) (by
    show h.next.toNat ≤ g1.next.toNat
    rw [hnx,hgn,hp1]
    exact hnx0) (fun b=>by
    rw [aOv]
    cases hb : (iA (exL g1 HL) .e).get b with
    | none=>cases h.bl.get b <;> rfl
    | some o =>
     cases hh : h.bl.get b with
     | none=>rfl
     | some o1 =>
      exfalso
      obtain ⟨L,hL⟩:=H.dom b o1 hh
      have q1:=H.lt b L hL
      obtain ⟨L2,hL2⟩:=H3.dom b o hb
      have q2:=hlow b L2 hL2
      rw [hnx,hp1] at q1
      omega)
  rw [hgn] at j1
  exact ⟨lS ρ ρ2,v',rfl,j2,hv.mono j3,j1,Kp.later H hbel⟩
end known
def gN1 : Hp:=Classical.choose aPo
theorem cOs : fT CF1 912 55 [.i .i64 (.ofNat 30000)] hS = some (.t [.p (cT 7) 0,.i .i64 (.ofNat 0)],gN1):=(Classical.choose_spec aPo).1
theorem bBe : Sim false hN gN1:=(Classical.choose_spec aPo).2
theorem bFg : cEj HLN = true:=by kernel_rfl
def cBe : List DV → Hp → aH:=aAx aWl (.t [.p (cT 7) 0,.i .i64 (.ofNat 0)]) 26855 HLN gN1
theorem bRy (args : List DV) : SimP false (dHf args) (cBe args):=bGx bBe _ _ _
theorem bKm (args : List DV) (h : aWl args = true) : args = [.i .i64 (.ofNat 30000)]:=by
 unfold aWl at h
 split at h
 ·rw [Nat.eq_of_beq_eq_true h]
 ·cases h
theorem cGj {k : IntKind} {n : Int} (ρ : Ren) (l : List Value) (h : VRs ρ [.i k n] l) : VRs (fun _=>none) [.i k n] l:=by
 cases h with
 | cons _ _ _ _ q1 q2 =>
  cases q1
  cases q2
  exact .cons _ _ _ _ (.i _ _) .nil
theorem bNl (G : Gd) : gG Tryz.prog G 55 cBe :=
 bKu (fun G=>aSq 912 G 55) cOs bBe bFg (by rw [show (cT 26855).toNat = 27878 from by kernel_rfl]; decide) Tryz.f55 Tryz.func55 (by kernel_rfl) bKm cGj G
def aBl : RT:=fun g=>bif Nat.beq g 55 then cBe else fT CF1 912 g
theorem bPq : OkC CF1 aBl:=by
 refine ⟨aLh,fun G g => ?_⟩
 unfold aBl
 cases hg : Nat.beq g 55 with
 | true=>cases Nat.eq_of_beq_eq_true hg; exact bNl G
 | false=>exact aSq 912 G g
theorem cOn (n : Nat) (g : FuncId) (args : List DV) (h : Hp) : aMp n g args h = bif Nat.beq g 55 then dHf args h else dB n g args h:=rfl
theorem cJv (g : FuncId) (args : List DV) : SimP false (aMp 900 g args) (aBl g args):=by
 intro h h' S
 rw [cOn]
 unfold aBl
 cases hg : Nat.beq g 55 with
 | false =>
  rw [cond_false,cond_false,yU]
  exact aTy 900 g args h h' S
 | true=>exact bRy args h h' S
section nest
variable {r2 r1 : RT}
structure Two (N : Nat) (r2 r1 : RT) : Prop where
 ok : OkC CF1 r1
 sim : ∀ g args,SimP false (r2 g args) (r1 g args)
 own : ∀ (g : FuncId) (F : List DV → Hp → aH),CF1.I g = none → CF.I g = some F → ∀ args,r1 g args = fT CF1 (N + 12) g args
theorem Two.call {N : Nat} (T : Two N r2 r1) (g : FuncId) (args : List DV) : SimP false (cD CF r2 g args) (cD CF1 r1 g args):=by
 cases hg : CF.I g with
 | none=>rw [aDr hg,aDr (bOv hg)]; exact T.sim g args
 | some F =>
  have e : cD CF r2 g args = F args:=by funext k; unfold cD; rw [hg]
  rw [e]
  cases h1 : CF1.I g with
  | some F1 =>
   have e1 : cD CF1 r1 g args = cD CF1 (fT CF1 (N + 12)) g args:=by funext k; unfold cD; rw [h1]
   rw [e1]
   exact bBd g F hg N args
  | none =>
   have e1 : cD CF1 r1 g args = cD CF1 (fT CF1 (N + 12)) g args:=by funext k; unfold cD; rw [h1]; exact congrFun (T.own g F h1 hg args) k
   rw [e1]
   exact bBd g F hg N args
def vO (f : FuncId) (r2 : RT) : RT:=fun g args h=>bif Nat.beq g f then aF CF r2 900 f args h else r2 g args h
def aDb (f : FuncId) (r1 : RT) : RT:=fun g=>bif Nat.beq g f then aF CF1 r1 912 f else r1 g
theorem Two.nest {N : Nat} (T : Two N r2 r1) (f : FuncId) (hf : CF.I f = none) : Two N (vO f r2) (aDb f r1) where
 ok:=by
  refine ⟨T.ok.own,fun G g => ?_⟩
  unfold aDb
  cases hg : Nat.beq g f with
  | true=>cases Nat.eq_of_beq_eq_true hg; exact sS T.ok Try_ok 912 f
  | false=>exact T.ok.fns G g
 sim g args:=by
  intro h h' S
  unfold vO aDb
  cases hg : Nat.beq g f with
  | true=>exact nY (P:=Tryz.prog) (I2:=CF.I) (I1:=CF1.I) (fun g args=>T.call g args) 900 12 f args h h' S
  | false=>exact T.sim g args h h' S
 own g F h1 h2 args:=by
  unfold aDb
  cases hg : Nat.beq g f with
  | true=>cases Nat.eq_of_beq_eq_true hg; rw [hf] at h2; cases h2
  | false=>exact T.own g F h1 h2 args
end nest
theorem twoN : Two 900 (aMp 900) aBl where
 ok:=bPq
 sim:=cJv
 own g F h1 h2 args:=by
  unfold aBl
  cases h10 : Nat.beq g 55 with
  | true =>
   cases Nat.eq_of_beq_eq_true h10
   exact absurd h2 (by show ¬ CF.I 55 = some F; exact fun e=>by cases e)
  | false=>rfl
def aPi : RT:=vO 22 (vO 36 (aMp 900))
def cRs : RT:=aDb 22 (aDb 36 aBl)
theorem dJy : CF.I 36 = none:=by kernel_rfl
theorem dNn : CF.I 22 = none:=by kernel_rfl
theorem twoA : Two 900 aPi cRs:=(twoN.nest 36 dJy).nest 22 dNn
theorem cJr : aKk = vO 36 (aMp 900):=by
 funext g args h
 unfold aKk vO
 cases hg : Nat.beq g 36 with
 | true=>rw [cond_true,cond_true,cTx]
 | false=>rw [cond_false,cond_false]
theorem cIl : aOz = aPi:=by
 funext g args h
 unfold aOz aPi
 rw [cJr]
 generalize vO 36 (aMp 900) = r
 unfold vO
 cases hg : Nat.beq g 22 with
 | true=>rw [cond_true,cond_true,cRy]
 | false=>rw [cond_false,cond_false]
def pLv : Pos:=cUv 24 998
theorem bWe : ∃ g,aF CF1 cRs 912 11 [] ⟨pLv,.e⟩ = some (.b true,g):=by
 have hl : okB (s11 aOz 900 ⟨pLv,.e⟩) = true:=dBx
 cases hr : s11 aOz 900 ⟨pLv,.e⟩ with
 | none=>rw [hr] at hl; cases hl
 | some p =>
  rw [hr] at hl
  obtain ⟨v,k⟩:=p
  cases v <;> (try (cases hl; done))
  rename_i b
  change b = true at hl
  subst hl
  have e : s11 aPi 900 ⟨pLv,.e⟩ = some (.b true,k):=by rw [← cIl]; exact hr
  obtain ⟨g,h1,_⟩:=nY (P:=Tryz.prog) (I2:=CF.I) (I1:=CF1.I) twoA.call 900 12 11 [] ⟨pLv,.e⟩ ⟨pLv,.e⟩ ⟨rfl,fun b o hb=>by cases b <;> cases hb⟩ _ _ ((cTb aPi 900 [] ⟨pLv,.e⟩).trans e)
  exact ⟨g,h1⟩
def aOt : RT:=fun g=>bif Nat.beq g 11 then (fun args h=>match args with
 | []=>some (.b true,h)
 | _=>none) else fT CF1 20000012 g
theorem aPb : OkC CF1 aOt:=by
 refine ⟨aLh,fun G g => ?_⟩
 unfold aOt
 cases hg : Nat.beq g 11 with
 | true =>
  cases Nat.eq_of_beq_eq_true hg
  obtain ⟨k,hk⟩:=bWe
  exact bHw (fun G=>sS twoA.ok Try_ok 912 11) hk Tryz.f11 Tryz.func11 (by kernel_rfl) G
 | false=>exact aSq 20000012 G g
theorem twoX : Two 20000000 aKq aOt where
 ok:=aPb
 sim g args:=by
  intro h h' S
  unfold aKq aOt
  cases hg : Nat.beq g 11 with
  | true =>
   rw [cond_true,cond_true]
   cases args with
   | nil=>exact SimR.some S _
   | cons a l=>exact SimR.none _
  | false =>
   rw [cond_false,cond_false,yU]
   exact aTy 20000000 g args h h' S
 own g F h1 h2 args:=by
  unfold aOt
  cases hg : Nat.beq g 11 with
  | true =>
   cases Nat.eq_of_beq_eq_true hg
   exact absurd h2 (by show ¬ CF.I 11 = some F; exact fun e=>by cases e)
  | false=>rfl
structure Ro (w : World) (ρ : Ren) (h : Hp) : Prop where
 dom : ∀ b o,h.bl.get b = some o → ∃ L, ρ b = some L
 lt : ∀ b L, ρ b = some L → b.toNat < h.next.toNat
 row : ∀ b o,h.bl.get b = some o → ∃ l,o = .row .ro l
 cell : ∀ b l L i v,h.bl.get b = some (.row .ro l) → ρ b = some L → l[i]? = some v → ∃ v',w.cell? (eC L i) = some v' ∧ VR ρ v v'
 sp : ∀ b o L,h.bl.get b = some o → ρ b = some L → L.sp = 0
theorem Ro.isRo {w : World} {ρ : Ren} {h : Hp} (R : Ro w ρ h) {b : Pos} {a : Addr} (c : Claims ρ h b a) : isRo h b:=by
 obtain ⟨k,l,L,h1,h2,_⟩:=c
 obtain ⟨l',e⟩:=R.row b _ h1
 exact ⟨l',by rw [h1,e]⟩
theorem Ro.hr {w : World} {ρ : Ren} {h : Hp} (R : Ro w ρ h) (W : Facts w) : HR (gdS w W 0) ρ h w where
 gl:=fun _ _=>rfl
 sz:=⟨Nat.le_refl _,fun _ hh=>hh.elim⟩
 nx:=Nat.zero_le _
 ro:=fun b a c _=>by
  obtain ⟨k,l,L,h1,h2,h3⟩:=c
  obtain ⟨l',e⟩:=R.row b _ h1
  cases e
  rcases h3 with ⟨i,v,h4,h5,rfl⟩ | ⟨es,j,h4,_⟩
  ·obtain ⟨v',h6,_⟩:=R.cell b _ L i v h1 h2 h4
   exact eE h6
  ·cases h4
 dom:=R.dom
 lt:=R.lt
 cell:=fun b k l L i v h1 h2 h3 h4=>by
  obtain ⟨l',e⟩:=R.row b _ h1
  cases e
  exact R.cell b _ L i v h1 h2 h3
 spare:=fun b l L es j h1=>by
  obtain ⟨l',e⟩:=R.row b _ h1
  cases e
 free:=fun b a c hn=>absurd (R.isRo c) hn
 inj:=fun b b' a c c' hn=>absurd (R.isRo c) hn
 ex:=fun b l L h1 h2=>by
  rcases h1 with h1 | h1
  ·exact R.sp b _ L h1 h2
  ·exact R.sp b _ L h1 h2
 grone:=fun b es l i v h1=>by
  obtain ⟨l',e⟩:=R.row b _ h1
  cases e
 itr:=fun b o L hs h1 _=>by
  obtain ⟨l',rfl⟩:=R.row b _ h1
  cases hs
 itj:=fun b o b' o' L L' hs hs' h1 _ _ _ _=>by
  obtain ⟨l',rfl⟩:=R.row b _ h1
  cases hs
theorem Ro.none (w : World) (p : Pos) : Ro w (fun _=>none) ⟨p,.e⟩ where
 dom:=fun b o h=>by cases b <;> cases h
 lt:=fun b L h=>by cases h
 row:=fun b o h=>by cases b <;> cases h
 cell:=fun b l L i v h=>by cases b <;> cases h
 sp:=fun b o L h=>by cases b <;> cases h
theorem Ro.add {w : World} {ρ : Ren} {h : Hp} (R : Ro w ρ h) (L : Loc) (l : List DV) (hsp : L.sp = 0)
  (hc : ∀ (i : Nat) v,l[i]? = some v → ∃ v',w.cell? (eC L i) = some v' ∧ VR ρ v v') :
  Ro w (lO ρ h.next L) ⟨h.next.succ,Tr.set (.row .ro l) h.next h.bl⟩ ∧ Ext ρ (lO ρ h.next L):=by
 have fresh : ρ h.next = Option.none:=by
  cases e : ρ h.next with
  | none=>rfl
  | some L'=>exact absurd (R.lt _ _ e) (Nat.lt_irrefl _)
 have ext : Ext ρ (lO ρ h.next L):=fun b L' e=>by
  have hb : b ≠ h.next:=fun e2=>by rw [e2,fresh] at e; cases e
  rw [aQ _ _ hb]; exact e
 refine ⟨?_,ext⟩
 have get : ∀ b o,(⟨h.next.succ,Tr.set (.row .ro l) h.next h.bl⟩ : Hp).bl.get b = some o → (b = h.next ∧ o = .row .ro l) ∨ (b ≠ h.next ∧ h.bl.get b = some o):=fun b o e=>by
  by_cases hb : b = h.next
  ·subst hb
   rw [show ((⟨h.next.succ,Tr.set (.row .ro l) h.next h.bl⟩ : Hp).bl.get h.next) = some (.row .ro l) from dXv _ _ _] at e
   cases e
   exact .inl ⟨rfl,rfl⟩
  ·refine .inr ⟨hb, ?_⟩
   rw [← dXu (.row .ro l) h.next b h.bl hb]
   exact e
 constructor
 ·intro b o e
  rcases get b o e with ⟨rfl,_⟩ | ⟨hb,e2⟩
  ·exact ⟨L,bP _ _ _⟩
  ·rw [aQ _ _ hb]; exact R.dom b o e2
 ·intro b L' e
  show b.toNat < h.next.succ.toNat
  rw [dXw]
  by_cases hb : b = h.next
  ·rw [hb]; omega
  ·rw [aQ _ _ hb] at e
   have:=R.lt b L' e
   omega
 ·intro b o e
  rcases get b o e with ⟨rfl,rfl⟩ | ⟨hb,e2⟩
  ·exact ⟨l,rfl⟩
  ·exact R.row b o e2
 ·intro b l' L' i v e e2 e3
  rcases get b _ e with ⟨rfl,e4⟩ | ⟨hb,e4⟩
  ·cases e4
   rw [bP] at e2
   cases e2
   obtain ⟨v',h1,h2⟩:=hc i v e3
   exact ⟨v',h1,h2.mono ext⟩
  ·rw [aQ _ _ hb] at e2
   obtain ⟨v',h1,h2⟩:=R.cell b l' L' i v e4 e2 e3
   exact ⟨v',h1,h2.mono ext⟩
 ·intro b o L' e e2
  rcases get b _ e with ⟨rfl,e4⟩ | ⟨hb,e4⟩
  ·rw [bP] at e2
   cases e2
   exact hsp
  ·rw [aQ _ _ hb] at e2
   exact R.sp b o L' e4 e2
theorem Ro.sim {w : World} {ρ : Ren} {h : Hp} (R : Ro w ρ h) : Sim false h h:=⟨rfl,fun b o e=>by
 obtain ⟨l,rfl⟩:=R.row b o e
 exact ⟨_,e,rfl⟩⟩
theorem bSn {f : FuncId} {args : List DV} {h0 : Hp} {ρ : Ren} (hr : ∃ k,aF CF aKq 20000000 f args h0 = some (.b true,k)) (fn : Func) (hf : Tryz.prog.funcs[f]? = some fn) (hb : fn.body.isSome = true)
  (w : World) (W : Facts w) (R : Ro w ρ h0) (args' : Array Value) (hargs : VRs ρ args args'.toList) :
  Calls Tryz.prog f args' w fun e w'=>e = .returned (.bool true) ∧ Below w.heap.size w w':=by
 obtain ⟨k,hk⟩:=hr
 obtain ⟨g,h1,_⟩:=nY (P:=Tryz.prog) (I2:=CF.I) (I1:=CF1.I) twoX.call 20000000 12 f args h0 h0 R.sim _ _ hk
 have H:=R.hr W
 rcases sS aPb Try_ok 20000012 f args h0 _ g h1 _ w args' H hargs with ⟨_,h⟩ | ⟨ρ',w',v',h,_⟩
 ·refine h.mono ?_
  rintro e w' ⟨ρ',v',rfl,h2,h3,h4,h5⟩
  cases h3
  exact ⟨rfl,h5.low⟩
 ·exfalso
  have hn : ¬ fn.name = "runtime.NumGoroutine" := by simpa using Try_ok.names f fn hf
  have hbn : fn.body ≠ none:=by intro e; rw [e] at hb; cases hb
  unfold callFunc at h
  simp [show CF1.P.funcs[f]? = some fn from hf,hn,hbn] at h
end Go.Dd

namespace Go.Dd
open Go.Proofs Go.RowKit
abbrev dHw : List (String × DataW Unit):=YtjfmbeinhhdapaaGreatDoor.Rows.linesShowsRow.laid
theorem bZh : (YtjfmbeinhhdapaaGreatDoor.Rows.laid_internal_strconv_uint64pow10 : DataW Unit) = Lib.tabData .u64 Lib.pow10Tab:=by kernel_rfl
theorem bNw {H : Type} {enc : TypeId × Value → H} {P : Program} {w : World} {base : Nat} {sp : Nat → Bool} {held : Bool} {fuel : Nat} {t : TypeId} {ms : Array (String × TypeId)} {cs : List Value} {name : String} {d : DataW H} {p : List MemPlace}
  (ht : P.underlying t = some (.interface ms)) (h : DataW.trod enc P w base sp held fuel t cs = some (.iface name d,p)) : ∃ u v,cs = [.iface u v]:=by
 cases fuel with
 | zero=>simp [DataW.trod] at h
 | succ n =>
  unfold DataW.trod at h
  rw [ht] at h
  split at h <;> simp_all
theorem bNx {W : World} {n name : String} {d : DataW Unit} {g : Nat} {t : TypeId} {ms : Array (String × TypeId)} (e1 : Tryz.prog.globalNamed n = some g) (e2 : (Tryz.prog.globals[g]?).map (·.type) = some t) (e3 : Tryz.prog.underlying t = some (.interface ms))
  (h : Lib.VarReads Tryz.prog W n (.iface name d)) : bTz W g:=by
 obtain ⟨g',t',cs,fuel,p,hg,ht,hv,hd⟩:=h
 obtain rfl:=Option.some.inj (e1.symm.trans hg)
 obtain rfl:=Option.some.inj (e2.symm.trans ht)
 obtain ⟨u,v,he⟩:=bNw e3 hd
 unfold World.var? at hv
 rw [e1] at hv
 simp only [Option.bind_some] at hv
 split at hv
 ·rename_i cs' t' z' hh
  obtain rfl:=Option.some.inj hv
  refine ⟨.iface u v, ?_,.inr ⟨u,v,rfl⟩⟩
  have e5 : cs' = #[Value.iface u v]:=Array.ext' he
  subst e5
  simp [World.cell?,hh]
 ·cases hv
theorem cVx {W : World} (h : Lib.VarReads Tryz.prog W "internal/strconv.uint64pow10" YtjfmbeinhhdapaaGreatDoor.Rows.laid_internal_strconv_uint64pow10) : ∃ t z,W.heap[1]? = some (.cells (Lib.pow10Tab.map fun z=>Value.int .u64 z).toArray t z):=by
 obtain ⟨g,t,cs,fuel,p,hg,ht,hv,hd⟩:=h
 have e1 : Tryz.prog.globalNamed "internal/strconv.uint64pow10" = some 1:=by kernel_rfl
 obtain rfl:=Option.some.inj (e1.symm.trans hg)
 have e2 : (Tryz.prog.globals[1]?).map (·.type) = some 242:=by kernel_rfl
 obtain rfl:=Option.some.inj (e2.symm.trans ht)
 rw [bZh] at hd
 have hc:=Lib.cells_of_tab Tryz.underlying242 Tryz.underlying170 (by kernel_rfl) (by kernel_rfl) hd
 unfold World.var? at hv
 rw [e1] at hv
 simp only [Option.bind_some] at hv
 split at hv
 ·rename_i cs' t' z' hh
  obtain rfl:=Option.some.inj hv
  refine ⟨t',z', ?_⟩
  rw [hh]
  congr 2
  rw [← hc]
 ·cases hv
theorem bKz {L : List (String × DataW Unit)} {W : World} (hL : laidMet Tryz.prog L W) (hs : W.ShapedOpen Tryz.prog)
  (h1 : ("internal/strconv.uint64pow10", YtjfmbeinhhdapaaGreatDoor.Rows.laid_internal_strconv_uint64pow10) ∈ L) (h2 : ("strconv.ErrSyntax", YtjfmbeinhhdapaaGreatDoor.Rows.laid_strconv_ErrSyntax) ∈ L) (h3 : ("strconv.ErrRange", YtjfmbeinhhdapaaGreatDoor.Rows.laid_strconv_ErrRange) ∈ L) : Facts W :=
 ⟨⟨Tryz.laysM143.s1_3 W hs,cVx (Lib.laidMet.reads hL h1)⟩,bNx (by kernel_rfl) (by kernel_rfl) Tryz.underlying71 (Lib.laidMet.reads hL h2),bNx (by kernel_rfl) (by kernel_rfl) Tryz.underlying71 (Lib.laidMet.reads hL h3)⟩
theorem cOv {W : World} (hL : laidMet Tryz.prog dHw W) (hs : W.ShapedOpen Tryz.prog) : Facts W :=
 bKz hL hs (.head _) (.tail _ (.tail _ (.tail _ (.tail _ (.tail _ (.head _)))))) (.tail _ (.tail _ (.tail _ (.tail _ (.tail _ (.tail _ (.head _)))))))
theorem own : ownKnob Tryz.prog.godebug = none:=by kernel_rfl
end Go.Dd

namespace Go.Dd
open Go.Proofs
theorem cWf (n : Nat) (x y : DV) (h : Hp) : dB (n + 1) 19 [x,y] h = s19 (dB n) n x y h:=(cH 19 rfl n [x,y] h).trans (cTp (dB n) n [x,y] h)
theorem dVu (n : Nat) (x : DV) (h : Hp) : dB (n + 1) 20 [x] h = s20 (dB n) n x h:=(cH 20 rfl n [x] h).trans (cUe (dB n) n [x] h)
theorem dUn (n : Nat) (x : DV) (h : Hp) : dB (n + 1) 35 [x] h = s35 (dB n) n x h:=(cH 35 rfl n [x] h).trans (cSj (dB n) n [x] h)
theorem aXz {s a b : Bs} {l : List Bs} (h : cA 32 s = a :: b :: l) (hl : l ≠ []) : ∃ t,s = a ++ 32 :: (b ++ 32 :: t):=by
 cases e : eQ 32 s with
 | none=>rw [jA e] at h; cases h
 | some p =>
  obtain ⟨a',r⟩:=p
  rw [kD e] at h
  injection h with h1 h2
  subst h1
  cases e2 : eQ 32 r with
  | none =>
   rw [jA e2] at h2
   injection h2 with _ h3
   exact absurd h3.symm hl
  | some q =>
   obtain ⟨b',t⟩:=q
   rw [kD e2] at h2
   injection h2 with h3 h4
   subst h3
   exact ⟨t,by rw [kA e,kA e2]⟩
theorem sV (c : Nat) : ∀ s : Bs,(cA c s).length ≤ s.length + 1
 | []=>by simp [cA]
 | x :: t=>by
  have ih:=sV c t
  unfold cA
  split
  ·simp; omega
  ·split <;> simp_all <;> omega
theorem nB {c : Nat} : ∀ {s : Bs},∀ t ∈ cA c s,t.length ≤ s.length
 | [],t,h=>by simp [cA] at h; simp [h]
 | x :: s,t,h=>by
  unfold cA at h
  split at h
  ·simp only [List.mem_cons] at h
   rcases h with rfl | h
   ·simp
   ·have:=nB t h; simp; omega
  ·split at h
   ·simp only [List.mem_cons,List.not_mem_nil,or_false] at h; subst h; simp
   ·rename_i l r e
    simp only [List.mem_cons] at h
    rcases h with rfl | h
    ·have:=nB (c:=c) (s:=s) l (by rw [e]; simp); simp; omega
    ·have:=nB (c:=c) (s:=s) t (by rw [e]; simp [h]); simp; omega
theorem cSb {s : Bs} {a : Nat} (ha : a ≤ s.length) (h : Hp) : cK (.s s) (some (.i .i64 (Int.ofNat a))) none h = some (.s (s.drop a),h):=by
 have h1 : hiD none s.length s.length = some s.length:=by simp [hiD]
 have h2 : loD (some (.i .i64 (Int.ofNat a))) s.length = some a:=by
  simp only [loD,fL]
  rw [if_pos (by show (0 : Int) ≤ (a : Int) ∧ (a : Int) ≤ (s.length : Int); omega)]
  rfl
 simp only [cK,h1,h2,List.take_length]
abbrev Z6 : List DV:=[.i .i64 (Int.ofNat 0),.s [],.s [],.l0,.s [],.i .i64 (Int.ofNat 0)]
theorem cQ : ∀ v ∈ Z6,v.one = true:=by decide +kernel
theorem dKb (h : Hp) : StC Z6 (st0 0) h:=⟨.l0,rfl,.inl ⟨.inl rfl,rfl⟩⟩
def aPc (o : Option Stp) : Bool × Stp:=match o with
 | some st=>(true,st)
 | none=>(false,st0 0)
section
variable {n : Nat} {s : Bs} {x5 : DV} {p2 p4 : Pos} {h : Hp}
structure SD (s : Bs) (w : List Bs) (x5 : DV) (p2 p4 : Pos) (h : Hp) : Prop where
 wd : TxS x5 w h
 r2 : h.bl.get p2 = some (.row .ex Z6)
 r4 : h.bl.get p4 = some (.row .ex Z6)
 ne : p2 ≠ p4
 no2 : ∀ b o l c,x5 = .l b o l c → b ≠ p2 ∧ b ≠ p4
def bRc (lo : Nat) (ca : List DV) : Prop:=∀ b o l c,ca[3]? = some (DV.l b o l c) → lo ≤ b.toNat
theorem cX (lo : Nat) (op n : Int) (a b t : Bs) : bRc lo [DV.i .i64 op,.s a,.s b,.l0,.s t,.i .i64 n]:=fun b o l c e=>by cases e
def aGt (lo : Nat) (h : Hp) (r : aH) (o : Option Stp) : Prop:=∃ ca h',r = some (.t [.a ca,.b (aPc o).1],h') ∧ StC ca (aPc o).2 h' ∧ Lo lo h h' ∧ bRc lo ca
theorem cBq (r : aH) : cnd true r = r:=rfl
theorem fin {lo : Nat} {o : Option Stp} {g : Hp} {ca row : List DV} (h2 : g.bl.get p2 = some (.row .ex row)) (hl : row.length = 6) (ho : ∀ v ∈ row,v.one = true) (hlo : lo ≤ p2.toNat) (C : ∀ h',h'.next = g.next → (∀ b,b ≠ p2 → h'.bl.get b = g.bl.get b) → StC ca (aPc o).2 h') (b : Bool) (hb : b = (aPc o).1) (hc : ca.length = 6) (h1 : ∀ v ∈ ca,v.one = true) (hN : bRc lo ca) :
  aGt lo g (bnd (aG 6 (.p p2 0) (.a ca) g) fun _ g1=>bnd (aK 6 (.p p2 0) g1) fun v _=>some (.t [v,.b b],g1)) o:=by
 subst hb
 refine ⟨ca,⟨g.next,Tr.set (.row .ex ca) p2 g.bl⟩, ?_,C _ rfl fun b hb=>dXu _ _ _ _ hb,Lo.set _ hlo,hN⟩
 have hg : (⟨g.next,Tr.set (.row .ex ca) p2 g.bl⟩ : Hp).bl.get p2 = some (.row .ex ca):=dXv _ _ _
 rw [st6 h2 hl ho hc h1,aI,ld6 hg hc h1,aI]
theorem iD (lo : Nat) (r2 : h.bl.get p2 = some (.row .ex Z6)) (r4 : h.bl.get p4 = some (.row .ex Z6)) (hlo : lo ≤ p2.toNat) :
  aGt lo h (bnd (aK 6 (.p p4 0) h) fun v g=>bnd (aG 6 (.p p2 0) v g) fun _ g1=>bnd (aK 6 (.p p2 0) g1) fun v _=>some (.t [v,.b false],g1)) none:=by
 rw [ld6 r4 rfl cQ,aI]
 exact fin r2 rfl cQ hlo (fun h' _ _=>dKb h') false (by rfl) (by rfl) cQ (cX _ _ _ _ _ _)
theorem aUs {rec : RT} {w : List Bs} (T : TxS x5 w h) (hl : w.length < 1000000000) : ∀ (k i m : Nat) (e : Bool),i + k = w.length → k < m →
  nG rec n m (.s s) (.p p2 0) (.p p4 0) x5 (.b e) (.i .i64 (Int.ofNat i)) h = gC rec n (.s s) (.p p2 0) (.p p4 0) x5 (.b (e || decide ([] ∈ w.drop i))) h:=by
 intro k
 induction k with
 | zero =>
  intro i m e hi hm
  obtain ⟨m,rfl⟩ : ∃ j,m = j + 1:=⟨m - 1,by omega⟩
  have l1 : decide (Int.ofNat i < Int.ofNat w.length) = false:=decide_eq_false (by show ¬ (i : Int) < (w.length : Int); omega)
  show pD rec n (nG rec n m) _ _ _ _ _ _ h = _
  unfold pD
  simp only [T.len,aI,cO,l1,bW]
  rw [List.drop_of_length_le (by omega)]
  simp
 | succ k ih =>
  intro i m e hi hm
  obtain ⟨m,rfl⟩ : ∃ j,m = j + 1:=⟨m - 1,by omega⟩
  have hia : i < w.length:=by omega
  have l1 : decide (Int.ofNat i < Int.ofNat w.length) = true:=decide_eq_true (by show (i : Int) < (w.length : Int); omega)
  obtain ⟨pa,a1,a2⟩:=T.at (List.getElem?_eq_getElem hia)
  show pD rec n (nG rec n m) _ _ _ _ _ _ h = _
  unfold pD
  have hd : w.drop i = w[i] :: w.drop (i + 1):=List.drop_eq_getElem_cons hia
  cases e with
  | true =>
   simp only [T.len,aI,cO,l1,bF,dN,bN,bZ i 1 h (by omega)]
   rw [ih (i + 1) m true (by omega) (by omega)]
   simp
  | false =>
   simp only [T.len,aI,cO,l1,bF,eU,a1,a2,fI,bM,bZ i 1 h (by omega)]
   rw [ih (i + 1) m _ (by omega) (by omega),hd]
   congr 2
   rw [Bool.false_or,Bool.eq_iff_iff,Bool.or_eq_true,decide_eq_true_eq,decide_eq_true_eq,decide_eq_true_eq,List.mem_cons, @eq_comm _ w[i] []]
theorem TxS.off {v : DV} {l : List Bs} {h h' : Hp} (T : TxS v l h) (hn : h'.next = h.next) {p : Pos} (hv : ∀ b o l c,v = .l b o l c → b ≠ p) (hg : ∀ b,b ≠ p → h'.bl.get b = h.bl.get b) : TxS v l h' :=
 T.stay' (by rw [hn]; exact Nat.le_refl _) fun b o len cap e=>hg b (hv b o len cap e)
theorem aCs {v v' : DV} {x hi : Option DV} {g g' : Hp} (e : dF 1 v x hi g = some (v',g')) {b' : Pos} {o' l' c' : Nat} (hv : v' = .l b' o' l' c') : ∃ o l c,v = .l b' o l c:=by
 subst hv
 unfold dF at e
 split at e <;> (try (cases e; done))
 ·rename_i b o len cap
  split at e <;> (try (cases e; done))
  split at e <;> (try (cases e; done))
  split at e <;> (try (cases e; done))
  ·simp only [aU,bG,DV.l.injEq] at e
   exact ⟨o,len,cap,by rw [e.1.1]⟩
  ·simp only [aU,bG,DV.l.injEq] at e
   exact ⟨o,len,cap,by rw [e.1.1]⟩
  ·split at e
   ·cases e
   ·simp only [aU,bG,DV.l.injEq] at e
    exact ⟨o,len,cap,by rw [e.1.1]⟩
 ·split at e <;> (try (cases e; done))
  split at e <;> (try (cases e; done))
 ·split at e <;> (try (cases e; done))
  split at e <;> (try (cases e; done))
 ·split at e <;> (try (cases e; done))
  split at e <;> (try (cases e; done))
theorem aMt (a : Bs) : decide (aGp a < Int.ofNat 0) = (eR a).isNone:=by
 unfold aGp
 cases eR a with
 | none=>rfl
 | some k=>show decide ((k : Int) < 0) = false; exact decide_eq_false (by omega)
theorem nM (a b : Nat) (h : Hp) : aD .lss (.i .i64 (Int.ofNat a)) (.i .i64 (Int.ofNat b)) h = some (.b (decide (a < b)),h):=by
 rw [cO]
 by_cases q : a < b
 ·rw [decide_eq_true (show Int.ofNat a < Int.ofNat b from by show (a : Int) < (b : Int); omega),decide_eq_true q]
 ·rw [decide_eq_false (show ¬ Int.ofNat a < Int.ofNat b from by show ¬ (a : Int) < (b : Int); omega),decide_eq_false q]
theorem cHh (a b : Nat) (h : Hp) : aD .neq (.i .i64 (Int.ofNat a)) (.i .i64 (Int.ofNat b)) h = some (.b (!decide (a = b)),h):=by rw [lL,aWw]
theorem dWl (a b : Nat) : (Int.ofNat a == Int.ofNat b) = decide (a = b):=by
 by_cases q : a = b
 ·subst q; simp
 ·rw [decide_eq_false q]
  exact beq_eq_false_iff_ne.2 (fun e=>q (Int.ofNat.inj e))
theorem dTd (a b : Nat) (h : Hp) : aD .eql (.i .i64 (Int.ofNat a)) (.i .i64 (Int.ofNat b)) h = some (.b (decide (a = b)),h):=by
 rw [fB,dWl]
theorem dJf {v : DV} (hv : dD v = some [v]) (op : Int) (a b : Bs) (h : Hp) : bK Z6 [(0,1,(.i .i64 op)),(1,1,.s a),(2,1,.s b),(3,1,v)] h = some (.a [.i .i64 op,.s a,.s b,v,.s [],.i .i64 (Int.ofNat 0)],h):=by
 have c1 : ∀ k z,dD (.i k z) = some [.i k z]:=fun _ _=>rfl
 have c2 : ∀ z,dD (.s z) = some [.s z]:=fun _=>rfl
 simp [bK,jV,c1,c2,hv]
theorem cEo (op : Int) (a t : Bs) (h : Hp) : bK Z6 [(0,1,(.i .i64 op)),(1,1,.s a),(4,1,.s t)] h = some (.a [.i .i64 op,.s a,.s [],.l0,.s t,.i .i64 (Int.ofNat 0)],h):=rfl
theorem bYy (op k : Int) (t : Bs) (h : Hp) : bK Z6 [(0,1,(.i .i64 op)),(5,1,(.i .i64 k)),(4,1,.s t)] h = some (.a [.i .i64 op,.s [],.s [],.l0,.s t,.i .i64 k],h):=rfl
theorem dGz (op k : Int) (h : Hp) : bK Z6 [(0,1,(.i .i64 op)),(5,1,(.i .i64 k))] h = some (.a [.i .i64 op,.s [],.s [],.l0,.s [],.i .i64 k],h):=rfl
theorem dH (op n : Int) (a b t : Bs) : ∀ v ∈ [DV.i .i64 op,.s a,.s b,.l0,.s t,.i .i64 n],v.one = true:=fun v hv=>by
 simp only [List.mem_cons,List.not_mem_nil,or_false] at hv
 rcases hv with rfl | rfl | rfl | rfl | rfl | rfl <;> rfl
theorem uU {x : DV} (hx : x.one = true) (op n : Int) (a b t : Bs) : ∀ v ∈ [DV.i .i64 op,.s a,.s b,x,.s t,.i .i64 n],v.one = true:=fun v hv=>by
 simp only [List.mem_cons,List.not_mem_nil,or_false] at hv
 rcases hv with rfl | rfl | rfl | rfl | rfl | rfl <;> first | rfl | exact hx
theorem hY (op n : Int) (a b t : Bs) (h : Hp) : StC [DV.i .i64 op,.s a,.s b,.l0,.s t,.i .i64 n] ⟨op,a,b,[],t,n⟩ h:=⟨.l0,rfl,.inl ⟨.inl rfl,rfl⟩⟩
theorem bZq {w : List Bs} (D : SD s w x5 p2 p4 h) (hw : w = cA 32 s) (h1 : w.length ≠ 1) (hs : s.length < 100000000) (hn : s.length + 20 < n) (lo : Nat) (hlo : lo ≤ p2.toNat) (hlo4 : lo ≤ p4.toNat) (hlo5 : ∀ b o l c,x5 = .l b o l c → lo ≤ b.toNat) :
  aGt lo h (gC (dB n) n (.s s) (.p p2 0) (.p p4 0) x5 (.b (decide ([] ∈ w.drop 1))) h) (iI s):=by
 obtain ⟨n,rfl⟩ : ∃ j,n = j + 1:=⟨n - 1,by omega⟩
 have hwn : w ≠ []:=by rw [hw]; exact sE 32 s
 obtain ⟨w0,r,rfl⟩ : ∃ a r,w = a :: r:=by
  cases w with
  | nil=>exact absurd rfl hwn
  | cons a r=>exact ⟨a,r,rfl⟩
 obtain ⟨w1,r,rfl⟩ : ∃ a q,r = a :: q:=by
  cases r with
  | nil=>simp at h1
  | cons a q=>exact ⟨a,q,rfl⟩
 have hlen : (w0 :: w1 :: r).length ≤ s.length + 1:=by rw [hw]; exact sV 32 s
 have T:=D.wd
 obtain ⟨q0,i0,d0⟩:=T.at (i:=0) rfl
 obtain ⟨q1,i1,d1⟩:=T.at (i:=1) rfl
 have r2' : h.bl.get p2 = some (.row .ex Z6):=D.r2
 have num1 : ∀ g,dB (n + 1) 35 [.s w1] g = some (.i .i64 (aGp w1),g):=fun g=>by rw [dUn]; exact cDm (by omega) g
 have len3 : (w0 :: w1 :: r).length = r.length + 2:=by simp
 unfold gC aVv bAp
 simp only [i0,d0,aI,fI]
 have hD : iI s = iI s:=rfl
 conv at hD=>rhs; unfold iI
 simp only [← hw,List.getD_cons_zero,List.getD_cons_succ,List.drop_succ_cons,List.drop_zero] at hD
 rw [if_neg h1] at hD
 rw [hD]
 clear hD
 by_cases c1 : w0 = dI
 ·have e1 : decide (w0 = [99,108,97,115,115]) = true:=decide_eq_true c1
  rw [if_pos c1]
  simp only [e1,bF,T.len,aI,nM,List.length_cons]
  by_cases c2 : r.length + 1 + 1 < 3
  ·rw [if_pos (.inl c2)]
   simp only [c2,decide_true,dN,aI,bN,bF]
   exact iD lo D.r2 D.r4 hlo
  ·simp only [c2,decide_false,eU,aI,bM,jL,List.drop_succ_cons,List.drop_zero,decide_eq_true_eq,false_or]
   by_cases c3 : [] ∈ w1 :: r
   ·rw [if_pos c3,if_pos c3]
    exact iD lo D.r2 D.r4 hlo
   ·rw [if_neg c3,if_neg c3]
    obtain ⟨w2,r,rfl⟩ : ∃ a q,r = a :: q:=by
     cases r with
     | nil=>simp at c2
     | cons a q=>exact ⟨a,q,rfl⟩
    obtain ⟨q2,i2,d2⟩:=T.at (i:=2) rfl
    obtain ⟨v,b1,b2⟩:=T.drop (i:=3) (by simp)
    have hrow:=fun b' o' l' c' e=>aCs b1 (b':=b') (o':=o') (l':=l') (c':=c') e
    simp only [i1,d1,i2,d2,aI,b1,dJf b2.cells]
    refine fin (o:=some ⟨1,w1,w2,r,[],0⟩) (ca:=[.i .i64 1,.s w1,.s w2,v,.s [],.i .i64 0]) D.r2 rfl cQ hlo (fun h' hn' hg=>⟨v,rfl, ?_⟩) true (by rfl) (by rfl) (uU b2.one _ _ _ _ _) (fun b o l c e=>by
     obtain ⟨o2,l2,c2',e2⟩:=hrow b o l c (Option.some.inj e)
     exact hlo5 b o2 l2 c2' e2)
    exact b2.off hn' (p:=p2) (fun b o l c e=>by
     obtain ⟨o2,l2,c2',e2⟩:=hrow b o l c e
     exact (D.no2 b o2 l2 c2' e2).1) hg
 have e1 : decide (w0 = [99,108,97,115,115]) = false:=decide_eq_false c1
 rw [if_neg c1]
 simp only [e1,bW]
 unfold aSo aHj
 simp only [fI,aI]
 by_cases c2 : w0 = eF
 ·have e2 : decide (w0 = [109,101,116,104,111,100]) = true:=decide_eq_true c2
  rw [if_pos c2]
  simp only [e2,bF,T.len,aI,nM,List.length_cons]
  by_cases c3 : r.length + 1 + 1 < 3
  ·rw [if_pos (.inl c3)]
   simp only [c3,decide_true,dN,sK,aI,bN,bF]
   exact iD lo D.r2 D.r4 hlo
  ·simp only [c3,decide_false,eU,aI,i1,d1,fI,bM,jL,decide_eq_true_eq,false_or]
   by_cases c4 : w1 = []
   ·rw [if_pos c4,if_pos c4]
    exact iD lo D.r2 D.r4 hlo
   ·rw [if_neg c4,if_neg c4]
    obtain ⟨t,ht⟩:=aXz hw.symm (by intro e; rw [e] at c3; simp at c3)
    have hb : 7 + w1.length + 1 ≤ s.length:=by rw [ht,c2]; simp [eF]; omega
    simp only [iM,aI,bZ 7 w1.length h (by omega),bZ (7 + w1.length) 1 h (by omega),cSb hb,cEo]
    exact fin (o:=some _) D.r2 rfl cQ hlo (fun h' _ _=>hY _ _ _ _ _ _) true (by rfl) (by rfl) (dH _ _ _ _ _) (cX _ _ _ _ _ _)
 have e2 : decide (w0 = [109,101,116,104,111,100]) = false:=decide_eq_false c2
 rw [if_neg c2]
 simp only [e2,bW]
 unfold aUg aGs
 simp only [fI,aI]
 by_cases c3 : w0 = wDo
 ·have e3 : decide (w0 = [100,111]) = true:=decide_eq_true c3
  rw [if_pos c3]
  simp only [e3,bF,T.len,aI,nM,List.length_cons]
  by_cases c4 : r.length + 1 + 1 < 3
  ·rw [if_pos c4]
   simp only [c4,decide_true,dN,sK,aI,bN,bF]
   exact iD lo D.r2 D.r4 hlo
  ·rw [if_neg c4]
   simp only [c4,decide_false,eU,aI,i1,d1,num1,cO,aMt,bM,jL]
   cases hk : eR w1 with
   | none =>
    simp only [Option.isNone_none,if_true]
    exact iD lo D.r2 D.r4 hlo
   | some k =>
    have hI : aGp w1 = Int.ofNat k:=by unfold aGp; rw [hk]
    obtain ⟨t,ht⟩:=aXz hw.symm (by intro e; rw [e] at c4; simp at c4)
    have hb : 3 + w1.length + 1 ≤ s.length:=by rw [ht,c3]; simp [wDo]; omega
    have sw : ∀ g,bJ (some (DV.s w1,g)) (.s w1) = true:=fun g=>by simp [bJ,DV.beq,oZ]
    simp only [Option.isNone_some,Bool.false_eq_true,if_false,d1,sw,Bool.and_self,Bool.and_true,Bool.true_and]
    simp only [cBq,iM,aI,bZ 3 w1.length h (by omega),bZ (3 + w1.length) 1 h (by omega),cSb hb,bYy,hI]
    exact fin (o:=some ⟨3,[],[],[],s.drop (3 + w1.length + 1),Int.ofNat k⟩) (ca:=[.i .i64 3,.s [],.s [],.l0,.s (s.drop (3 + w1.length + 1)),.i .i64 (Int.ofNat k)]) D.r2 rfl cQ hlo (fun h' _ _=>hY _ _ _ _ _ _) true (by rfl) (by rfl) (dH _ _ _ _ _) (cX _ _ _ _ _ _)
 have e3 : decide (w0 = [100,111]) = false:=decide_eq_false c3
 rw [if_neg c3]
 simp only [e3,bW]
 unfold aRj
 simp only [fI,aI]
 have tier : ∀ b : Bool,b = true → (w0 = iQ ∨ w0 = kH) → aGt lo h (qK (dB (n + 1)) (n + 1) (.p p2 0) (.p p4 0) x5 (.b (decide ([] ∈ w1 :: r))) (.s w0) (.b b) h)
   (if r.length + 1 + 1 ≠ 3 ∨ [] ∈ w1 :: r then none else some ⟨4,w1,[],[],(w0 :: w1 :: r).getD 2 [],if w0 = iQ then 1 else 0⟩):=by
  intro b hb hf
  subst hb
  unfold qK aUx
  simp only [bF,T.len,aI,cHh,List.length_cons]
  by_cases c4 : r.length + 1 + 1 = 3
  ·simp only [c4,decide_true,Bool.not_true,eU,aI,bM,jL,decide_eq_true_eq,ne_eq,not_true,false_or]
   by_cases c5 : [] ∈ w1 :: r
   ·rw [if_pos c5,if_pos c5]
    exact iD lo D.r2 D.r4 hlo
   ·rw [if_neg c5,if_neg c5]
    obtain ⟨w2,r,rfl⟩ : ∃ a q,r = a :: q:=by
     cases r with
     | nil=>simp at c4
     | cons a q=>exact ⟨a,q,rfl⟩
    obtain ⟨q2,i2,d2⟩:=T.at (i:=2) rfl
    unfold aAb
    simp only [i1,d1,i2,d2,aI,cEo]
    rw [st6 D.r4 rfl cQ rfl (dH _ _ _ _ _),aI]
    have g4 : (⟨h.next,Tr.set (.row .ex [.i .i64 (Int.ofNat 4),.s w1,.s [],.l0,.s w2,.i .i64 (Int.ofNat 0)]) p4 h.bl⟩ : Hp).bl.get p4 = _:=dXv _ _ _
    have g2 : (⟨h.next,Tr.set (.row .ex [.i .i64 (Int.ofNat 4),.s w1,.s [],.l0,.s w2,.i .i64 (Int.ofNat 0)]) p4 h.bl⟩ : Hp).bl.get p2 = some (.row .ex Z6):=by
     rw [← D.r2]; exact dXu _ _ _ _ D.ne
    have T' : TxS x5 (w0 :: w1 :: w2 :: r) ⟨h.next,Tr.set (.row .ex [.i .i64 (Int.ofNat 4),.s w1,.s [],.l0,.s w2,.i .i64 (Int.ofNat 0)]) p4 h.bl⟩:=T.off rfl (p:=p4) (fun b o l c e=>(D.no2 b o l c e).2) (fun b hb=>dXu _ _ _ _ hb)
    generalize hg : (⟨h.next,Tr.set (.row .ex [.i .i64 (Int.ofNat 4),.s w1,.s [],.l0,.s w2,.i .i64 (Int.ofNat 0)]) p4 h.bl⟩ : Hp) = g at g4 g2 T'
    have Lg : Lo lo h g:=by rw [← hg]; exact Lo.set _ hlo4
    obtain ⟨q0',i0',d0'⟩:=T'.at (i:=0) rfl
    unfold tO
    simp only [i0',d0',aI,fI,List.getD_cons_succ,List.getD_cons_zero]
    by_cases c6 : w0 = iQ
    ·have e6 : decide (w0 = [102,97,115,116]) = true:=decide_eq_true c6
     rw [if_pos c6]
     simp only [e6,bF,iN,Nat.zero_add,aI]
     have sto : aG 1 (.p p4 5) (.i .i64 (Int.ofNat 1)) g = some (aS,⟨g.next,Tr.set (.row .ex [.i .i64 (Int.ofNat 4),.s w1,.s [],.l0,.s w2,.i .i64 (Int.ofNat 1)]) p4 g.bl⟩):=by
      simp only [aG,dD,cE,g4]
      rfl
     rw [sto,aI]
     unfold uQ
     rw [ld6 (dXv _ _ _) rfl (dH _ _ _ _ _),aI]
     obtain ⟨ca,h',k1,k2,k3,k4⟩:=fin (lo:=lo) (p2:=p2) (o:=some ⟨4,w1,[],[],w2,1⟩) (g:=⟨g.next,Tr.set (.row .ex [.i .i64 (Int.ofNat 4),.s w1,.s [],.l0,.s w2,.i .i64 (Int.ofNat 1)]) p4 g.bl⟩) (ca:=[.i .i64 (Int.ofNat 4),.s w1,.s [],.l0,.s w2,.i .i64 (Int.ofNat 1)])
      (by rw [dXu _ _ _ _ D.ne]; exact g2) rfl cQ hlo (fun h' _ _=>hY _ _ _ _ _ _) true (by rfl) (by rfl) (dH _ _ _ _ _) (cX _ _ _ _ _ _)
     exact ⟨ca,h',k1,k2,Lg.trans ((Lo.set _ hlo4).trans k3),k4⟩
    ·have e6 : decide (w0 = [102,97,115,116]) = false:=decide_eq_false c6
     rw [if_neg c6]
     simp only [e6,bW]
     unfold uQ
     rw [ld6 g4 rfl (dH _ _ _ _ _),aI]
     obtain ⟨ca,h',k1,k2,k3,k4⟩:=fin (lo:=lo) (p2:=p2) (o:=some ⟨4,w1,[],[],w2,0⟩) (g:=g) (ca:=[.i .i64 (Int.ofNat 4),.s w1,.s [],.l0,.s w2,.i .i64 (Int.ofNat 0)]) g2 rfl cQ hlo (fun h' _ _=>hY _ _ _ _ _ _) true (by rfl) (by rfl) (dH _ _ _ _ _) (cX _ _ _ _ _ _)
     exact ⟨ca,h',k1,k2,Lg.trans k3,k4⟩
  ·simp only [c4,decide_false,Bool.not_false,dN,aI,bN,bF,ne_eq,not_false_eq_true,true_or,if_true]
   exact iD lo D.r2 D.r4 hlo
 by_cases c4 : w0 = iQ
 ·have e4 : decide (w0 = [102,97,115,116]) = true:=decide_eq_true c4
  rw [if_pos (.inl c4)]
  simp only [e4,bF]
  exact tier true rfl (.inl c4)
 have e4 : decide (w0 = [102,97,115,116]) = false:=decide_eq_false c4
 simp only [e4,bW]
 by_cases c5 : w0 = kH
 ·have e5 : decide (w0 = [115,108,111,119]) = true:=decide_eq_true c5
  rw [if_pos (.inr c5)]
  simp only [e5]
  exact tier true rfl (.inr c5)
 have e5 : decide (w0 = [115,108,111,119]) = false:=decide_eq_false c5
 rw [if_neg (show ¬ (w0 = iQ ∨ w0 = kH) from fun q=>q.elim c4 c5)]
 simp only [e5]
 unfold qK
 simp only [bW,fI,aI]
 by_cases c6 : w0 = jT
 ·have e6 : decide (w0 = [101,118,101,114,121]) = true:=decide_eq_true c6
  rw [if_pos c6]
  simp only [e6,bF,T.len,aI,cHh,List.length_cons]
  by_cases c7 : r.length + 1 + 1 = 2
  ·simp only [c7,decide_true,Bool.not_true,eU,aI,i1,d1,num1,cO,aMt,bM,jL,ne_eq,not_true,if_false]
   cases hk : eR w1 with
   | none =>
    simp only [Option.isNone_none,if_true]
    exact iD lo D.r2 D.r4 hlo
   | some k =>
    have hI : aGp w1 = Int.ofNat k:=by unfold aGp; rw [hk]
    simp only [Option.isNone_some,Bool.false_eq_true,if_false,dGz,aI,hI]
    exact fin (o:=some _) D.r2 rfl cQ hlo (fun h' _ _=>hY _ _ _ _ _ _) true (by rfl) (by rfl) (dH _ _ _ _ _) (cX _ _ _ _ _ _)
  ·simp only [c7,decide_false,Bool.not_false,dN,sK,aI,bN,bF,ne_eq,not_false_eq_true,if_true]
   exact iD lo D.r2 D.r4 hlo
 ·have e6 : decide (w0 = [101,118,101,114,121]) = false:=decide_eq_false c6
  rw [if_neg c6]
  simp only [e6,bW]
  unfold bH
  exact iD lo D.r2 D.r4 hlo
theorem cDp (r2 : h.bl.get p2 = some (.row .ex Z6)) (r4 : h.bl.get p4 = some (.row .ex Z6)) (ne : p2 ≠ p4) (lo : Nat) (hlo : lo ≤ p2.toNat) (hlo4 : lo ≤ p4.toNat) {rec : RT} :
  aGt lo h (aJo rec n (.s s) (.p p2 0) (.p p4 0) h) (if s = jN then some (st0 5) else if s = oL then some (st0 6) else if s = oF then some (st0 7) else none):=by
 have tail : ∀ (k : Int) (g : Hp) (o : Option Stp),g.bl.get p4 = some (.row .ex [.i .i64 k,.s [],.s [],.l0,.s [],.i .i64 (Int.ofNat 0)]) → g.bl.get p2 = some (.row .ex Z6) → Lo lo h g → aPc o = (!decide (k = 0),⟨k,[],[],[],[],0⟩) → aGt lo h (nC rec n (.p p2 0) (.p p4 0) g) o:=by
  intro k g o g4 g2 L ho
  unfold nC
  have e0 : aA (.p p4 0) g = some (.i .i64 k,g):=sO g4 rfl rfl
  have one:=dH k (Int.ofNat 0) [] [] []
  rw [ld6 g4 rfl one,aI,iN,aI,e0,aI,lL,nbI,aI,st6 g2 rfl cQ rfl one,aI]
  have e1 : aA (.p p4 (0 + 0)) ⟨g.next,Tr.set (.row .ex [.i .i64 k,.s [],.s [],.l0,.s [],.i .i64 (Int.ofNat 0)]) p2 g.bl⟩ = some (.i .i64 k,⟨g.next,Tr.set (.row .ex [.i .i64 k,.s [],.s [],.l0,.s [],.i .i64 (Int.ofNat 0)]) p2 g.bl⟩) :=
   sO (by show (Tr.set _ p2 g.bl).get p4 = _; rw [dXu _ _ _ _ (Ne.symm ne)]; exact g4) rfl rfl
  have e2 : bJ (aA (.p p4 (0 + 0)) ⟨g.next,Tr.set (.row .ex [.i .i64 k,.s [],.s [],.l0,.s [],.i .i64 (Int.ofNat 0)]) p2 g.bl⟩) (.i .i64 k) = true:=by
   rw [e1]
   simp [bJ,DV.beq]
  simp only [e2,Bool.true_and,Bool.and_true,cBq]
  rw [ld6 (dXv _ _ _) rfl one,aI]
  refine ⟨[.i .i64 k,.s [],.s [],.l0,.s [],.i .i64 (Int.ofNat 0)],⟨g.next,Tr.set (.row .ex [.i .i64 k,.s [],.s [],.l0,.s [],.i .i64 (Int.ofNat 0)]) p2 g.bl⟩, ?_, ?_,L.trans (Lo.set _ hlo),cX _ _ _ _ _ _⟩
  ·rw [ho]; rfl
  ·rw [ho]; exact hY k 0 [] [] [] _
 have set : ∀ k : Nat,aG 1 (.p p4 0) (.i .i64 (Int.ofNat k)) h = some (aS,⟨h.next,Tr.set (.row .ex [.i .i64 (Int.ofNat k),.s [],.s [],.l0,.s [],.i .i64 (Int.ofNat 0)]) p4 h.bl⟩):=by
  intro k
  simp only [aG,dD,cE,r4]
  rfl
 unfold aJo
 simp only [fI,aI,jL,iN,Nat.add_zero,set,decide_eq_true_eq]
 have go : ∀ (k : Nat) (o : Option Stp),aPc o = (!decide ((k : Int) = 0),⟨k,[],[],[],[],0⟩) → aGt lo h (nC rec n (.p p2 0) (.p p4 0) ⟨h.next,Tr.set (.row .ex [.i .i64 (Int.ofNat k),.s [],.s [],.l0,.s [],.i .i64 (Int.ofNat 0)]) p4 h.bl⟩) o:=fun k o ho =>
  tail (Int.ofNat k) _ o (dXv _ _ _) (by rw [← r2]; exact dXu _ _ _ _ ne) (Lo.set _ hlo4) ho
 by_cases c1 : s = jN
 ·rw [if_pos c1,if_pos (show s = [99,111,108,108,101,99,116] from c1)]
  exact go 5 _ rfl
 rw [if_neg c1,if_neg (show ¬ s = [99,111,108,108,101,99,116] from c1)]
 by_cases c2 : s = oL
 ·rw [if_pos c2,if_pos (show s = [102,108,117,115,104] from c2)]
  exact go 6 _ rfl
 rw [if_neg c2,if_neg (show ¬ s = [102,108,117,115,104] from c2)]
 by_cases c3 : s = oF
 ·rw [if_pos c3,if_pos (show s = [105,109,97,103,101] from c3)]
  exact go 7 _ rfl
 rw [if_neg c3,if_neg (show ¬ s = [105,109,97,103,101] from c3)]
 exact tail 0 h none r4 r2 (Lo.refl _ _) rfl
theorem bXe (hs : s.length < 100000000) (hn : s.length + 30 < n) (h : Hp) : aGt h.next.toNat h (dB n 20 [.s s] h) (iI s):=by
 obtain ⟨n,rfl⟩ : ∃ j,n = j + 1 + 1:=⟨n - 2,by omega⟩
 rw [dVu]
 unfold s20 zE aDj
 simp only [aCd,aI]
 have n1:=dXw h.next
 have n2:=dXw h.next.succ
 have ne : h.next ≠ h.next.succ:=fun e=>by have:=congrArg Pos.toNat e; omega
 generalize hg : (⟨h.next.succ.succ,Tr.set (.row .ex Z6) h.next.succ (Tr.set (.row .ex Z6) h.next h.bl)⟩ : Hp) = g
 have gn : g.next = h.next.succ.succ:=by rw [← hg]
 have g4 : g.bl.get h.next.succ = some (.row .ex Z6):=by rw [← hg]; exact dXv _ _ _
 have g2 : g.bl.get h.next = some (.row .ex Z6):=by
  rw [← hg]
  show (Tr.set _ h.next.succ (Tr.set _ h.next h.bl)).get h.next = _
  rw [dXu _ _ _ _ ne,dXv]
 have Lg : Lo h.next.toNat h g:=by
  rw [← hg]
  exact (Lo.new (.row .ex Z6) h).trans ((Lo.new (.row .ex Z6) ⟨h.next.succ,Tr.set (.row .ex Z6) h.next h.bl⟩).mono (show h.next.toNat ≤ h.next.succ.toNat by omega))
 obtain ⟨x5,g',e1,e2,e3⟩:=aDh (rec:=dB n) (n:=n) (s:=s) (c:=32) (by omega) (by omega) g
 rw [cWf,e1,aI]
 have T:=e2.txs
 have hlen:=sV 32 s
 have up : aGt h.next.toNat g' (aOb (dB (n + 1)) (n + 1) (.s s) (.p h.next 0) (.p h.next.succ 0) x5 g') (iI s):=by
  have k2 : g'.bl.get h.next = some (.row .ex Z6):=by rw [e3.get _ (by rw [gn]; omega)]; exact g2
  have k4 : g'.bl.get h.next.succ = some (.row .ex Z6):=by rw [e3.get _ (by rw [gn]; omega)]; exact g4
  have hn':=e3.next
  rw [gn] at hn'
  unfold aOb aHs
  simp only [T.len,aI,dTd,jL,decide_eq_true_eq]
  by_cases c : (cA 32 s).length = 1
  ·rw [if_pos c]
   have : iI s = (if s = jN then some (st0 5) else if s = oL then some (st0 6) else if s = oF then some (st0 7) else none):=by
    unfold iI
    simp only [c,if_true]
   rw [this]
   exact cDp k2 k4 ne h.next.toNat (Nat.le_refl _) (by omega)
  ·rw [if_neg c]
   unfold nI aWa aIa aRl
   have hne:=sE 32 s
   have hl0 : (cA 32 s).length ≠ 0:=fun e=>hne (List.eq_nil_of_length_eq_zero e)
   rw [aUs T (by omega) ((cA 32 s).length - 1) 1 (n + 1) false (by omega) (by omega)]
   rw [Bool.false_or]
   exact bZq ⟨T,k2,k4,ne,fun b o l c e=>by
    rcases e2 with ⟨rfl,_⟩ | ⟨b',rfl,_,e5,_⟩
    ·cases e
    ·cases e
     rw [gn] at e5
     exact ⟨fun q=>by rw [q] at e5; omega,fun q=>by rw [q] at e5; omega⟩⟩ rfl c hs (by omega) h.next.toNat (Nat.le_refl _) (by omega) (fun b o l c e=>by
    rcases e2 with ⟨rfl,_⟩ | ⟨b',rfl,_,e5,_⟩
    ·cases e
    ·cases e
     rw [gn] at e5
     omega)
 obtain ⟨ca,h',u1,u2,u3,u4⟩:=up
 exact ⟨ca,h',u1,u2,Lg.trans ((e3.mono (by rw [gn]; omega)).trans u3),u4⟩
end
end Go.Dd

namespace Go.Dd
open Go.Proofs
theorem dRa (n : Nat) (x y : DV) (h : Hp) : dB (n + 1) 21 [x,y] h = s21 (dB n) n x y h:=(cH 21 rfl n [x,y] h).trans (cSz (dB n) n [x,y] h)
def uD (cells : List DV) (j : Nat) : List DV:=(cells.drop (j * 6)).take 6
def aOl (ca : List DV) (x : DV) : Prop:=∀ b o l c,ca[3]? = some (DV.l b o l c) → ∀ m,x ≠ .l b 0 m m
def StS (x : DV) (l : List Stp) (lo : Nat) (h : Hp) : Prop:=∃ cells,GrZ 6 x l.length cells lo h ∧ ∀ j st,l[j]? = some st → StC (uD cells j) st h ∧ aOl (uD cells j) x
theorem StS.nil (lo : Nat) (h : Hp) : StS .l0 [] lo h:=⟨[],GrZ.nil 6 lo h,fun j st e=>by simp at e⟩
theorem GrZ.stay {sz n lo : Nat} {x : DV} {cells : List DV} {h h' : Hp} (S : GrZ sz x n cells lo h) (L : Lo h.next.toNat h h') : GrZ sz x n cells lo h':=by
 obtain ⟨a,b,c⟩:=S
 refine ⟨a,b, ?_⟩
 rcases c with c | ⟨p,e1,e2,e3,e4⟩
 ·exact .inl c
 ·exact .inr ⟨p,e1,by rw [L.get p e4]; exact e2,e3,Nat.lt_of_lt_of_le e4 L.next⟩
theorem StS.stay {x : DV} {l : List Stp} {lo : Nat} {h h' : Hp} (S : StS x l lo h) (L : Lo h.next.toNat h h') : StS x l lo h':=by
 obtain ⟨cells,G,C⟩:=S
 exact ⟨cells,G.stay L,fun j st e=>⟨(C j st e).1.stay L,(C j st e).2⟩⟩
theorem StS.len {x : DV} {l : List Stp} {lo : Nat} {h : Hp} (S : StS x l lo h) (g : Hp) : cB x g = some (.i .i64 (Int.ofNat l.length),g):=by
 obtain ⟨cells,⟨_,_,G⟩,_⟩:=S
 rcases G with ⟨rfl,e⟩ | ⟨p,rfl,_⟩
 ·rw [e]; rfl
 ·rfl
theorem aDp {cells c : List DV} {n j : Nat} (hl : cells.length = n * 6) (hj : j < n) : uD (cells ++ c) j = uD cells j:=by
 unfold uD
 rw [List.drop_append_of_le_length (by omega),List.take_append_of_le_length (by rw [List.length_drop]; omega)]
theorem aDw {cells c : List DV} {n : Nat} (hl : cells.length = n * 6) (hc : c.length = 6) : uD (cells ++ c) n = c:=by
 unfold uD
 rw [← hl,List.drop_left,← hc,List.take_length]
theorem mN : ∀ (n : Nat) (l : List DV),n ≤ l.length → (∀ v ∈ l.take n,v.one = true) → jJ n l = some (l.take n)
 | 0,l,_,_=>by simp [jJ]
 | n + 1,[],h,_=>by simp at h
 | n + 1,x :: l,h,ho=>by
  show (if x.one then (jJ n l).map (x :: ·) else none) = _
  rw [if_pos (ho x (by simp)),mN n l (by simpa using h) (fun v hv=>ho v (by simp [hv]))]
  rfl
theorem StS.at {x : DV} {l : List Stp} {lo : Nat} {h : Hp} (S : StS x l lo h) {i : Nat} {st : Stp} (hi : l[i]? = some st) : ∃ p ca,(∀ g,aE 6 x (.i .i64 (Int.ofNat i)) g = some (p,g)) ∧ aK 6 p h = some (.a ca,h) ∧ StC ca st h:=by
 have hlt : i < l.length:=by
  rcases Nat.lt_or_ge i l.length with h | h
  ·exact h
  ·rw [List.getElem?_eq_none h] at hi; cases hi
 obtain ⟨cells,⟨c1,c2,G⟩,C⟩:=S
 have C':=(C i st hi).1
 rcases G with ⟨rfl,e⟩ | ⟨b,rfl,e2,e3,e4⟩
 ·omega
 ·refine ⟨.p b (i * 6),uD cells i,fun g => ?_, ?_,C'⟩
  ·unfold aE
   simp only
   rw [if_pos (by show (0 : Int) ≤ (i : Int) ∧ (i : Int) < (l.length : Int); omega)]
   show some (DV.p b (0 + (i : Int).toNat * 6),g) = _
   simp
  ·have ht : jJ 6 (cells.drop (i * 6)) = some (uD cells i):=mN 6 _ (by rw [List.length_drop,c1]; omega) C'.one
   simp only [aK,cellsAt,rowOf,e2,ht]
theorem StS.app {x : DV} {l : List Stp} {lo : Nat} {h : Hp} (S : StS x l lo h) (hlo : lo ≤ h.next.toNat) {ca : List DV} {st : Stp} (A : StC ca st h) (hN : aOl ca x) (hl : l.length < 1000000) :
  ∃ y g,aO Z6 1 [(0,6,.a ca)] h = some (y,g) ∧ ∃ x' h',bB 6 88 x y g = some (x',h') ∧ StS x' (l ++ [st]) lo h' ∧ Lo lo h h':=by
 obtain ⟨cells,G,C⟩:=S
 have fd : jV Z6 [(0,6,.a ca)] = some ca:=by
  have hc:=A.len
  simp only [jV,dD]
  rw [if_pos ⟨hc,by decide⟩]
  simp
 obtain ⟨y,g,e1,x',h',e2,e3,e4,e5,e6⟩:=G.appV hlo (by omega) fd A.len A.one (bytes:=88) (by unfold kY; omega)
 refine ⟨y,g,e1,x',h',e2,⟨cells ++ ca,by rw [List.length_append]; exact e3,fun j st' hj => ?_⟩,e4⟩
 have fresh : ∀ (ca' : List DV) (st' : Stp),StC ca' st' h → aOl ca' x → StC ca' st' h' ∧ aOl ca' x':=by
  intro ca' st' A' N'
  obtain ⟨v,rfl,T⟩:=A'
  constructor
  ·refine ⟨v,rfl,T.stay' e4.next fun b o len cap ev => ?_⟩
   have hb : b.toNat < h.next.toNat:=by
    rcases T with ⟨q | q,_⟩ | ⟨b',o',cap',k,row,q,_,_,q4,_⟩
    ·rw [q] at ev; cases ev
    ·rw [q] at ev; cases ev
    ·rw [q] at ev; cases ev; exact q4
   exact e5 b hb (fun m=>N' b o len cap (by rw [ev]; rfl) m)
  ·intro b o len cap ev m e
   have hb : b.toNat < h.next.toNat:=by
    have ev' : v = .l b o len cap:=Option.some.inj ev
    rcases T with ⟨q | q,_⟩ | ⟨b',o',cap',k,row,q,_,_,q4,_⟩
    ·rw [q] at ev'; cases ev'
    ·rw [q] at ev'; cases ev'
    ·rw [q] at ev'; cases ev'; exact q4
   have:=e6 b m e
   omega
 by_cases q : j < l.length
 ·rw [List.getElem?_append_left q] at hj
  rw [aDp G.1 q]
  exact fresh _ _ (C j st' hj).1 (C j st' hj).2
 ·have : j = l.length:=by
   rcases Nat.lt_or_ge j (l ++ [st]).length with h | h
   ·simp at h; omega
   ·rw [List.getElem?_eq_none h] at hj; cases hj
  subst this
  rw [List.getElem?_append_right (Nat.le_refl _)] at hj
  simp only [Nat.sub_self,List.getElem?_cons_zero,aU] at hj
  subst hj
  rw [aDw G.1 A.len]
  exact fresh _ _ A hN
theorem aHi (b : Bool) (h : Hp) : gQ .not (.b b) h = some (.b (!b),h):=rfl
section
variable {n : Nat}
end
end Go.Dd

namespace Go.Dd
open Go.Proofs
theorem dRj (n : Nat) (x y : DV) (h : Hp) : dB (n + 1) 17 [x,y] h = s17 (dB n) n x y h:=(cH 17 rfl n [x,y] h).trans (cTr (dB n) n [x,y] h)
theorem dTx (n : Nat) (x : DV) (h : Hp) : dB (n + 1) 18 [x] h = s18 (dB n) n x h:=(cH 18 rfl n [x] h).trans (cSn (dB n) n [x] h)
theorem dVx (n : Nat) (h : Hp) : dB (n + 1) 34 [] h = s34 (dB n) n h:=(cH 34 rfl n [] h).trans (cTn (dB n) n [] h)
theorem dTp (n : Nat) (x : DV) (h : Hp) : dB (n + 1) 50 [x] h = s50 (dB n) n x h:=(cH 50 rfl n [x] h).trans (cTd (dB n) n [x] h)
theorem dXn (n : Nat) (x : DV) (h : Hp) : dB (n + 1) 51 [x] h = s51 (dB n) n x h:=(cH 51 rfl n [x] h).trans (cRp (dB n) n [x] h)
theorem dSd (n : Nat) (x : DV) (h : Hp) : dB (n + 1) 52 [x] h = s52 (dB n) n x h:=(cH 52 rfl n [x] h).trans (cTh (dB n) n [x] h)
theorem dSx (n : Nat) (x : DV) (h : Hp) : dB (n + 1) 53 [x] h = s53 (dB n) n x h:=(cH 53 rfl n [x] h).trans (cUh (dB n) n [x] h)
theorem dUi (n : Nat) (x : DV) (h : Hp) : dB (n + 1) 54 [x] h = s54 (dB n) n x h:=(cH 54 rfl n [x] h).trans (cTe (dB n) n [x] h)
theorem dWj (n : Nat) (x y : DV) (h : Hp) : dB (n + 1) 75 [x,y] h = s75 (dB n) n x y h:=(cH 75 rfl n [x,y] h).trans (cTi (dB n) n [x,y] h)
theorem dSc (n : Nat) (x : DV) (h : Hp) : dB (n + 1) 73 [x] h = s73 (dB n) n x h:=(cH 73 rfl n [x] h).trans (cSe (dB n) n [x] h)
theorem dMp (n : Nat) (x y : DV) (h : Hp) : dB (n + 1) 123 [x,y] h = s123 (dB n) n x y h:=(cH 123 rfl n [x,y] h).trans (bOo (dB n) n [x,y] h)
theorem dQu (n : Nat) (x y : DV) (h : Hp) : dB (n + 1) 193 [x,y] h = s193 (dB n) n x y h:=(cH 193 rfl n [x,y] h).trans (bSc (dB n) n [x,y] h)
theorem vC {a b : Nat} (h : a ≤ b) : Nat.ble a b = true:=Nat.ble_eq_true_of_le h
theorem bOs {a b : Nat} (h : a < b) : Nat.blt a b = true:=Nat.ble_eq_true_of_le h
theorem aNd (n : Nat) {c : Nat} (hc : c < 256) {s : Bs} (hs : s.length ≤ 4000000000) (h : Hp) :
  dB (n + 1) 17 [.s s,.s [c]] h = some (.l h.next 0 (cA c s).length (cA c s).length,⟨h.next.succ,Tr.set (.row .ex ((cA c s).map DV.s)) h.next h.bl⟩):=by
 rw [dRj]
 unfold s17
 have e : mU [.s s,.s [c],(.i .i64 (Int.ofNat 0)),(.i .i64 (Int.negSucc 0))] h = some (.l h.next 0 (cA c s).length (cA c s).length,⟨h.next.succ,Tr.set (.row .ex ((cA c s).map DV.s)) h.next h.bl⟩):=by
  simp only [mU,bOs hc,vC hs,cond_true]
 rw [e,aI]
theorem aDl {c : Nat} {s : Bs} {h : Hp} : TxS (.l h.next 0 (cA c s).length (cA c s).length) (cA c s) ⟨h.next.succ,Tr.set (.row .ex ((cA c s).map DV.s)) h.next h.bl⟩ :=
 .inr ⟨h.next,0,_,.ex,_,rfl,dXv _ _ _,fun j _=>by simp,by show h.next.toNat < h.next.succ.toNat; rw [dXw]; omega,Nat.le_refl _⟩
theorem aSt {rec : RT} {n : Nat} {x : DV} {l : List Bs} {h : Hp} (T : TxS x l h) (hl : l.length < 1000000000) (t : Bs) : ∀ (k i m : Nat),i + k = l.length → k < m →
  ∃ r : Int,mO rec n m x (.s t) (.i .i64 (Int.ofNat l.length)) (.i .i64 (Int.ofNat i)) h = some (.i .i64 r,h) ∧ decide (r ≥ Int.ofNat 0) = decide (t ∈ l.drop i):=by
 intro k
 induction k with
 | zero =>
  intro i m hi hm
  obtain ⟨m,rfl⟩ : ∃ j,m = j + 1:=⟨m - 1,by omega⟩
  refine ⟨Int.negSucc 0, ?_, ?_⟩
  ·show oW rec n (mO rec n m) _ _ _ _ h = _
   unfold oW fD
   simp only [nM,show ¬ i < l.length by omega,decide_false,aI,bW]
  ·rw [List.drop_of_length_le (by omega)]; simp
 | succ k ih =>
  intro i m hi hm
  obtain ⟨m,rfl⟩ : ∃ j,m = j + 1:=⟨m - 1,by omega⟩
  have hia : i < l.length:=by omega
  obtain ⟨p,a1,a2⟩:=T.at (List.getElem?_eq_getElem hia)
  obtain ⟨r,w1,w2⟩:=ih (i + 1) m (by omega) (by omega)
  rw [List.drop_eq_getElem_cons hia]
  show ∃ r : Int,oW rec n (mO rec n m) _ _ _ _ h = _ ∧ _
  unfold oW
  simp only [nM,hia,decide_true,aI,bF,a1,a2,fI,jL,decide_eq_true_eq]
  by_cases q : t = l[i]
  ·rw [if_pos q]
   refine ⟨Int.ofNat i,rfl, ?_⟩
   rw [← q]
   have : Int.ofNat i ≥ Int.ofNat 0:=by show ((0 : Nat) : Int) ≤ (i : Int); omega
   simp [this]
  ·rw [if_neg q]
   simp only [bZ i 1 _ (show i + 1 < _ by omega),aI]
   refine ⟨r,w1, ?_⟩
   rw [w2]
   simp only [List.mem_cons,q,false_or]
theorem aNi {n : Nat} {x : DV} {l : List Bs} {h : Hp} (T : TxS x l h) (hl : l.length + 5 < n) (hl2 : l.length < 1000000000) : dB n 73 [x] h = some (.b (!decide ([] ∈ l)),h):=by
 obtain ⟨n,rfl⟩ : ∃ j,n = j + 1 + 1 + 1:=⟨n - 3,by omega⟩
 obtain ⟨r,w1,w2⟩:=aSt (rec:=dB n) (n:=n) T hl2 [] l.length 0 n (by omega) (by omega)
 rw [List.drop_zero] at w2
 rw [dSc]
 unfold s73
 rw [dMp]
 unfold s123
 rw [dQu]
 unfold s193 aHy aKx aPn
 simp only [T.len,aI]
 rw [w1]
 simp only [aI,lJ,w2,aHi]
def OutP (lo : Nat) (h : Hp) (r : aH) (o : Option Stp) : Prop:=∃ ca h',r = some (.t [.a ca,.b o.isSome],h') ∧ ca.length = 6 ∧ (∀ v ∈ ca,v.one = true) ∧ (∀ st,o = some st → StC ca st h') ∧ Lo lo h h' ∧ bRc lo ca
theorem OutP.up {lo lo' : Nat} {h g : Hp} {r : aH} {o : Option Stp} (O : OutP lo g r o) (L : Lo lo' h g) (hl : lo' ≤ lo) : OutP lo' h r o:=by
 obtain ⟨ca,h',e1,e2,e3,e4,e5,e6⟩:=O
 exact ⟨ca,h',e1,e2,e3,e4,L.trans (e5.mono hl),fun b o l c e=>Nat.le_trans hl (e6 b o l c e)⟩
theorem qH {lo : Nat} {o : Option Stp} {p : Pos} {g : Hp} {ca row : List DV} (h2 : g.bl.get p = some (.row .ex row)) (hl : row.length = 6) (ho : ∀ v ∈ row,v.one = true) (hlo : lo ≤ p.toNat)
  (C : ∀ st,o = some st → ∀ h',h'.next = g.next → (∀ b,b ≠ p → h'.bl.get b = g.bl.get b) → StC ca st h') (b : Bool) (hb : b = o.isSome) (hc : ca.length = 6) (h1 : ∀ v ∈ ca,v.one = true) (hN : bRc lo ca) :
  OutP lo g (bnd (aG 6 (.p p 0) (.a ca) g) fun _ g1=>bnd (aK 6 (.p p 0) g1) fun v _=>some (.t [v,.b b],g1)) o:=by
 subst hb
 refine ⟨ca,⟨g.next,Tr.set (.row .ex ca) p g.bl⟩, ?_,hc,h1,fun st e=>C st e _ rfl fun b hb=>dXu _ _ _ _ hb,Lo.set _ hlo,hN⟩
 have hg : (⟨g.next,Tr.set (.row .ex ca) p g.bl⟩ : Hp).bl.get p = some (.row .ex ca):=dXv _ _ _
 rw [st6 h2 hl ho hc h1,aI,ld6 hg hc h1,aI]
theorem cZg (h : Hp) : bK Z6 [] h = some (.a Z6,h):=rfl
theorem oH (a b c : DV) (h : Hp) : aC 0 (.t [a,b,c]) h = some (a,h):=rfl
theorem nN (a b c : DV) (h : Hp) : aC 1 (.t [a,b,c]) h = some (b,h):=rfl
theorem oI (a b c : DV) (h : Hp) : aC 2 (.t [a,b,c]) h = some (c,h):=rfl
theorem sZ {s a r : Bs} (hs : s.length ≤ 4000000000) (e : eQ 32 s = some (a,r)) (h : Hp) : tL [.s s,.s [32]] h = some (.t [.s a,.s r,.b true],h):=by
 simp only [tL,bOs (show 32 < 256 by omega),vC hs,cond_true,e]
theorem sJ {s : Bs} (hs : s.length ≤ 4000000000) (e : eQ 32 s = none) (h : Hp) : tL [.s s,.s [32]] h = some (.t [.s s,.s [],.b false],h):=by
 simp only [tL,bOs (show 32 < 256 by omega),vC hs,cond_true,e]
theorem nR {s : Bs} (hs : s.length ≤ 4000000000) {k : Nat} (e : eR s = some k) (h : Hp) : gK [.s s] h = some (.t [.i .i64 (Int.ofNat k),.b true],h):=by
 simp only [gK,vC hs,cond_true,e]
theorem nW {s : Bs} (hs : s.length ≤ 4000000000) (e : eR s = none) (h : Hp) : gK [.s s] h = some (.t [.i .i64 (aCc s),.b false],h):=by
 simp only [gK,vC hs,cond_true,e]
section
variable {n : Nat} {r : Bs} {h : Hp}
theorem cUl : ∀ {w : List Bs},¬ w.length < 2 → ∃ a b q,w = a :: b :: q
 | a :: b :: q,_=>⟨a,b,q,rfl⟩
 | [],c=>by simp at c
 | [a],c=>by simp at c
theorem cWh : ∀ {w : List Bs},w.length = 2 → ∃ a b,w = [a,b]
 | [a,b],_=>⟨a,b,rfl⟩
 | [],c=>by simp at c
 | [a],c=>by simp at c
 | a :: b :: d :: q,c=>by simp at c
abbrev hZ (h : Hp) : Hp:=⟨h.next.succ,Tr.set (.row .ex Z6) h.next h.bl⟩
theorem gN (h : Hp) : (hZ h).bl.get h.next = some (.row .ex Z6):=dXv _ _ _
theorem bFz (hr : r.length ≤ 4000000000) (h : Hp) : OutP h.next.toNat h (dB (n + 1) 51 [.s r] h) (match eQ 32 r with
  | some (a,b)=>if a = [] then none else some ⟨2,a,[],[],b,0⟩
  | none=>none):=by
 rw [dXn]
 unfold s51
 rw [aCd,aI]
 refine OutP.up (g:=hZ h) (lo:=h.next.toNat) ?_ (Lo.new _ h) (Nat.le_refl _)
 cases hc : eQ 32 r with
 | none =>
  simp only [sJ hr hc,aI,oH,nN,oI,cEo,gDt,Bool.false_eq_true,if_false,bM]
  exact qH (gN h) rfl cQ (Nat.le_refl _) (fun st e=>by cases e) false rfl rfl (dH _ _ _ _ _) (cX _ _ _ _ _ _)
 | some p =>
  obtain ⟨a,b⟩:=p
  simp only [sZ hr hc,aI,oH,nN,oI,cEo,nA,oP,bN]
  refine qH (gN h) rfl cQ (Nat.le_refl _) (fun st e h' _ _ => ?_) _ ?_ rfl (dH _ _ _ _ _) (cX _ _ _ _ _ _)
  ·split at e
   ·cases e
   ·cases e; exact hY _ _ _ _ _ _
  ·by_cases q : a = []
   ·rw [if_pos q]; simp [q]
   ·rw [if_neg q]; simp [q]
theorem dJe (hr : r.length ≤ 4000000000) (h : Hp) : OutP h.next.toNat h (dB (n + 1) 52 [.s r] h) (match eQ 32 r with
  | some (a,b)=>(match eR a with
   | some k=>some ⟨3,[],[],[],b,k⟩
   | none=>none)
  | none=>none):=by
 rw [dSd]
 unfold s52
 rw [aCd,aI]
 refine OutP.up (g:=hZ h) (lo:=h.next.toNat) ?_ (Lo.new _ h) (Nat.le_refl _)
 cases hc : eQ 32 r with
 | none =>
  cases hk : eR r with
  | none =>
   simp only [sJ hr hc,aI,oH,nN,oI,nW hr hk,nJ,nL,bYy,gDt,Bool.false_eq_true,if_false,bM]
   exact qH (gN h) rfl cQ (Nat.le_refl _) (fun st e=>by cases e) false rfl rfl (dH _ _ _ _ _) (cX _ _ _ _ _ _)
  | some k =>
   simp only [sJ hr hc,aI,oH,nN,oI,nR hr hk,nJ,nL,bYy,gDt,Bool.false_eq_true,if_false,bM]
   exact qH (gN h) rfl cQ (Nat.le_refl _) (fun st e=>by cases e) false rfl rfl (dH _ _ _ _ _) (cX _ _ _ _ _ _)
 | some p =>
  obtain ⟨a,b⟩:=p
  have ha : a.length ≤ 4000000000:=by
   have:=kA hc
   rw [this] at hr
   simp at hr
   omega
  show OutP _ _ _ (match eR a with
   | some k=>some ⟨3,[],[],[],b,k⟩
   | none=>none)
  cases hk : eR a with
  | none =>
   simp only [sZ hr hc,aI,oH,nN,oI,nW ha hk,nJ,nL,bYy,nA,bN]
   exact qH (gN h) rfl cQ (Nat.le_refl _) (fun st e=>by cases e) false rfl rfl (dH _ _ _ _ _) (cX _ _ _ _ _ _)
  | some k =>
   simp only [sZ hr hc,aI,oH,nN,oI,nR ha hk,nJ,nL,bYy,nA,bN]
   exact qH (gN h) rfl cQ (Nat.le_refl _) (fun st e h' _ _=>by cases e; exact hY _ _ _ _ _ _) true rfl rfl (dH _ _ _ _ _) (cX _ _ _ _ _ _)
theorem bJf (hr : r.length ≤ 4000000000) (h : Hp) : OutP h.next.toNat h (dB (n + 1) 54 [.s r] h) (match eR r with
  | some k=>some ⟨8,[],[],[],[],k⟩
  | none=>none):=by
 rw [dUi]
 unfold s54
 rw [aCd,aI]
 refine OutP.up (g:=hZ h) (lo:=h.next.toNat) ?_ (Lo.new _ h) (Nat.le_refl _)
 cases hk : eR r with
 | none =>
  simp only [nW hr hk,aI,nJ,nL,dGz]
  exact qH (gN h) rfl cQ (Nat.le_refl _) (fun st e=>by cases e) false rfl rfl (dH _ _ _ _ _) (cX _ _ _ _ _ _)
 | some k =>
  simp only [nR hr hk,aI,nJ,nL,dGz]
  exact qH (gN h) rfl cQ (Nat.le_refl _) (fun st e h' _ _=>by cases e; exact hY _ _ _ _ _ _) true rfl rfl (dH _ _ _ _ _) (cX _ _ _ _ _ _)
abbrev hS2 (r : Bs) (h : Hp) : Hp:=⟨h.next.succ.succ,Tr.set (.row .ex ((cA 32 r).map DV.s)) h.next.succ (hZ h).bl⟩
theorem wR (r : Bs) (h : Hp) : (hS2 r h).bl.get h.next = some (.row .ex Z6):=by
 show (Tr.set _ h.next.succ (hZ h).bl).get h.next = _
 rw [dXu _ _ _ _ (fun e=>by have:=congrArg Pos.toNat e; rw [dXw] at this; omega)]
 exact gN h
theorem aRu (r : Bs) (h : Hp) : Lo h.next.toNat h (hS2 r h):=(Lo.new (.row .ex Z6) h).trans ((Lo.new (.row .ex ((cA 32 r).map DV.s)) (hZ h)).mono (by show h.next.toNat ≤ h.next.succ.toNat; rw [dXw]; omega))
theorem bUi (hr : r.length < 100000000) (hn : r.length + 20 < n) (h : Hp) : OutP h.next.toNat h (dB n 50 [.s r] h) (if (cA 32 r).length < 2 ∨ [] ∈ cA 32 r then none else some ⟨1,(cA 32 r).getD 0 [],(cA 32 r).getD 1 [],(cA 32 r).drop 2,[],0⟩):=by
 obtain ⟨n,rfl⟩ : ∃ j,n = j + 1 + 1:=⟨n - 2,by omega⟩
 rw [dTp]
 unfold s50
 rw [aCd,aI,aNd n (by omega) (by omega),aI]
 refine OutP.up (g:=hS2 r h) (lo:=h.next.toNat) ?_ (aRu r h) (Nat.le_refl _)
 have T : TxS (.l h.next.succ 0 (cA 32 r).length (cA 32 r).length) (cA 32 r) (hS2 r h):=aDl (h:=hZ h)
 have hlen:=sV 32 r
 have W:=aNi (n:=n + 1) T (by omega) (by omega)
 have nx:=dXw h.next
 show OutP h.next.toNat (hS2 r h) (bnd (cB (.l h.next.succ 0 (cA 32 r).length (cA 32 r).length) (hS2 r h)) _) _
 generalize hw : cA 32 r = w at T W hlen
 simp only [T.len,aI,nM]
 have bad : OutP h.next.toNat (hS2 r h) (bnd (bK Z6 [] (hS2 r h)) fun v9 h9=>bnd (aG 6 (.p h.next 0) v9 h9) fun _ h10=>bnd (aK 6 (.p h.next 0) h10) fun v11 _=>some (.t [v11,(.b false)],h10)) none:=by
  rw [cZg,aI]
  exact qH (wR r h) rfl cQ (Nat.le_refl _) (fun st e=>by cases e) false rfl rfl cQ (cX _ _ _ _ _ _)
 by_cases c : w.length < 2
 ·rw [if_pos (.inl c)]
  simp only [c,decide_true,dN,sK,aI,bN,bF]
  exact bad
 ·simp only [c,decide_false,eU,aI,W,aHi,Bool.not_not,bM,jL,decide_eq_true_eq,false_or]
  by_cases c2 : [] ∈ w
  ·rw [if_pos c2,if_pos c2]
   exact bad
  ·rw [if_neg c2,if_neg c2]
   obtain ⟨w0,w1,q,rfl⟩:=cUl c
   obtain ⟨q0,i0,d0⟩:=T.at (i:=0) rfl
   obtain ⟨q1,i1,d1⟩:=T.at (i:=1) rfl
   obtain ⟨v,b1,b2⟩:=T.drop (i:=2) (by simp)
   have hrow:=fun b' o' l' c' e=>aCs b1 (b':=b') (o':=o') (l':=l') (c':=c') e
   simp only [i0,d0,i1,d1,b1,aI,dJf b2.cells]
   refine qH (wR r h) rfl cQ (Nat.le_refl _) (fun st e h' hn' hg => ?_) true rfl rfl (uU b2.one _ _ _ _ _) (fun b o l c e => ?_)
   ·cases e
    exact ⟨v,rfl,b2.off hn' (p:=h.next) (fun b o l c e=>by
     obtain ⟨o2,l2,c2',e2⟩:=hrow b o l c e
     cases e2
     intro q
     have:=congrArg Pos.toNat q
     omega) hg⟩
   ·obtain ⟨o2,l2,c2',e2⟩:=hrow b o l c (Option.some.inj e)
    cases e2
    omega
theorem aXt (hr : r.length < 100000000) (hn : r.length + 20 < n) (h : Hp) {p : Pos} {k : Kind} {x : Int} (hp : h.bl.get p = some (.row k [.i .i64 x])) (hlt : p.toNat < h.next.toNat) : OutP h.next.toNat h (dB n 75 [.s r,.p p 0] h) (if (cA 32 r).length ≠ 2 ∨ [] ∈ cA 32 r then none else some ⟨4,(cA 32 r).getD 0 [],[],[],(cA 32 r).getD 1 [],x⟩):=by
 obtain ⟨n,rfl⟩ : ∃ j,n = j + 1 + 1:=⟨n - 2,by omega⟩
 rw [dWj]
 unfold s75
 rw [aCd,aI,aNd n (by omega) (by omega),aI]
 refine OutP.up (g:=hS2 r h) (lo:=h.next.toNat) ?_ (aRu r h) (Nat.le_refl _)
 have T : TxS (.l h.next.succ 0 (cA 32 r).length (cA 32 r).length) (cA 32 r) (hS2 r h):=aDl (h:=hZ h)
 have hp' : (hS2 r h).bl.get p = some (.row k [.i .i64 x]):=by rw [(aRu r h).get p hlt]; exact hp
 have hlen:=sV 32 r
 have W:=aNi (n:=n + 1) T (by omega) (by omega)
 show OutP h.next.toNat (hS2 r h) (bnd (cB (.l h.next.succ 0 (cA 32 r).length (cA 32 r).length) (hS2 r h)) _) _
 generalize hw : cA 32 r = w at T W hlen
 simp only [T.len,aI,cHh]
 have bad : OutP h.next.toNat (hS2 r h) (bnd (bK Z6 [] (hS2 r h)) fun v9 h9=>bnd (aG 6 (.p h.next 0) v9 h9) fun _ h10=>bnd (aK 6 (.p h.next 0) h10) fun v11 _=>some (.t [v11,(.b false)],h10)) none:=by
  rw [cZg,aI]
  exact qH (wR r h) rfl cQ (Nat.le_refl _) (fun st e=>by cases e) false rfl rfl cQ (cX _ _ _ _ _ _)
 by_cases c : w.length = 2
 ·have ec : decide (w.length = 2) = true:=decide_eq_true c
  simp only [ec,Bool.not_true,eU,aI,W,aHi,Bool.not_not,bM,jL,decide_eq_true_eq]
  by_cases c2 : [] ∈ w
  ·rw [if_pos c2,if_pos (.inr c2)]
   exact bad
  ·rw [if_neg c2,if_neg (fun q=>q.elim (fun q=>q c) c2)]
   obtain ⟨w0,w1,rfl⟩:=cWh c
   obtain ⟨q0,i0,d0⟩:=T.at (i:=0) rfl
   obtain ⟨q1,i1,d1⟩:=T.at (i:=1) rfl
   have e4 : ∀ g,bK Z6 [(0,1,(.i .i64 (Int.ofNat 4))),(1,1,.s w0),(4,1,.s w1),(5,1,(.i .i64 x))] g = some (.a [.i .i64 (Int.ofNat 4),.s w0,.s [],.l0,.s w1,.i .i64 x],g):=fun g=>rfl
   simp only [i0,d0,i1,d1,aI,sO hp' (show [DV.i .i64 x][0]? = some (.i .i64 x) from rfl) rfl,e4]
   exact qH (wR r h) rfl cQ (Nat.le_refl _) (fun st e h' _ _=>by cases e; exact hY _ _ _ _ _ _) true rfl rfl (dH _ _ _ _ _) (cX _ _ _ _ _ _)
 ·rw [if_pos (.inl c)]
  simp only [c,decide_false,Bool.not_false,dN,sK,aI,bN,bF]
  exact bad
def rdM (b1 b2 : Pos) : List (DV × DV):=[(.s dI,.f 50 [] []),(.s eF,.f 51 [] []),(.s wDo,.f 52 [] []),(.s iQ,.f 75 [] [.p b1 0]),(.s kH,.f 75 [] [.p b2 0]),(.s jT,.f 54 [] [])]
theorem pA {b : Pos} {es : List (DV × DV)} {g : Hp} (hg : g.bl.get b = some (.mp es)) (k : Bs) (v : DV) (hf : fQ .string (.s k) es = some none) (hp : rT .string (.s k) v es = es ++ [(.s k,v)]) :
  dS .string (.m b) (.s k) v g = some (aS,⟨g.next,Tr.set (.mp (es ++ [(.s k,v)])) b g.bl⟩):=by
 simp only [dS,hg,hf,hp]
theorem aUw (h : Hp) : ∃ h',dB (n + 2) 34 [] h = some (.m h.next,h') ∧ h'.bl.get h.next = some (.mp (rdM h.next.succ h.next.succ.succ)) ∧ h'.bl.get h.next.succ = some (.row .ex [.i .i64 (Int.ofNat 1)]) ∧ h'.bl.get h.next.succ.succ = some (.row .ex [.i .i64 (Int.ofNat 0)]) ∧ h'.next = h.next.succ.succ.succ ∧ Lo h.next.toNat h h':=by
 have n1:=dXw h.next
 have n2:=dXw h.next.succ
 have n3:=dXw h.next.succ.succ
 have ne1 : h.next ≠ h.next.succ:=fun e=>by have:=congrArg Pos.toNat e; omega
 have ne2 : h.next ≠ h.next.succ.succ:=fun e=>by have:=congrArg Pos.toNat e; omega
 have ne3 : h.next.succ ≠ h.next.succ.succ:=fun e=>by have:=congrArg Pos.toNat e; omega
 rw [show n + 2 = n + 1 + 1 from rfl,dVx]
 unfold s34
 have m0 : dW h = some (.m h.next,⟨h.next.succ,Tr.set (.mp []) h.next h.bl⟩):=rfl
 rw [m0,aI]
 have box : ∀ (x : DV) (g : Hp),dD x = some [x] → dB (n + 1) 53 [x] g = some (.f 75 [] [.p g.next 0],⟨g.next.succ,Tr.set (.row .ex [x]) g.next g.bl⟩):=by
  intro x g hx
  rw [dSx]
  unfold s53
  have : dA x g = some (.p g.next 0,⟨g.next.succ,Tr.set (.row .ex [x]) g.next g.bl⟩):=by simp only [dA,hx,bY]
  rw [this,aI]
 have gt : ∀ (o : Ob) (t : Tr Ob),(Tr.set o h.next t).get h.next = some o:=fun o t=>dXv _ _ _
 rw [pA (es:=[]) (gt _ _) _ _ rfl rfl,aI]
 rw [pA (gt _ _) _ _ rfl rfl,aI]
 rw [pA (gt _ _) _ _ rfl rfl,aI]
 rw [box _ _ rfl,aI]
 rw [pA (b:=h.next) (by show (Tr.set _ h.next.succ _).get h.next = _; rw [dXu _ _ _ _ ne1]; exact gt _ _) _ _ rfl rfl,aI]
 rw [box _ _ rfl,aI]
 rw [pA (b:=h.next) (by show (Tr.set _ h.next.succ.succ _).get h.next = _; rw [dXu _ _ _ _ ne2]; exact gt _ _) _ _ rfl rfl,aI]
 rw [pA (gt _ _) _ _ rfl rfl,aI]
 refine ⟨_,rfl,gt _ _, ?_, ?_,rfl,⟨?_,fun p hp => ?_⟩⟩
 ·show (Tr.set _ h.next (Tr.set _ h.next (Tr.set _ h.next.succ.succ (Tr.set _ h.next (Tr.set _ h.next.succ _))))).get h.next.succ = _
  rw [dXu _ _ _ _ (Ne.symm ne1),dXu _ _ _ _ (Ne.symm ne1),dXu _ _ _ _ ne3,dXu _ _ _ _ (Ne.symm ne1),dXv]
 ·show (Tr.set _ h.next (Tr.set _ h.next (Tr.set _ h.next.succ.succ _))).get h.next.succ.succ = _
  rw [dXu _ _ _ _ (Ne.symm ne2),dXu _ _ _ _ (Ne.symm ne2),dXv]
 ·show h.next.toNat ≤ h.next.succ.succ.succ.toNat
  omega
 ·have a1 : p ≠ h.next:=fun e=>by subst e; omega
  have a2 : p ≠ h.next.succ:=fun e=>by subst e; omega
  have a3 : p ≠ h.next.succ.succ:=fun e=>by subst e; omega
  show (Tr.set _ h.next (Tr.set _ h.next (Tr.set _ h.next.succ.succ (Tr.set _ h.next (Tr.set _ h.next.succ (Tr.set _ h.next (Tr.set _ h.next (Tr.set _ h.next (Tr.set _ h.next _))))))))).get p = _
  rw [dXu _ _ _ _ a1,dXu _ _ _ _ a1,dXu _ _ _ _ a3,dXu _ _ _ _ a1,dXu _ _ _ _ a2,dXu _ _ _ _ a1,dXu _ _ _ _ a1,dXu _ _ _ _ a1,dXu _ _ _ _ a1]
def rdF (b1 b2 : Pos) (w : Bs) : Option DV:=if w = dI then some (.f 50 [] []) else if w = eF then some (.f 51 [] []) else if w = wDo then some (.f 52 [] []) else if w = iQ then some (.f 75 [] [.p b1 0]) else if w = kH then some (.f 75 [] [.p b2 0]) else if w = jT then some (.f 54 [] []) else none
theorem cMr (b1 b2 : Pos) (w : Bs) : fQ .string (.s w) (rdM b1 b2) = some (rdF b1 b2 w):=by
 have key : ∀ a : Bs,uR .string (.s w) (.s a) = some (decide (w = a)):=fun a=>by
  show some (uL w a) = _
  rw [aEf]
 unfold rdM rdF
 simp only [fQ,key]
 by_cases c1 : w = dI
 ·simp only [decide_eq_true c1,if_pos c1]
 by_cases c2 : w = eF
 ·simp only [decide_eq_false c1,if_neg c1,decide_eq_true c2,if_pos c2]
 by_cases c3 : w = wDo
 ·simp only [decide_eq_false c1,if_neg c1,decide_eq_false c2,if_neg c2,decide_eq_true c3,if_pos c3]
 by_cases c4 : w = iQ
 ·simp only [decide_eq_false c1,if_neg c1,decide_eq_false c2,if_neg c2,decide_eq_false c3,if_neg c3,decide_eq_true c4,if_pos c4]
 by_cases c5 : w = kH
 ·simp only [decide_eq_false c1,if_neg c1,decide_eq_false c2,if_neg c2,decide_eq_false c3,if_neg c3,decide_eq_false c4,if_neg c4,decide_eq_true c5,if_pos c5]
 by_cases c6 : w = jT
 ·simp only [decide_eq_false c1,if_neg c1,decide_eq_false c2,if_neg c2,decide_eq_false c3,if_neg c3,decide_eq_false c4,if_neg c4,decide_eq_false c5,if_neg c5,decide_eq_true c6,if_pos c6]
 simp only [decide_eq_false c1,if_neg c1,decide_eq_false c2,if_neg c2,decide_eq_false c3,if_neg c3,decide_eq_false c4,if_neg c4,decide_eq_false c5,if_neg c5,decide_eq_false c6,if_neg c6]
end
end Go.Dd

namespace Go.Dd
open Go.Proofs
theorem dKx : CF.I 50 = none:=by kernel_rfl
theorem dNt : CF.I 51 = none:=by kernel_rfl
theorem dNb : CF.I 52 = none:=by kernel_rfl
theorem dQh : CF.I 54 = none:=by kernel_rfl
theorem cSf : CF.I 75 = none:=by kernel_rfl
theorem aCv {g : FuncId} (hg : CF.I g = none) (rec : RT) (first cap args : List DV) (h : Hp) : jY CF rec (.f g first cap) args h = rec g (first ++ args ++ cap) h:=by
 unfold jY cD
 simp only [hg]
section
variable {n : Nat} {s : Bs} {h : Hp}
theorem bHh {lo : Nat} {g : Hp} {p : Pos} {row : List DV} {r : aH} {o : Option Stp} (O : OutP g.next.toNat g r o) (hp : g.bl.get p = some (.row .ex row)) (hl : row.length = 6) (ho : ∀ v ∈ row,v.one = true) (hlt : p.toNat < g.next.toNat) (hlo : lo ≤ p.toNat) :
  OutP lo g (bnd r fun v29 h29=>bnd (aC 0 v29 h29) fun v30 h30=>bnd (aC 1 v29 h30) fun v31 h31=>bnd (aG 6 (.p p 0) v30 h31) fun _ h32=>bnd (aK 6 (.p p 0) h32) fun v33 _=>some (.t [v33,v31],h32)) o:=by
 obtain ⟨ca,g',e1,e2,e3,e4,e5,e6⟩:=O
 have hp' : g'.bl.get p = some (.row .ex row):=by rw [e5.get p hlt]; exact hp
 rw [e1,aI,nJ,aI,nL,aI]
 have fn:=qH (lo:=lo) (o:=o) (p:=p) (g:=g') (ca:=ca) hp' hl ho hlo (fun st e h' hn hg=>by
  obtain ⟨v,rfl,T⟩:=e4 st e
  refine ⟨v,rfl,T.off hn (p:=p) (fun b o l c ev q => ?_) hg⟩
  have:=e6 b o l c (by rw [ev]; rfl)
  rw [q] at this
  omega) _ rfl e2 e3 (fun b o l c e=>Nat.le_trans (by omega) (e6 b o l c e))
 exact OutP.up fn (e5.mono (by omega)) (Nat.le_refl _)
theorem cFq (hs : s.length < 100000000) (hn : s.length + 60 < n) (h : Hp) : OutP h.next.toNat h (dB n 18 [.s s] h) (kW s):=by
 obtain ⟨n,rfl⟩ : ∃ j,n = j + 1 + 1 + 1:=⟨n - 3,by omega⟩
 rw [dTx]
 unfold s18
 rw [aCd,aI]
 refine OutP.up (g:=hZ h) (lo:=h.next.toNat) ?_ (Lo.new _ h) (Nat.le_refl _)
 have word : ∀ k : Nat,OutP h.next.toNat (hZ h) (bnd (bK Z6 [(0,1,(.i .i64 (Int.ofNat k)))] (hZ h)) fun v3 h3=>bnd (aG 6 (.p h.next 0) v3 h3) fun _ h4=>bnd (aK 6 (.p h.next 0) h4) fun v5 _=>some (.t [v5,(.b true)],h4)) (some (st0 k)):=by
  intro k
  rw [show bK Z6 [(0,1,(.i .i64 (Int.ofNat k)))] (hZ h) = some (.a [.i .i64 (Int.ofNat k),.s [],.s [],.l0,.s [],.i .i64 (Int.ofNat 0)],hZ h) from rfl,aI]
  exact qH (gN h) rfl cQ (Nat.le_refl _) (fun st e h' _ _=>by cases e; exact hY _ _ _ _ _ _) true rfl rfl (dH _ _ _ _ _) (cX _ _ _ _ _ _)
 unfold kW
 simp only [fI,aI,jL,decide_eq_true_eq]
 by_cases c1 : s = jN
 ·rw [if_pos c1,if_pos (show s = [99,111,108,108,101,99,116] from c1)]
  exact word 5
 rw [if_neg c1,if_neg (show ¬ s = [99,111,108,108,101,99,116] from c1)]
 by_cases c2 : s = oL
 ·rw [if_pos c2,if_pos (show s = [102,108,117,115,104] from c2)]
  exact word 6
 rw [if_neg c2,if_neg (show ¬ s = [102,108,117,115,104] from c2)]
 by_cases c3 : s = oF
 ·rw [if_pos c3,if_pos (show s = [105,109,97,103,101] from c3)]
  exact word 7
 rw [if_neg c3,if_neg (show ¬ s = [105,109,97,103,101] from c3)]
 clear word
 obtain ⟨g,r1,r2,r3,r4,r5,r6⟩:=aUw (n:=n) (hZ h)
 have nz : (hZ h).next = h.next.succ:=rfl
 rw [nz] at r2 r3 r4 r5 r6
 have k1:=dXw h.next
 have k2:=dXw h.next.succ
 have k3:=dXw h.next.succ.succ
 have k4:=dXw h.next.succ.succ.succ
 have gp : g.bl.get h.next = some (.row .ex Z6):=by rw [r6.get h.next (by omega)]; exact gN h
 have Lg : Lo h.next.toNat (hZ h) g:=r6.mono (by omega)
 have hpl : h.next.toNat < g.next.toNat:=by rw [r5]; omega
 have bad : OutP h.next.toNat g (bnd (bK Z6 [] g) fun v26 h26=>bnd (aG 6 (.p h.next 0) v26 h26) fun _ h27=>bnd (aK 6 (.p h.next 0) h27) fun v28 _=>some (.t [v28,(.b false)],h27)) none:=by
  rw [cZg,aI]
  exact qH gp rfl cQ (Nat.le_refl _) (fun st e=>by cases e) false rfl rfl cQ (cX _ _ _ _ _ _)
 have look : ∀ w : Bs,eH .string .f0 true (.m h.next.succ) (.s w) g = some (.t [(rdF h.next.succ.succ h.next.succ.succ.succ w).getD .f0,.b (rdF h.next.succ.succ h.next.succ.succ.succ w).isSome],g):=by
  intro w
  have en : hU (.m h.next.succ) g = some (rdM h.next.succ.succ h.next.succ.succ.succ):=by simp only [hU,r2]
  simp only [eH,en,cMr]
  cases rdF h.next.succ.succ h.next.succ.succ.succ w <;> rfl
 cases hc : eQ 32 s with
 | none =>
  simp only [sJ (show s.length ≤ 4000000000 by omega) hc,aI,oH,nN,oI]
  rw [r1,aI,look,aI]
  simp only [nJ,nL,aI,aHi,Bool.not_false,dN,sK,bN,bF,if_true]
  exact OutP.up bad Lg (Nat.le_refl _)
 | some p =>
  obtain ⟨w,r⟩:=p
  have hcut:=kA hc
  have hrl : r.length < s.length:=by rw [hcut]; simp; omega
  simp only [sZ (show s.length ≤ 4000000000 by omega) hc,aI,oH,nN,oI]
  rw [r1,aI,look,aI]
  simp only [nJ,nL,aI,aHi,Bool.not_true,eU,bM]
  refine OutP.up (lo:=h.next.toNat) ?_ Lg (Nat.le_refl _)
  unfold rdF aLi
  by_cases w1 : w = dI
  ·simp only [if_pos w1,Option.isSome_some,Option.getD_some,Bool.not_true,Bool.false_eq_true,if_false]
   rw [aCv dKx]
   exact bHh (bUi (by omega) (by omega) g) gp rfl cQ hpl (Nat.le_refl _)
  simp only [if_neg w1]
  by_cases w2 : w = eF
  ·simp only [if_pos w2,Option.isSome_some,Option.getD_some,Bool.not_true,Bool.false_eq_true,if_false]
   rw [aCv dNt]
   exact bHh (bFz (n:=n + 1) (by omega) g) gp rfl cQ hpl (Nat.le_refl _)
  simp only [if_neg w2]
  by_cases w3 : w = wDo
  ·simp only [if_pos w3,Option.isSome_some,Option.getD_some,Bool.not_true,Bool.false_eq_true,if_false]
   rw [aCv dNb]
   exact bHh (dJe (n:=n + 1) (by omega) g) gp rfl cQ hpl (Nat.le_refl _)
  simp only [if_neg w3]
  by_cases w4 : w = iQ
  ·simp only [if_pos w4,Option.isSome_some,Option.getD_some,Bool.not_true,Bool.false_eq_true,if_false]
   rw [aCv cSf]
   exact bHh (aXt (by omega) (by omega) g r3 (by rw [r5]; omega)) gp rfl cQ hpl (Nat.le_refl _)
  simp only [if_neg w4]
  by_cases w5 : w = kH
  ·simp only [if_pos w5,Option.isSome_some,Option.getD_some,Bool.not_true,Bool.false_eq_true,if_false]
   rw [aCv cSf]
   exact bHh (aXt (by omega) (by omega) g r4 (by rw [r5]; omega)) gp rfl cQ hpl (Nat.le_refl _)
  simp only [if_neg w5]
  by_cases w6 : w = jT
  ·simp only [if_pos w6,Option.isSome_some,Option.getD_some,Bool.not_true,Bool.false_eq_true,if_false]
   rw [aCv dQh]
   exact bHh (bJf (n:=n + 1) (by omega) g) gp rfl cQ hpl (Nat.le_refl _)
  simp only [if_neg w6,Option.isSome_none,Bool.not_false,if_true]
  exact bad
end
end Go.Dd

namespace Go.Dd
open Go.Proofs
theorem dEc {s : Bs} {b : Nat} (hb : b ≤ s.length) (h : Hp) : cK (.s s) none (some (.i .i64 (Int.ofNat b))) h = some (.s (s.take b),h):=by
 have h1 : hiD (some (.i .i64 (Int.ofNat b))) s.length s.length = some b:=by
  simp only [hiD,fL]
  rw [if_pos (by show (0 : Int) ≤ (b : Int) ∧ (b : Int) ≤ (s.length : Int); omega)]
  rfl
 have h2 : loD none b = some 0:=rfl
 simp only [cK,h1,h2,List.drop_zero]
theorem bYn (k : Int) (h : Hp) : aD .eql (.i .i64 k) (.i .i64 k) h = some (.b true,h):=by rw [fB]; simp
end Go.Dd

namespace Go.Dd
open Go.Proofs
theorem cAk {b : Pos} {k : Kind} {l : Bs} {h : Hp} {N : Nat} (hN : N = l.length) (hl : ∀ c ∈ l,c < 256) (hg : h.bl.get b = some (.row k (l.map bD))) : eZ (.l b 0 N N) h = some (.s l,h):=by
 have hc : cellsAt b 0 N h = some (l.map bD):=by
  unfold cellsAt rowOf
  simp only [hg,List.drop_zero]
  have:=mG (l.map bD) (aVu _)
  rw [List.length_map,← hN] at this
  exact this
 simp only [eZ,hc,tR hl]
section
variable {h : Hp}
end
end Go.Dd

end
