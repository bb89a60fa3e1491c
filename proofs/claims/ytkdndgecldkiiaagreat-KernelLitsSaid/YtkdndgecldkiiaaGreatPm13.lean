/- A part of the proof: XLK KLA KLB KLC KLD KLE KLF KLG KLH KLI KLJ KLK KLL KLM KLN KLO KLP W7 W8 TX1 TX2 GI TX3 TX4 GN WR WM WA WC WX KLQ KLR KLS KLT KLU KLV KLW KLX KLY KLZ: each text has a comment of its own. -/
import Derived.Test.YtkdndgecldkiiaaGreatPm12
import Derived.WalkKit
import Derived.ProofKit
import Derived.OpenShut
import Derived.Carry
import Derived.ChangeMaps5
set_option linter.unusedVariables false
set_option linter.unusedSimpArgs false
set_option linter.constructorNameAsVariable false
set_option maxRecDepth 100000
namespace Go.Dd
open Go.Proofs
noncomputable def s5 (rec : FuncId → List DV → Hp → aH) (n : Nat) (x0 : DV) (h0 : Hp) : aH :=
 bnd (bU x0 h0) fun v1 h1 =>
 bnd (aK 4 v1 h1) fun v2 h2 =>
 bnd (rec 24 [v2, (.i .i64 (Int.ofNat 60))] h2) fun v3 h3 =>
 bnd (aD .lss v3 (.i .i64 (Int.ofNat 0)) h3) fun v4 h4 =>
 aX v4 (
  bnd (rec 25 [] h4) fun v5 h5 =>
  some (v5, h5)) (
  bnd (rec 7 [(.i .i64 (Int.ofNat 60000))] h4) fun v6 h6 =>
  bnd (aC 0 v6 h6) fun v7 h7 =>
  bnd (aC 1 v6 h7) fun v8 h8 =>
  bnd (pEq (.pointer 77) true v7 .p0 h8) fun v9 h9 =>
  bnd (gD v9 false (some (v8, h9)) h9) fun v10 h10 =>
  bnd (gD v9 false (aD .neq v10 (.i .i64 (Int.ofNat 0)) h10) h10) fun v11 h11 =>
  bnd (aQ v9 (.b true) v11 h11) fun v12 h12 =>
  aX v12 (
   some ((.b false), h12)) (
   bnd (aK 4 v1 h12) fun v13 h13 =>
   bnd (rec 26 [v7, v13] h13) fun v14 h14 =>
   bnd (aC 0 v14 h14) fun v15 h15 =>
   bnd (aC 1 v14 h15) fun v16 h16 =>
   bnd (aK 4 v1 h16) fun v17 h17 =>
   bnd (aN [(.i .i64 (Int.ofNat 0)), (.s []), (.i .i64 (Int.ofNat 0)), .l0] 1 [(0, 4, v17)] h17) fun v18 h18 =>
   bnd (bE [(.i .i64 (Int.ofNat 0)), (.i .i64 (Int.ofNat 0)), (.i .i64 (Int.ofNat 0))] [(0, 1, (.i .i64 (Int.ofNat 2)))] h18) fun v19 h19 =>
   bnd (bE [(.i .i64 (Int.ofNat 0)), (.i .i64 (Int.ofNat 0)), (.i .i64 (Int.ofNat 0))] [(0, 1, (.i .i64 (Int.ofNat 20)))] h19) fun v20 h20 =>
   bnd (aN [(.i .i64 (Int.ofNat 0)), (.i .i64 (Int.ofNat 0)), (.i .i64 (Int.ofNat 0)), (.i .i64 (Int.ofNat 0)), (.i .i64 (Int.ofNat 0)), (.i .i64 (Int.ofNat 0))] 2 [(0, 3, v19), (3, 3, v20)] h20) fun v21 h21 =>
   bnd (bE [(.s []), (.i .i64 (Int.ofNat 0)), (.i .i64 (Int.ofNat 0)), (.i .i64 (Int.ofNat 0)), .l0, .l0] [(0, 1, (.s [120])), (4, 1, v18), (5, 1, v21)] h21) fun v22 h22 =>
   bnd (bY [(.s []), (.i .i64 (Int.ofNat 0)), (.i .i64 (Int.ofNat 0)), (.i .i64 (Int.ofNat 0)), .l0, .l0] h22) fun v23 h23 =>
   bnd (aI 6 v23 v22 h23) fun _ h24 =>
   bnd (aK 6 v23 h24) fun v25 h25 =>
   bnd (rec 27 [v25, (.i .i64 (Int.ofNat 0))] h25) fun v26 h26 =>
   bnd (aC 0 v26 h26) fun v27 h27 =>
   bnd (aC 1 v26 h27) fun v28 h28 =>
   bnd (aD .eql v16 (.i .i64 (Int.ofNat 0)) h28) fun v29 h29 =>
   bnd (aD .eql v28 (.i .i64 (Int.ofNat 0)) h29) fun v30 h30 =>
   bnd (pEq .bool false v29 v30 h30) fun v31 h31 =>
   bnd (gD v31 false (some (v16, h31)) h31) fun v32 h32 =>
   bnd (gD v31 false (aD .neq v32 (.i .i64 (Int.ofNat 0)) h32) h32) fun v33 h33 =>
   bnd (gD v31 false (some (v33, h33)) h33) fun v34 h34 =>
   bnd (gD v34 true (some (v16, h34)) h34) fun v35 h35 =>
   bnd (gD v34 true (aD .neq v35 (.i .i64 (Int.ofNat 1)) h35) h35) fun v36 h36 =>
   bnd (gD v31 false (aQ v34 v36 (.b false) h36) h36) fun v37 h37 =>
   bnd (aQ v31 (.b true) v37 h37) fun v38 h38 =>
   aX v38 (
    some ((.b false), h38)) (
    bnd (aD .neq v16 (.i .i64 (Int.ofNat 0)) h38) fun v39 h39 =>
    aX v39 (
     bnd (aD .eql v15 (.i .i64 (Int.ofNat 0)) h39) fun v40 h40 =>
     bnd (gD v40 true (rec 25 [] h40) h40) fun v41 h41 =>
     bnd (aQ v40 v41 (.b false) h41) fun v42 h42 =>
     some (v42, h42)) (
     bnd (rec 29 [v7, v15] h39) fun v43 h43 =>
     bnd (aK 4 v1 h43) fun v44 h44 =>
     cnd (bM (aK 4 v1 h39) v44 && true) (
     bnd (rec 28 [v43, v44] h44) fun v45 h45 =>
     bnd (gD v45 true (rec 25 [] h45) h45) fun v46 h46 =>
     bnd (aQ v45 v46 (.b false) h46) fun v47 h47 =>
     some (v47, h47))))))
noncomputable def D5 (rec : FuncId → List DV → Hp → aH) (n : Nat) (c : Code) (X : Nat → K) (k : K) : K := aP CF rec 71 n c X (aV CF Tryz.f5) k
theorem s5m (rec : FuncId → List DV → Hp → aH) (n : Nat) : D5 rec n (cf Tryz.f5) x0 (aV CF Tryz.f5) = (fun (env : bA) (h : Hp) => s5 rec n (env 0) h) :=
 (by kernel_rfl)
theorem dEd (rec : FuncId → List DV → Hp → aH) (n : Nat) (args : List DV) (h : Hp) : aF CF rec n 5 args h = s5 rec n (args.getD 0 aU) h :=
 (by kernel_rfl : aF CF rec n 5 args h = D5 rec n (cf Tryz.f5) x0 (aV CF Tryz.f5) (aJ args) h).trans ((congrFun (congrFun (s5m rec n) (aJ args)) h).trans (by kernel_rfl))
end Go.Dd

namespace Go.Dd
open Go.Proofs Go.RowKit
noncomputable def skV (f : Pos → Option Ob) (vs : List (Pos × Option Ob)) : Tr Ob := List.rec (motive := fun _ => Tr Ob) (aNg 10 f) (fun x _ ih => Tr.setO x.2 x.1 ih) vs
theorem aRs (f : Pos → Option Ob) : ∀ ps : List Pos, skL f ps = skV f (ps.map fun p => (p, f p))
 | [] => rfl
 | p :: ps => by
  show Tr.setO (f p) p (skL f ps) = Tr.setO (f p) p (skV f (ps.map fun p => (p, f p)))
  rw [aRs f ps]
def gE (a b : Pos) : List DV := [.s [120], iD 0, iD 0, iD 0, .l a 0 1 1, .l b 0 2 2]
def kN : List DV := [iD 2, iD 0, iD 0, iD 20, iD 0, iD 0]
section
variable (f : Pos → Option Ob) (k n : Int) (tx : List Nat) (s : DV) (o0 o3 : Option Ob)
noncomputable def KA : Tr Ob := skV f [(aL 26855, o0), (aL 26856, some (.row .ro [iD k, .s tx, iD n, s])), (aL 26857, some (.row .ro kN)), (aL 26858, o3)]
noncomputable def HA : Hp := ⟨aL 26860, Tr.set (.row .ex (gE (aL 26856) (aL 26857))) (aL 26859) (KA f k n tx s o0 o3)⟩
noncomputable def HB : Hp := ⟨aL 26861, Tr.set (.row .ex (gE (aL 26856) (aL 26857))) (aL 26860) (HA f k n tx s o0 o3).bl⟩
theorem bBh (F : List DV → Hp → aH) : s116 (ovr (cA 900) 142 F) 900 (.a (gE (aL 26856) (aL 26857))) (iD 0) (HA f k n tx s o0 o3) =
  bnd (F [.l (aL 26856) 0 1 1, .f 143 [] []] (HB f k n tx s o0 o3)) fun v h => rF (ovr (cA 900) 142 F) 900 (iD 0) (.p (aL 26860) 0) (.b true) v h := by kernel_rfl
noncomputable def bEl (r : aH) (e : Nat) : Bool := match r with
 | some (.t [_, .i .i64 (.ofNat x)], _) => Nat.beq x e
 | _ => false
theorem bSs (F : List DV → Hp → aH) : bEl (rF (ovr (cA 900) 142 F) 900 (iD 0) (.p (aL 26860) 0) (.b true) (.b false) (HB f k n tx s o0 o3)) 0 = true := by kernel_rfl
theorem cBw (F : List DV → Hp → aH) : bEl (rF (ovr (cA 900) 142 F) 900 (iD 0) (.p (aL 26860) 0) (.b true) (.b true) (HB f k n tx s o0 o3)) 19 = true := by kernel_rfl
end
end Go.Dd

namespace Go.Dd
open Go.Proofs Go.RowKit
section
variable (f : Pos → Option Ob) (k n : Int) (tx : List Nat) (s : DV) (o0 o3 : Option Ob)
theorem bDj (F : List DV → Hp → aH) : s63 (ovr (cA 900) 116 F) 900 (.a (gE (aL 26856) (aL 26857))) (iD 0) ⟨aL 26859, KA f k n tx s o0 o3⟩ =
  bnd (F [.a (gE (aL 26856) (aL 26857)), iD 0] (HA f k n tx s o0 o3)) fun v3 h3 => bnd (aC 0 v3 h3) fun v4 h4 => bnd (aC 1 v3 h4) fun v5 h5 => some (v5, h5) := by kernel_rfl
theorem nW {r : aH} {e : Nat} (h : bEl r e = true) : ∃ a g, r = some (.t [a, iD (Int.ofNat e)], g) := by
 unfold bEl at h
 split at h
 ·rename_i a x g
  exact ⟨a, g, by rw [Nat.eq_of_beq_eq_true h]⟩
 ·cases h
theorem cEw {h : Hp} (hn : h.next = aL 26859) (h1 : h.bl.get (aL 26856) = some (.row .ex [iD k, .s tx, iD n, s])) (ho : s.one = true) (h2 : h.bl.get (aL 26857) = some (.row .ex kN)) {b : Bool} {g : Hp}
  (hF : cA 900 142 [.l (aL 26856) 0 1 1, .f 143 [] []] (roify (HB (fun p => (h.bl.get p).bind dM) k n tx s ((h.bl.get (aL 26855)).bind dM) ((h.bl.get (aL 26858)).bind dM))) = some (.b b, g)) :
  p63.f2 [.a (gE (aL 26856) (aL 26857)), iD 0] h = some (iD (if b then 19 else 0), h) := by
 have hv : view psL h = ⟨aL 26859, KA (fun p => (h.bl.get p).bind dM) k n tx s ((h.bl.get (aL 26855)).bind dM) ((h.bl.get (aL 26858)).bind dM)⟩ := by
  unfold view
  rw [hn, aRs]
  unfold psL KA
  simp only [List.map_cons, List.map_nil, h1, h2, Option.bind_some]
  rw [show dM (.row .ex [iD k, .s tx, iD n, s]) = some (.row .ro [iD k, .s tx, iD n, s]) by
   show (if [iD k, .s tx, iD n, s].all DV.one = true then some (Ob.row .ro [iD k, .s tx, iD n, s]) else none) = _
   rw [if_pos (by simp only [List.all_cons, List.all_nil, ho, show (iD k).one = true from rfl, show (iD n).one = true from rfl, show (DV.s tx).one = true from rfl, Bool.and_self])], show dM (.row .ex kN) = some (.row .ro kN) from rfl]
 generalize (fun p => (h.bl.get p).bind dM) = ff at hF hv
 generalize ((h.bl.get (aL 26855)).bind dM) = a0 at hF hv
 generalize ((h.bl.get (aL 26858)).bind dM) = a3 at hF hv
 have e142 : fgt (cA 900 142) [.l (aL 26856) 0 1 1, .f 143 [] []] (HB ff k n tx s a0 a3) = some (.b b, HB ff k n tx s a0 a3) := lG hF rfl
 have e116 : ∃ a g, aF CF (ovr (cA 900) 142 (fgt (cA 900 142))) 900 116 [.a (gE (aL 26856) (aL 26857)), iD 0] (HA ff k n tx s a0 a3) = some (.t [a, iD (if b then 19 else 0)], g) := by
  rw [bPq]
  show ∃ a g, s116 (ovr (cA 900) 142 (fgt (cA 900 142))) 900 (.a (gE (aL 26856) (aL 26857))) (iD 0) (HA ff k n tx s a0 a3) = _
  rw [bBh, e142, aO]
  cases b with
  | true => exact nW (cBw ff k n tx s a0 a3 _)
  | false => exact nW (bSs ff k n tx s a0 a3 _)
 obtain ⟨a, g1, e116⟩ := e116
 have e63 : aF CF (ovr (cA 900) 116 (aF CF (ovr (cA 900) 142 (fgt (cA 900 142))) 900 116)) 900 63 [.a (gE (aL 26856) (aL 26857)), iD 0] (view psL h) = some (iD (if b then 19 else 0), g1) := by
  rw [hv, cMn]
  show s63 (ovr (cA 900) 116 (aF CF (ovr (cA 900) 142 (fgt (cA 900 142))) 900 116)) 900 (.a (gE (aL 26856) (aL 26857))) (iD 0) _ = _
  rw [bDj, e116]
  rfl
 exact xO e63
end
end Go.Dd

namespace Go.Dd
open Go.Proofs Go.RowKit
section
variable (f : Pos → Option Ob) (k n : Int) (tx : List Nat) (s : DV) (o2 o3 : Option Ob)
noncomputable def KC : Tr Ob := skV f [(aL 26855, some (.row .ro [iD k, .s tx, iD n, s])), (aL 26856, some (.row .ro kN)), (aL 26857, o2), (aL 26858, o3)]
noncomputable def aAd : Hp := ⟨aL 26859, Tr.set (.row .ex (gE (aL 26855) (aL 26856))) (aL 26858) (KC f k n tx s o2 o3)⟩
noncomputable def zX : Hp := ⟨aL 26860, Tr.set (.row .ex (gE (aL 26855) (aL 26856))) (aL 26859) (roify (aAd f k n tx s o2 o3)).bl⟩
noncomputable def k65 (rec : FuncId → List DV → Hp → aH) (v : DV) (h : Hp) : aH := bnd (jE .not v h) fun v52 h52 => aX v52 (some ((.b false), h52)) (bnd (aD .add (iD 0) (.i .i64 (Int.ofNat 1)) h52) fun v53 h53 => yH rec 900 899 (iD 0) (.p (aL 26859) 0) v53 h53)
theorem aNa (F : List DV → Hp → aH) : s65 (ovr (cA 900) 118 F) 900 (.a (gE (aL 26855) (aL 26856))) (iD 0) (roify (aAd f k n tx .l0 o2 o3)) =
  bnd (F [.a [iD k, .s tx, iD n, .l0], .i .i64 (Int.ofNat 20)] (zX f k n tx .l0 o2 o3)) (k65 (ovr (cA 900) 118 F)) := by kernel_rfl
theorem aQi (b : Pos) (len cap : Nat) (F : List DV → Hp → aH) : s65 (ovr (cA 900) 118 F) 900 (.a (gE (aL 26855) (aL 26856))) (iD 0) (roify (aAd f k n tx (.l b 0 len cap) o2 o3)) =
  bnd (F [.a [iD k, .s tx, iD n, .l b 0 len cap], .i .i64 (Int.ofNat 20)] (zX f k n tx (.l b 0 len cap) o2 o3)) (k65 (ovr (cA 900) 118 F)) := by kernel_rfl
noncomputable def cAh (r : aH) : Bool := match r with
 | some (.b x, _) => x
 | _ => false
theorem aAu {r : aH} (h : cAh r = true) : ∃ g, r = some (.b true, g) := by
 unfold cAh at h
 split at h
 ·rename_i x g
  subst h
  exact ⟨g, rfl⟩
 ·cases h
theorem bBq (F : List DV → Hp → aH) : cAh (k65 (ovr (cA 900) 118 F) (.b true) (zX f k n tx .l0 o2 o3)) = true := by kernel_rfl
theorem bEf (b : Pos) (len cap : Nat) (F : List DV → Hp → aH) : cAh (k65 (ovr (cA 900) 118 F) (.b true) (zX f k n tx (.l b 0 len cap) o2 o3)) = true := by kernel_rfl
theorem aYh (rec : FuncId → List DV → Hp → aH) (h : Hp) : k65 rec (.b false) h = some (.b false, h) := by kernel_rfl
theorem bFe (F : List DV → Hp → aH) : s27 (ovr (cA 900) 65 F) 900 (.a (gE (aL 26855) (aL 26856))) (iD 0) ⟨aL 26858, KC f k n tx s o2 o3⟩ =
  bnd (F [.a (gE (aL 26855) (aL 26856)), iD 0] (aAd f k n tx s o2 o3)) fun v h => aAo (ovr (cA 900) 65 F) 900 (.p (aL 26858) 0) v h := by kernel_rfl
theorem bLi (F : List DV → Hp → aH) : bEl (aAo (ovr (cA 900) 65 F) 900 (.p (aL 26858) 0) (.b true) (aAd f k n tx s o2 o3)) 0 = true := by kernel_rfl
theorem bZh (rec : FuncId → List DV → Hp → aH) (h : Hp) : bEl (aAo rec 900 (.p (aL 26858) 0) (.b false) h) 19 = true := by kernel_rfl
end
end Go.Dd

namespace Go.Dd
open Go.Proofs Go.RowKit
def Sl0 (s : DV) : Prop := s = .l0 ∨ ∃ b len cap, s = .l b 0 len cap
theorem Sl0.one {s : DV} (h : Sl0 s) : s.one = true := by
 rcases h with rfl | ⟨b, len, cap, rfl⟩ <;> rfl
section
variable (f : Pos → Option Ob) (k n : Int) (tx : List Nat) (s : DV) (o2 o3 : Option Ob)
theorem cKi (hs : Sl0 s) {b : Bool} {g : Hp} (hF : cA 900 118 [.a [iD k, .s tx, iD n, s], .i .i64 (Int.ofNat 20)] (roify (zX f k n tx s o2 o3)) = some (.b b, g)) :
  p65.f2 [.a (gE (aL 26855) (aL 26856)), iD 0] (aAd f k n tx s o2 o3) = some (.b b, aAd f k n tx s o2 o3) := by
 have e118 : fgt (cA 900 118) [.a [iD k, .s tx, iD n, s], .i .i64 (Int.ofNat 20)] (zX f k n tx s o2 o3) = some (.b b, zX f k n tx s o2 o3) := lG hF rfl
 have e65 : ∃ g, aF CF (ovr (cA 900) 118 (fgt (cA 900 118))) 900 65 [.a (gE (aL 26855) (aL 26856)), iD 0] (roify (aAd f k n tx s o2 o3)) = some (.b b, g) := by
  rw [cOh]
  show ∃ g, s65 (ovr (cA 900) 118 (fgt (cA 900 118))) 900 (.a (gE (aL 26855) (aL 26856))) (iD 0) (roify (aAd f k n tx s o2 o3)) = _
  rcases hs with rfl | ⟨p, len, cap, rfl⟩
  ·rw [aNa, e118, aO]
   cases b with
   | true => exact aAu (bBq f k n tx o2 o3 _)
   | false => exact ⟨_, aYh _ _⟩
  ·rw [aQi, e118, aO]
   cases b with
   | true => exact aAu (bEf f k n tx o2 o3 p len cap _)
   | false => exact ⟨_, aYh _ _⟩
 obtain ⟨g1, e65⟩ := e65
 exact lG e65 rfl
theorem cAu {h : Hp} (hn : h.next = aL 26858) (hs : Sl0 s) (h1 : h.bl.get (aL 26855) = some (.row .ex [iD k, .s tx, iD n, s])) (h2 : h.bl.get (aL 26856) = some (.row .ex kN)) {b : Bool} {g : Hp}
  (hF : cA 900 118 [.a [iD k, .s tx, iD n, s], .i .i64 (Int.ofNat 20)] (roify (zX (fun p => (h.bl.get p).bind dM) k n tx s ((h.bl.get (aL 26857)).bind dM) ((h.bl.get (aL 26858)).bind dM))) = some (.b b, g)) :
  ∃ x, p27.f2 [.a (gE (aL 26855) (aL 26856)), iD 0] h = some (.t [x, iD (if b then 0 else 19)], h) := by
 have ho := hs.one
 have hv : view psL h = ⟨aL 26858, KC (fun p => (h.bl.get p).bind dM) k n tx s ((h.bl.get (aL 26857)).bind dM) ((h.bl.get (aL 26858)).bind dM)⟩ := by
  unfold view
  rw [hn, aRs]
  unfold psL KC
  simp only [List.map_cons, List.map_nil, h1, h2, Option.bind_some]
  rw [show dM (.row .ex [iD k, .s tx, iD n, s]) = some (.row .ro [iD k, .s tx, iD n, s]) by
   show (if [iD k, .s tx, iD n, s].all DV.one = true then some (Ob.row .ro [iD k, .s tx, iD n, s]) else none) = _
   rw [if_pos (by simp only [List.all_cons, List.all_nil, ho, show (iD k).one = true from rfl, show (iD n).one = true from rfl, show (DV.s tx).one = true from rfl, Bool.and_self])], show dM (.row .ex kN) = some (.row .ro kN) from rfl]
 generalize (fun p => (h.bl.get p).bind dM) = ff at hF hv
 generalize ((h.bl.get (aL 26857)).bind dM) = a2 at hF hv
 generalize ((h.bl.get (aL 26858)).bind dM) = a3 at hF hv
 have e65 := cKi ff k n tx s a2 a3 hs hF
 have e27 : ∃ a g, aF CF (ovr (cA 900) 65 p65.f2) 900 27 [.a (gE (aL 26855) (aL 26856)), iD 0] (view psL h) = some (.t [a, iD (if b then 0 else 19)], g) := by
  rw [hv, cOg]
  show ∃ a g, s27 (ovr (cA 900) 65 p65.f2) 900 (.a (gE (aL 26855) (aL 26856))) (iD 0) _ = _
  rw [bFe, e65, aO]
  cases b with
  | true => exact nW (bLi ff k n tx s a2 a3 _)
  | false => exact nW (bZh _ _)
 obtain ⟨a, g1, e27⟩ := e27
 exact ⟨_, xO e27⟩
end
end Go.Dd

namespace Go.Dd
open Go.Proofs
inductive Lt where
 | mk (k n : Int) (tx : List Nat) (kids : List Lt)
mutual
def Lt.sz : Lt → Nat
 | .mk _ _ _ ks => 1 + dNf ks
def dNf : List Lt → Nat
 | [] => 0
 | t :: ts => Lt.sz t + dNf ts
end
def dNz (k n : Int) (tx : List Nat) (e : Bool) : Bool :=
 if k = 1 then tx.isEmpty && e && decide (-1152921504606846976 ≤ n ∧ n ≤ 1152921504606846976)
 else if n ≠ 0 then false
 else if k = 2 then e && decide (tx.length ≤ 250)
 else if k = 3 then e && decide (1 ≤ tx.length ∧ tx.length ≤ 60)
 else false
mutual
def Lt.ok : Int → Lt → Bool
 | d, .mk k n tx ks => if k = 4 then decide (n = 0) && tx.isEmpty && decide (0 < d) && decide (ks.length ≤ 250) && dOb (d - 1) ks else dNz k n tx ks.isEmpty
def dOb : Int → List Lt → Bool
 | _, [] => true
 | d, t :: ts => Lt.ok d t && dOb d ts
end
theorem Lt.sz_pos : ∀ t : Lt, 1 ≤ t.sz
 | .mk _ _ _ ks => by unfold Lt.sz; omega
structure Gw (h h' : Hp) : Prop where
 next : h.next.toNat ≤ h'.next.toNat
 get : ∀ b : Pos, b.toNat < h.next.toNat → h'.bl.get b = h.bl.get b
theorem Gw.refl (h : Hp) : Gw h h := ⟨Nat.le_refl _, fun _ _ => rfl⟩
theorem Gw.trans {a b c : Hp} (u : Gw a b) (v : Gw b c) : Gw a c := ⟨Nat.le_trans u.next v.next, fun p hp => (v.get p (Nat.lt_of_lt_of_le hp u.next)).trans (u.get p hp)⟩
theorem Gw.new (h : Hp) (o : Ob) : Gw h ⟨h.next.succ, Tr.set o h.next h.bl⟩ := by
 have := dNd h.next
 exact ⟨by show _ ≤ h.next.succ.toNat; omega, fun b hb => dNb _ _ _ _ (fun e => by subst e; omega)⟩
def Qn (q : Pos → Prop) (h : Hp) (b : Pos) (l : List DV) : Prop := (∃ kd, h.bl.get b = some (.row kd l)) ∧ q b ∧ b.toNat < h.next.toNat
mutual
def LV (q : Pos → Prop) (h : Hp) : Lt → List DV → Prop
 | .mk k n tx ks, ds => ∃ s, ds = [iD k, .s tx, iD n, s] ∧ ((ks = [] ∧ s = .l0) ∨ ∃ b row cap, s = .l b 0 ks.length cap ∧ Qn q h b row ∧ LVL q h ks row)
def LVL (q : Pos → Prop) (h : Hp) : List Lt → List DV → Prop
 | [], row => True
 | t :: ts, row => ∃ c r, row = c ++ r ∧ LV q h t c ∧ LVL q h ts r
end
mutual
theorem LV.mv {q q' : Pos → Prop} {h h' : Hp} (hn : h.next.toNat ≤ h'.next.toNat) (hk : ∀ p, q p → p.toNat < h.next.toNat → (∀ kd l, h.bl.get p = some (.row kd l) → ∃ kd', h'.bl.get p = some (.row kd' l)) ∧ q' p) : ∀ (t : Lt) (ds : List DV), LV q h t ds → LV q' h' t ds
 | .mk k n tx ks, ds, H => by
  unfold LV at H ⊢
  obtain ⟨s, h1, h3⟩ := H
  refine ⟨s, h1, ?_⟩
  rcases h3 with h3 | ⟨b, row, cap, e, ⟨⟨kd, g1⟩, g2, g3⟩, r⟩
  ·exact .inl h3
  ·obtain ⟨e1, e2⟩ := hk b g2 g3
   exact .inr ⟨b, row, cap, e, ⟨e1 kd row g1, e2, by omega⟩, LVL.mv hn hk ks row r⟩
theorem LVL.mv {q q' : Pos → Prop} {h h' : Hp} (hn : h.next.toNat ≤ h'.next.toNat) (hk : ∀ p, q p → p.toNat < h.next.toNat → (∀ kd l, h.bl.get p = some (.row kd l) → ∃ kd', h'.bl.get p = some (.row kd' l)) ∧ q' p) : ∀ (ts : List Lt) (row : List DV), LVL q h ts row → LVL q' h' ts row
 | [], row, H => by unfold LVL; trivial
 | t :: ts, row, H => by
  unfold LVL at H ⊢
  obtain ⟨c, r, e, a, b⟩ := H
  exact ⟨c, r, e, LV.mv hn hk t c a, LVL.mv hn hk ts r b⟩
end
theorem LV.up {q : Pos → Prop} {h h' : Hp} (u : Gw h h') {t : Lt} {ds : List DV} (H : LV q h t ds) : LV q h' t ds := LV.mv u.next (fun p hq hp => ⟨fun kd l e => ⟨kd, by rw [u.get p hp]; exact e⟩, hq⟩) t ds H
theorem LVL.up {q : Pos → Prop} {h h' : Hp} (u : Gw h h') {ts : List Lt} {row : List DV} (H : LVL q h ts row) : LVL q h' ts row := LVL.mv u.next (fun p hq hp => ⟨fun kd l e => ⟨kd, by rw [u.get p hp]; exact e⟩, hq⟩) ts row H
theorem LV.shape {q : Pos → Prop} {h : Hp} {t : Lt} {ds : List DV} (H : LV q h t ds) : ds.length = 4 ∧ ∀ v ∈ ds, v.one = true := by
 obtain ⟨k, n, tx, ks⟩ := t
 unfold LV at H
 obtain ⟨s, rfl, hs⟩ := H
 have ho : s.one = true := by
  rcases hs with ⟨_, rfl⟩ | ⟨b, row, cap, rfl, _⟩ <;> rfl
 refine ⟨rfl, fun v hv => ?_⟩
 simp only [List.mem_cons, List.not_mem_nil, or_false] at hv
 rcases hv with rfl | rfl | rfl | rfl
 ·rfl
 ·rfl
 ·rfl
 ·exact ho
theorem bQq {c r : List DV} (h1 : c.length = 4) (h2 : ∀ v ∈ c, v.one = true) : gR 4 (c ++ r) = some c := by
 obtain ⟨c0, c1, c2, c3, rfl⟩ : ∃ c0 c1 c2 c3, c = [c0, c1, c2, c3] := by
  match c, h1 with
  | [c0, c1, c2, c3], _ => exact ⟨_, _, _, _, rfl⟩
 simp only [List.cons_append, gR, h2 c0 (by simp), h2 c1 (by simp), h2 c2 (by simp), h2 c3 (by simp), if_true, Option.map_some]
theorem LVL.at {q : Pos → Prop} {h : Hp} : ∀ {ts : List Lt} {row : List DV}, LVL q h ts row → ∀ (i : Nat) t, ts[i]? = some t → ∃ c, gR 4 (row.drop (i * 4)) = some c ∧ LV q h t c
 | [], row, H, i, t, e => by simp at e
 | t :: ts, row, H, i, x, e => by
  unfold LVL at H
  obtain ⟨c, r, rfl, a, b⟩ := H
  obtain ⟨s1, s2⟩ := a.shape
  cases i with
  | zero =>
   simp only [List.getElem?_cons_zero, bC] at e
   subst e
   exact ⟨c, by rw [Nat.zero_mul, List.drop_zero]; exact bQq s1 s2, a⟩
  | succ i =>
   simp only [List.getElem?_cons_succ] at e
   obtain ⟨c', q1, q2⟩ := LVL.at b i x e
   refine ⟨c', ?_, q2⟩
   rw [show (i + 1) * 4 = c.length + i * 4 by omega, List.drop_append]
   rw [List.drop_eq_nil_of_le (by omega), List.nil_append, show c.length + i * 4 - c.length = i * 4 by omega]
   exact q1
theorem LV.len {q : Pos → Prop} {h : Hp} {ks : List Lt} {s : DV} (H : (ks = [] ∧ s = .l0) ∨ ∃ b row cap, s = .l b 0 ks.length cap ∧ Qn q h b row ∧ LVL q h ks row) (g : Hp) : cB s g = some (iD (Int.ofNat ks.length), g) := by
 rcases H with ⟨rfl, rfl⟩ | ⟨b, row, cap, rfl, _⟩ <;> rfl
theorem dOk {q : Pos → Prop} {h : Hp} {ks : List Lt} {s : DV} (H : (ks = [] ∧ s = .l0) ∨ ∃ b row cap, s = .l b 0 ks.length cap ∧ Qn q h b row ∧ LVL q h ks row) {i : Nat} {t : Lt} (e : ks[i]? = some t) :
  ∃ c a, aE 4 s (iD (Int.ofNat i)) h = some (a, h) ∧ aK 4 a h = some (.a c, h) ∧ LV q h t c := by
 have hi : i < ks.length := (gLt e)
 rcases H with ⟨rfl, rfl⟩ | ⟨b, row, cap, rfl, ⟨⟨kd, g1⟩, _, _⟩, r⟩
 ·simp at hi
 ·obtain ⟨c, q1, q2⟩ := r.at i t e
  refine ⟨c, .p b (0 + i * 4), ?_, ?_, q2⟩
  ·simp only [aE, iD]
   rw [if_pos (by constructor <;> simp <;> omega)]
   rfl
  ·simp only [aK, cellsAt, rowOf, g1, Nat.zero_add, q1, Option.map_some]
end Go.Dd

namespace Go.Dd
open Go.Proofs
theorem sY {b : Pos} {kd : Kind} {l : List DV} {h : Hp} (hb : h.bl.get b = some (.row kd l)) {i : Nat} {v : DV} (hi : l[i]? = some v) (hv : v.one = true) : aA (.p b i) h = some (v, h) := by
 simp only [aA, cellD, rowOf, hb, hi, hv, if_true]
theorem cZo (s t : List Nat) (h : Hp) : gC .eql (.s s) (.s t) h = some (.b (uI s t), h) := rfl
theorem dAu (s t : List Nat) (h : Hp) : gC .neq (.s s) (.s t) h = some (.b (!uI s t), h) := rfl
theorem aLb (s : List Nat) (h : Hp) : dN (.s s) h = some (.i .i64 (s.length : Int), h) := rfl
theorem uJ (tx : List Nat) : uI tx [] = tx.isEmpty := by cases tx <;> rfl
structure B4 (h : Hp) (b : Pos) (k n : Int) (tx : List Nat) (s : DV) : Prop where
 row : ∃ kd, h.bl.get b = some (.row kd [iD k, .s tx, iD n, s])
 one : s.one = true
section
variable {rec : FuncId → List DV → Hp → aH} {N : Nat} {h : Hp} {b : Pos} {k n len d : Int} {tx : List Nat} {s : DV}
theorem B4.l0 (B : B4 h b k n tx s) : aA (.p b (0 + 0)) h = some (iD k, h) := by obtain ⟨kd, e⟩ := B.row; exact sY (i := 0 + 0) e rfl rfl
theorem B4.l1 (B : B4 h b k n tx s) : aA (.p b (0 + 1)) h = some (.s tx, h) := by obtain ⟨kd, e⟩ := B.row; exact sY (i := 0 + 1) e rfl rfl
theorem B4.l2 (B : B4 h b k n tx s) : aA (.p b (0 + 2)) h = some (iD n, h) := by obtain ⟨kd, e⟩ := B.row; exact sY (i := 0 + 2) e rfl rfl
theorem B4.l3 (B : B4 h b k n tx s) : aA (.p b (0 + 3)) h = some (s, h) := by obtain ⟨kd, e⟩ := B.row; exact sY (i := 0 + 3) e rfl B.one
theorem neI {a b : Int} (h : a ≠ b) : (a == b) = false := by simpa using h
theorem cZg (B : B4 h b 1 n tx s) (hl : cB s h = some (iD len, h)) : lB rec N (iD d) (.p b 0) h = some (.b (dNz 1 n tx (len == 0)), h) := by
 have l0 := B.l0; have l1 := B.l1; have l2 := B.l2; have l3 := B.l3
 unfold lB dNz
 rw [if_pos rfl]
 simp only [iD] at l0 l2 hl ⊢
 simp only [fR, aO, l0, l1, cI, show ((1 : Int) == Int.ofNat 1) = true from rfl, bN, cZo, uJ]
 cases tx.isEmpty with
 | false => simp only [fE, iK, aO, bK, Bool.false_and]
 | true =>
  simp only [iG, fR, aO, l3, hl, cI, bQ, Bool.true_and, show (Int.ofNat 0) = (0 : Int) from rfl]
  cases (len == 0) with
  | false => simp only [fE, iK, aO, bK, Bool.false_and]
  | true =>
   simp only [iG, fR, aO, l2, iR, Bool.true_and]
   by_cases c : (-1152921504606846976 : Int) ≤ n
   ·rw [show decide (n ≥ Int.negSucc 1152921504606846975) = true from decide_eq_true c]
    simp only [iG, fR, aO, l2, oW, bQ]
    by_cases c2 : n ≤ 1152921504606846976
    ·rw [show decide (n ≤ Int.ofNat 1152921504606846976) = true from decide_eq_true c2, decide_eq_true ⟨c, c2⟩]
    ·rw [show decide (n ≤ Int.ofNat 1152921504606846976) = false from decide_eq_false c2, decide_eq_false (fun q => c2 q.2)]
   ·rw [show decide (n ≥ Int.negSucc 1152921504606846975) = false from decide_eq_false c, decide_eq_false (fun q => c q.1)]
    simp only [fE, iK, aO, bQ, bK]
theorem cTo (B : B4 h b k n tx s) (hl : cB s h = some (iD len, h)) (h1 : k ≠ 1) (h4 : k ≠ 4 ∨ n ≠ 0) : lB rec N (iD d) (.p b 0) h = some (.b (dNz k n tx (len == 0)), h) := by
 have l0 := B.l0; have l1 := B.l1; have l2 := B.l2; have l3 := B.l3
 unfold lB dNz
 rw [if_neg h1]
 simp only [iD] at l0 l2 hl ⊢
 simp only [fR, aO, l0, cI, show (k == Int.ofNat 1) = false from neI h1, bG]
 unfold zN
 simp only [fR, aO, l2, eN, show (Int.ofNat 0) = (0 : Int) from rfl]
 by_cases c0 : n = 0
 ·subst c0
  rw [if_neg (by simp)]
  simp only [show ((0 : Int) != 0) = false from rfl, bG]
  unfold yM
  simp only [fR, aO, l0, cI]
  by_cases c2 : k = 2
  ·subst c2
   rw [if_pos rfl]
   simp only [show ((2 : Int) == Int.ofNat 2) = true from rfl, bN, fR, aO, l3, hl, cI, show (Int.ofNat 0) = (0 : Int) from rfl]
   cases (len == 0) with
   | false => simp only [fE, iK, aO, bK, Bool.false_and]
   | true =>
    simp only [iG, fR, aO, l1, aLb, oW, bQ, Bool.true_and]
    by_cases c : tx.length ≤ 250
    ·rw [show decide ((tx.length : Int) ≤ Int.ofNat 250) = true from decide_eq_true (Int.ofNat_le.2 c), decide_eq_true c]
    ·rw [show decide ((tx.length : Int) ≤ Int.ofNat 250) = false from decide_eq_false (fun q => c (Int.ofNat_le.1 q)), decide_eq_false c]
  ·rw [if_neg c2]
   simp only [show (k == Int.ofNat 2) = false from neI c2, bG]
   unfold yB
   simp only [fR, aO, l0, cI]
   by_cases c3 : k = 3
   ·subst c3
    rw [if_pos rfl]
    simp only [show ((3 : Int) == Int.ofNat 3) = true from rfl, bN, fR, aO, l3, hl, cI, show (Int.ofNat 0) = (0 : Int) from rfl]
    cases (len == 0) with
    | false => simp only [fE, iK, aO, bK, Bool.false_and]
    | true =>
     simp only [iG, fR, aO, l1, aLb, iR, bQ, Bool.true_and]
     by_cases c : 1 ≤ tx.length
     ·rw [show decide ((tx.length : Int) ≥ Int.ofNat 1) = true from decide_eq_true (Int.ofNat_le.2 c)]
      simp only [iG, fR, aO, l1, aLb, oW, bQ]
      by_cases e : tx.length ≤ 60
      ·rw [show decide ((tx.length : Int) ≤ Int.ofNat 60) = true from decide_eq_true (Int.ofNat_le.2 e), decide_eq_true ⟨c, e⟩]
      ·rw [show decide ((tx.length : Int) ≤ Int.ofNat 60) = false from decide_eq_false (fun q => e (Int.ofNat_le.1 q)), decide_eq_false (fun q => e q.2)]
     ·rw [show decide ((tx.length : Int) ≥ Int.ofNat 1) = false from decide_eq_false (fun q => c (Int.ofNat_le.1 q)), decide_eq_false (fun q => c q.1)]
      simp only [fE, iK, aO, bK]
   ·rw [if_neg c3]
    simp only [show (k == Int.ofNat 3) = false from neI c3, bG]
    unfold xJ
    have c4 : k ≠ 4 := h4.resolve_right (fun q => q rfl)
    simp only [fR, aO, l0, eN, show (k != Int.ofNat 4) = true by simpa using c4, fN, iK, bQ, bN]
 ·rw [if_pos c0]
  simp only [show (n != 0) = true by simpa using c0, bN]
end
end Go.Dd

namespace Go.Dd
open Go.Proofs
theorem B4.gw {h h' : Hp} {b : Pos} {k n : Int} {tx : List Nat} {s : DV} (B : B4 h b k n tx s) (u : Gw h h') (hb : b.toNat < h.next.toNat) : B4 h' b k n tx s := ⟨by obtain ⟨kd, e⟩ := B.row; exact ⟨kd, by rw [u.get b hb]; exact e⟩, B.one⟩
def KS (q : Pos → Prop) (h : Hp) (ks : List Lt) (s : DV) : Prop := (ks = [] ∧ s = .l0) ∨ ∃ b row cap, s = .l b 0 ks.length cap ∧ Qn q h b row ∧ LVL q h ks row
theorem KS.up {q : Pos → Prop} {h h' : Hp} {ks : List Lt} {s : DV} (u : Gw h h') (H : KS q h ks s) : KS q h' ks s := by
 rcases H with H | ⟨b, row, cap, e, ⟨⟨kd, g1⟩, g2, g3⟩, r⟩
 ·exact .inl H
 ·exact .inr ⟨b, row, cap, e, ⟨⟨kd, by rw [u.get b g3]; exact g1⟩, g2, Nat.lt_of_lt_of_le g3 u.next⟩, r.up u⟩
theorem KS.one {q : Pos → Prop} {h : Hp} {ks : List Lt} {s : DV} (H : KS q h ks s) : s.one = true := by
 rcases H with ⟨_, rfl⟩ | ⟨b, row, cap, rfl, _⟩ <;> rfl
theorem pR : ∀ {ks : List Lt} {i : Nat} {t : Lt}, ks[i]? = some t → t.sz ≤ dNf ks
 | [], i, t, e => by simp at e
 | x :: ks, 0, t, e => by
  simp only [List.getElem?_cons_zero, bC] at e
  subst e
  unfold dNf
  omega
 | x :: ks, i + 1, t, e => by
  simp only [List.getElem?_cons_succ] at e
  have := pR e
  unfold dNf
  omega
theorem jR : ∀ ks : List Lt, ks.length ≤ dNf ks
 | [] => by simp [dNf]
 | x :: ks => by
  have := jR ks
  have := x.sz_pos
  unfold dNf
  simp only [List.length_cons]
  omega
theorem aKv {ks : List Lt} {i : Nat} {t : Lt} (e : ks[i]? = some t) (d : Int) : dOb d (ks.drop i) = (Lt.ok d t && dOb d (ks.drop (i + 1))) := by
 have hi := (List.getElem?_eq_some_iff.1 e)
 obtain ⟨hi, rfl⟩ := hi
 rw [List.drop_eq_getElem_cons hi]
 rw [dOb]
section
variable {q : Pos → Prop} {M : Nat}
theorem aAq {rec : FuncId → List DV → Hp → aH} {ks : List Lt} {k n : Int} {tx : List Nat} {s : DV} {b : Pos} {d : Nat} (hd : 0 < d) (hd2 : d < 1000)
  (ih : ∀ (t : Lt) (ds : List DV) (h : Hp), LV q h t ds → t.sz ≤ dNf ks → ∃ g, rec 118 [.a ds, iD (Int.ofNat (d - 1))] h = some (.b (t.ok (Int.ofNat (d - 1))), g) ∧ Gw h g) (hk : ks.length ≤ 1000) :
  ∀ (m i : Nat) (h : Hp), ks.length < i + m → i ≤ ks.length → B4 h b k n tx s → KS q h ks s → b.toNat < h.next.toNat →
   ∃ g, nU rec M m (iD (Int.ofNat d)) (.p b 0) (iD (Int.ofNat i)) h = some (.b (dOb (Int.ofNat (d - 1)) (ks.drop i)), g) ∧ Gw h g
 | 0, i, h, hm, hi, B, K, hb => by omega
 | m + 1, i, h, hm, hi, B, K, hb => by
  have l3 := B.l3
  have hl := LV.len K h
  show ∃ g, uB rec M (nU rec M m) (iD (Int.ofNat d)) (.p b 0) (iD (Int.ofNat i)) h = _ ∧ _
  unfold uB
  simp only [iD] at hl ⊢
  simp only [fR, aO, l3, hl, cG]
  by_cases c : i < ks.length
  ·rw [show decide (Int.ofNat i < Int.ofNat ks.length) = true from decide_eq_true (Int.ofNat_lt.2 c)]
   obtain ⟨t, et⟩ : ∃ t, ks[i]? = some t := ⟨ks[i], by simp [c]⟩
   obtain ⟨cs, a, p1, p2, p3⟩ := dOk K et
   simp only [iD] at p1
   obtain ⟨g1, e1, u1⟩ := ih t cs h p3 (pR et)
   simp only [iD] at e1
   simp only [bN, fR, aO, l3, p1, p2, wL (Int.ofNat d) (Int.ofNat 1) h (by show _ ≤ (d : Int) - 1 ∧ (d : Int) - 1 ≤ _; omega)]
   rw [show (Int.ofNat d - Int.ofNat 1) = Int.ofNat (d - 1) by show (d : Int) - 1 = ((d - 1 : Nat) : Int); omega, e1, aO, aKv et]
   simp only [iM, aO]
   cases t.ok (Int.ofNat (d - 1)) with
   | false => exact ⟨g1, rfl, u1⟩
   | true =>
    simp only [Bool.not_true, bG, fZ (Int.ofNat i) (Int.ofNat 1) g1 (by show _ ≤ (i : Int) + 1 ∧ (i : Int) + 1 ≤ _; omega), aO, Bool.true_and]
    obtain ⟨g2, e2, u2⟩ := aAq hd hd2 ih hk m (i + 1) g1 (by omega) (by omega) (B.gw u1 hb) (K.up u1) (Nat.lt_of_lt_of_le hb u1.next)
    simp only [iD] at e2
    rw [show (Int.ofNat i + Int.ofNat 1) = Int.ofNat (i + 1) from rfl]
    exact ⟨g2, e2, u1.trans u2⟩
  ·rw [show decide (Int.ofNat i < Int.ofNat ks.length) = false from decide_eq_false (fun w => c (Int.ofNat_lt.1 w))]
   simp only [bG]
   rw [List.drop_eq_nil_of_le (by omega)]
   exact ⟨h, rfl, Gw.refl h⟩
theorem cBy (hf : zJ 118 = false) (N : Nat) (args : List DV) (h : Hp) : cA (N + 1) 118 args h = s118 (cA N) N (args.getD 0 aU) (args.getD 1 aU) h := (qH 118 hf N args h).trans (bFs (cA N) N args h)
theorem cOs : ∀ (N : Nat) (t : Lt) (d : Nat) (ds : List DV) (h : Hp), d < 1000 → LV q h t ds → t.sz < N → N < 1000 → ∃ g, cA N 118 [.a ds, iD (Int.ofNat d)] h = some (.b (t.ok (Int.ofNat d)), g) ∧ Gw h g
 | 0, t, d, ds, h, hd, H, hN, hN2 => by omega
 | N + 1, .mk k n tx ks, d, ds, h, hd, H, hN, hN2 => by
  rw [cBy rfl]
  unfold LV at H
  obtain ⟨s, rfl, K⟩ := H
  have K : KS q h ks s := K
  show ∃ g, s118 (cA N) N (.a [iD k, .s tx, iD n, s]) (iD (Int.ofNat d)) h = _ ∧ _
  unfold s118
  obtain ⟨h1, eh1⟩ : ∃ h1 : Hp, h1 = ⟨h.next.succ, Tr.set (.row .ex [iD k, .s tx, iD n, s]) h.next h.bl⟩ := ⟨_, rfl⟩
  have eb : bU (.a [iD k, .s tx, iD n, s]) h = some (.p h.next 0, h1) := by rw [eh1]; rfl
  have u0 : Gw h h1 := by rw [eh1]; exact Gw.new h _
  have B : B4 h1 h.next k n tx s := ⟨⟨.ex, by rw [eh1]; exact dNc _ _ _⟩, K.one⟩
  have K1 := K.up u0
  have hb : h.next.toNat < h1.next.toNat := by
   rw [eh1]
   have := dNd h.next
   show h.next.toNat < h.next.succ.toNat
   omega
  rw [eb, aO]
  have hl := LV.len K1 h1
  have hlen : (Int.ofNat ks.length == 0) = ks.isEmpty := by cases ks <;> rfl
  unfold Lt.ok
  by_cases c4 : k = 4 ∧ n = 0
  ·obtain ⟨rfl, rfl⟩ := c4
   have hsz : dNf ks < N := by unfold Lt.sz at hN; omega
   have hkl := jR ks
   rw [if_pos rfl]
   have l0 := B.l0; have l1 := B.l1; have l2 := B.l2; have l3 := B.l3
   simp only [iD] at l0 l2 hl
   unfold lB
   simp only [iD]
   simp only [fR, aO, l0, cI, show ((4 : Int) == Int.ofNat 1) = false from rfl, bG]
   unfold zN
   simp only [fR, aO, l2, eN, show ((0 : Int) != Int.ofNat 0) = false from rfl, bG]
   unfold yM
   simp only [fR, aO, l0, cI, show ((4 : Int) == Int.ofNat 2) = false from rfl, bG]
   unfold yB
   simp only [fR, aO, l0, cI, show ((4 : Int) == Int.ofNat 3) = false from rfl, bG]
   unfold xJ
   simp only [fR, aO, l0, eN, show ((4 : Int) != Int.ofNat 4) = false from rfl, gI, l1, dAu, uJ, show decide ((0 : Int) = 0) = true from rfl, Bool.true_and]
   cases tx.isEmpty with
   | false => simp only [Bool.not_false, bK, aO, fN, iK, bQ, bN, Bool.false_and]; exact ⟨h1, rfl, u0⟩
   | true =>
    simp only [Bool.not_true, bK, aO, gI, cI, Bool.true_and]
    by_cases hd0 : d = 0
    ·subst hd0
     simp only [show (Int.ofNat 0 == Int.ofNat 0) = true from rfl, aO, bK, fN, iK, bQ, bN, show decide ((0 : Int) < Int.ofNat 0) = false from rfl, Bool.false_and]
     exact ⟨h1, rfl, u0⟩
    ·have dp : decide ((0 : Int) < Int.ofNat d) = true := decide_eq_true (by show (0 : Int) < (d : Int); omega)
     have dz : (Int.ofNat d == Int.ofNat 0) = false := neI (fun w => hd0 (Int.ofNat.inj w))
     simp only [dz, dp, aO, bK, gI, fR, l3, hl, gA, Bool.true_and]
     by_cases c5 : ks.length ≤ 250
     ·rw [show decide (Int.ofNat ks.length > Int.ofNat 250) = false from decide_eq_false (by show ¬ ((ks.length : Int) > 250); omega), decide_eq_true c5]
      simp only [aO, bK, bG, Bool.true_and]
      obtain ⟨g, e, u⟩ := aAq (M := N) (rec := cA N) (d := d) (by omega) hd (fun t ds h' H' hs => cOs N t (d - 1) ds h' (by omega) H' (by omega) (by omega)) (by omega) N 0 h1 (by omega) (by omega) B K1 hb
      refine ⟨g, ?_, u0.trans u⟩
      rw [List.drop_zero] at e
      rw [show (Int.ofNat d - 1) = Int.ofNat (d - 1) by show (d : Int) - 1 = ((d - 1 : Nat) : Int); omega]
      exact e
     ·rw [show decide (Int.ofNat ks.length > Int.ofNat 250) = true from decide_eq_true (by show ((ks.length : Int) > 250); omega), decide_eq_false c5]
      simp only [aO, bK, bN, Bool.false_and]
      exact ⟨h1, rfl, u0⟩
  ·by_cases c1 : k = 1
   ·subst c1
    rw [if_neg (by decide), cZg B hl, hlen]
    exact ⟨h1, rfl, u0⟩
   ·rw [cTo B hl c1 (by by_cases w : k = 4; exact .inr (fun z => c4 ⟨w, z⟩); exact .inl w), hlen]
    refine ⟨h1, ?_, u0⟩
    by_cases w : k = 4
    ·subst w
     have hn : n ≠ 0 := fun z => c4 ⟨rfl, z⟩
     rw [if_pos rfl]
     unfold dNz
     rw [if_neg (by decide), if_pos hn, decide_eq_false hn]
     rfl
    ·rw [if_neg w]
end
end Go.Dd

namespace Go.Dd
open Go.Proofs
theorem dCt (hf : zJ 141 = false) (N : Nat) (a lo hi : Int) (h : Hp) : cA (N + 1) 141 [iD a, iD lo, iD hi] h = some (.b (decide (lo ≤ a ∧ a ≤ hi)), h) := by
 rw [qH 141 hf, bWo]
 show s141 (cA N) N (iD a) (iD lo) (iD hi) h = _
 unfold s141
 simp only [iD, iR, aO]
 by_cases c : lo ≤ a
 ·rw [show decide (a ≥ lo) = true from decide_eq_true c]
  simp only [iG, aO, oW, bQ]
  by_cases c2 : a ≤ hi
  ·rw [decide_eq_true c2, decide_eq_true ⟨c, c2⟩]
  ·rw [decide_eq_false c2, decide_eq_false (fun w => c2 w.2)]
 ·rw [show decide (a ≥ lo) = false from decide_eq_false c, decide_eq_false (fun w => c w.1)]
  simp only [fE, iK, aO, bK]
theorem cKm (rec : FuncId → List DV → Hp → aH) (c : List DV) (p : Pos) (h : Hp) : gJ CF rec (.f 164 [] [.p p 0]) [.a c] h = rec 164 [.a c, .p p 0] h := by rfl
theorem cJu (rec : FuncId → List DV → Hp → aH) (c : List DV) (h : Hp) : gJ CF rec (.f 143 [] []) [.a c] h = rec 143 [.a c] h := by rfl
section
variable {q : Pos → Prop}
theorem aBh {rec : FuncId → List DV → Hp → aH} {M : Nat} {ks : List Lt} {s F : DV} {d : Int} {P : Hp → Prop} (hP : ∀ h g, Gw h g → P h → P g) (hk : ks.length ≤ 1000)
  (ih : ∀ (t : Lt) (ds : List DV) (h : Hp), LV q h t ds → P h → t.sz ≤ dNf ks → ∃ g, gJ CF rec F [.a ds] h = some (.b (!t.ok d), g) ∧ Gw h g) :
  ∀ (m i : Nat) (h : Hp), ks.length < i + m → i ≤ ks.length → KS q h ks s → P h →
   ∃ r g, lY rec M m s F (iD (Int.ofNat ks.length)) (iD (Int.ofNat i)) h = some (iD r, g) ∧ Gw h g ∧ (decide (r ≥ Int.ofNat 0) = !dOb d (ks.drop i))
 | 0, i, h, hm, hi, K, hp => by omega
 | m + 1, i, h, hm, hi, K, hp => by
  show ∃ r g, vS rec M (lY rec M m) s F (iD (Int.ofNat ks.length)) (iD (Int.ofNat i)) h = _ ∧ _
  unfold vS
  simp only [iD, cG, aO]
  by_cases c : i < ks.length
  ·rw [show decide (Int.ofNat i < Int.ofNat ks.length) = true from decide_eq_true (Int.ofNat_lt.2 c)]
   obtain ⟨t, et⟩ : ∃ t, ks[i]? = some t := ⟨ks[i], by simp [c]⟩
   obtain ⟨cs, a, p1, p2, p3⟩ := dOk K et
   simp only [iD] at p1
   obtain ⟨g1, e1, u1⟩ := ih t cs h p3 hp (pR et)
   simp only [bN, aO, p1, p2, e1]
   rw [aKv et]
   cases t.ok d with
   | false => exact ⟨Int.ofNat i, g1, rfl, u1, rfl⟩
   | true =>
    simp only [Bool.not_true, bG, fZ (Int.ofNat i) (Int.ofNat 1) g1 (by show _ ≤ (i : Int) + 1 ∧ (i : Int) + 1 ≤ _; omega), aO, Bool.true_and]
    obtain ⟨r, g2, e2, u2, o⟩ := aBh (M := M) (F := F) hP hk ih m (i + 1) g1 (by omega) (by omega) (K.up u1) (hP _ _ u1 hp)
    simp only [iD] at e2
    rw [show (Int.ofNat i + Int.ofNat 1) = Int.ofNat (i + 1) from rfl]
    exact ⟨r, g2, e2, u1.trans u2, o⟩
  ·rw [show decide (Int.ofNat i < Int.ofNat ks.length) = false from decide_eq_false (fun w => c (Int.ofNat_lt.1 w))]
   simp only [bG]
   rw [List.drop_eq_nil_of_le (by omega)]
   exact ⟨Int.negSucc 0, h, rfl, Gw.refl h, rfl⟩
theorem cNm (hf : zJ 142 = false) (hf2 : zJ 163 = false) {N : Nat} {ks : List Lt} {s F : DV} {d : Int} {P : Hp → Prop} (hP : ∀ h g, Gw h g → P h → P g) (hk : ks.length < N) (hk2 : ks.length ≤ 1000)
  (ih : ∀ (t : Lt) (ds : List DV) (h : Hp), LV q h t ds → P h → t.sz ≤ dNf ks → ∃ g, gJ CF (cA N) F [.a ds] h = some (.b (!t.ok d), g) ∧ Gw h g) {h : Hp} (K : KS q h ks s) (hp : P h) :
  ∃ g, cA (N + 1 + 1) 142 [s, F] h = some (.b (!dOb d ks), g) ∧ Gw h g := by
 rw [qH 142 hf, bJs]
 show ∃ g, s142 (cA (N + 1)) (N + 1) s F h = _ ∧ _
 unfold s142
 rw [qH 163 hf2, bPn]
 show ∃ g, (bnd (s163 (cA N) N s F h) fun v1 h1 => _) = _ ∧ _
 unfold s163 aJs
 rw [LV.len K h, aO]
 obtain ⟨r, g, e, u, o⟩ := aBh (M := N) hP hk2 ih N 0 h (by omega) (by omega) K hp
 show ∃ g, (bnd (lY (cA N) N N s F (iD (Int.ofNat ks.length)) (iD (Int.ofNat 0)) h) fun v1 h1 => _) = _ ∧ _
 rw [e, aO]
 simp only [iD, iR, aO]
 rw [List.drop_zero] at o
 rw [o]
 exact ⟨g, rfl, u⟩
end
end Go.Dd

namespace Go.Dd
open Go.Proofs
theorem bEm {ds : List DV} (h1 : ds.length = 4) (h2 : ∀ v ∈ ds, v.one = true) (h : Hp) :
  bU (.a ds) h = some (.p h.next 0, ⟨h.next.succ, Tr.set (.row .ex ds) h.next h.bl⟩) ∧ aK 4 (.p h.next 0) ⟨h.next.succ, Tr.set (.row .ex ds) h.next h.bl⟩ = some (.a ds, ⟨h.next.succ, Tr.set (.row .ex ds) h.next h.bl⟩) := by
 refine ⟨rfl, ?_⟩
 have := bQq (r := []) h1 h2
 rw [List.append_nil] at this
 simp only [aK, cellsAt, rowOf, dNc, List.drop_zero, this, Option.map_some]
section
variable {rec : FuncId → List DV → Hp → aH} {N : Nat} {h : Hp} {b : Pos} {k n len d : Int} {tx : List Nat} {s : DV} {q : Pos → Prop}
theorem dJs (h141 : ∀ (a lo hi : Int) (h : Hp), rec 141 [iD a, iD lo, iD hi] h = some (.b (decide (lo ≤ a ∧ a ≤ hi)), h)) {ks : List Lt} (K : KS q h ks s) (h4 : k ≠ 4) :
  ∃ g, s144 rec N (.a [iD k, .s tx, iD n, s]) (iD d) h = some (.b (dNz k n tx ks.isEmpty), g) ∧ Gw h g := by
 unfold s144
 obtain ⟨h1, eh1⟩ : ∃ h1 : Hp, h1 = ⟨h.next.succ, Tr.set (.row .ex [iD k, .s tx, iD n, s]) h.next h.bl⟩ := ⟨_, rfl⟩
 have eb : bU (.a [iD k, .s tx, iD n, s]) h = some (.p h.next 0, h1) := by rw [eh1]; rfl
 have u0 : Gw h h1 := by rw [eh1]; exact Gw.new h _
 have hb : h.next.toNat < h1.next.toNat := by
  rw [eh1]
  have := dNd h.next
  show h.next.toNat < h.next.succ.toNat
  omega
 have B : B4 h1 h.next k n tx s := ⟨⟨.ex, by rw [eh1]; exact dNc _ _ _⟩, K.one⟩
 obtain ⟨h2, eh2⟩ : ∃ h2 : Hp, h2 = ⟨h1.next.succ, Tr.set (.row .ex [iD d]) h1.next h1.bl⟩ := ⟨_, rfl⟩
 have eb2 : bU (iD d) h1 = some (.p h1.next 0, h2) := by rw [eh2]; rfl
 have u1 : Gw h1 h2 := by rw [eh2]; exact Gw.new h1 _
 have B2 := B.gw u1 hb
 have hl := LV.len (K.up (u0.trans u1)) h2
 have hlen : (Int.ofNat ks.length == 0) = ks.isEmpty := by cases ks <;> rfl
 have l0 := B2.l0; have l1 := B2.l1; have l2 := B2.l2; have l3 := B2.l3
 refine ⟨h2, ?_, u0.trans u1⟩
 rw [eb, aO, eb2, aO]
 unfold dNz
 rw [← hlen]
 generalize Int.ofNat ks.length = len at hl
 simp only [iD] at l0 l2 hl h141 ⊢
 simp only [fR, aO, l0, cI]
 by_cases c1 : k = 1
 ·subst c1
  rw [if_pos rfl]
  simp only [show ((1 : Int) == Int.ofNat 1) = true from rfl, bN, fR, aO, l1, cZo, uJ]
  cases tx.isEmpty with
  | false => simp only [fE, iK, aO, bK, Bool.false_and]
  | true =>
   simp only [iG, fR, aO, l3, hl, cI, bQ, Bool.true_and, show (Int.ofNat 0) = (0 : Int) from rfl]
   cases (len == 0) with
   | false => simp only [fE, iK, aO, bK, Bool.false_and]
   | true =>
    simp only [iG, fR, aO, l2, h141, bQ, Bool.true_and]
    rfl
 ·rw [if_neg c1]
  simp only [show (k == Int.ofNat 1) = false from neI c1, bG]
  by_cases c2 : k = 2
  ·subst c2
   simp only [show ((2 : Int) == Int.ofNat 2) = true from rfl, bN, fR, aO, l2, cI, show (Int.ofNat 0) = (0 : Int) from rfl]
   by_cases c0 : n = 0
   ·subst c0
    rw [if_neg (by simp), if_pos trivial]
    simp only [show ((0 : Int) == 0) = true from rfl, iG, fR, aO, l3, hl, cI, bQ, show (Int.ofNat 0) = (0 : Int) from rfl]
    cases (len == 0) with
    | false => simp only [fE, iK, aO, bK, Bool.false_and]
    | true =>
     simp only [iG, fR, aO, l1, aLb, oW, bQ, Bool.true_and]
     by_cases c : tx.length ≤ 250
     ·rw [show decide ((tx.length : Int) ≤ Int.ofNat 250) = true from decide_eq_true (Int.ofNat_le.2 c), decide_eq_true c]
     ·rw [show decide ((tx.length : Int) ≤ Int.ofNat 250) = false from decide_eq_false (fun q => c (Int.ofNat_le.1 q)), decide_eq_false c]
   ·rw [if_pos c0]
    simp only [show (n == 0) = false from neI c0, fE, iK, aO, bK]
  ·simp only [show (k == Int.ofNat 2) = false from neI c2, bG, cI, aO]
   rw [if_neg c2]
   by_cases c3 : k = 3
   ·subst c3
    simp only [show ((3 : Int) == Int.ofNat 3) = true from rfl, bN, fR, aO, l2, cI, show (Int.ofNat 0) = (0 : Int) from rfl]
    by_cases c0 : n = 0
    ·subst c0
     rw [if_neg (by simp), if_pos trivial]
     simp only [show ((0 : Int) == 0) = true from rfl, iG, fR, aO, l3, hl, cI, bQ, show (Int.ofNat 0) = (0 : Int) from rfl]
     cases (len == 0) with
     | false => simp only [fE, iK, aO, bK, Bool.false_and]
     | true =>
      simp only [iG, fR, aO, l1, aLb, bQ, Bool.true_and, h141]
      by_cases c : 1 ≤ tx.length ∧ tx.length ≤ 60
      ·rw [decide_eq_true c, show decide (Int.ofNat 1 ≤ (tx.length : Int) ∧ (tx.length : Int) ≤ Int.ofNat 60) = true from decide_eq_true ⟨Int.ofNat_le.2 c.1, Int.ofNat_le.2 c.2⟩]
      ·rw [decide_eq_false c, show decide (Int.ofNat 1 ≤ (tx.length : Int) ∧ (tx.length : Int) ≤ Int.ofNat 60) = false from decide_eq_false (fun w => c ⟨Int.ofNat_le.1 w.1, Int.ofNat_le.1 w.2⟩)]
    ·rw [if_pos c0]
     simp only [show (n == 0) = false from neI c0, fE, iK, aO, bK]
   ·simp only [show (k == Int.ofNat 3) = false from neI c3, show (k == Int.ofNat 4) = false from neI h4, bG, cI, aO]
    rw [if_neg c3]
    split <;> rfl
end
end Go.Dd

namespace Go.Dd
open Go.Proofs
def B1 (p : Pos) (d : Int) (h : Hp) : Prop := h.bl.get p = some (.row .ex [iD d]) ∧ p.toNat < h.next.toNat
theorem B1.gw {p : Pos} {d : Int} (h g : Hp) (u : Gw h g) (B : B1 p d h) : B1 p d g := ⟨by rw [u.get p B.2]; exact B.1, Nat.lt_of_lt_of_le B.2 u.next⟩
section
variable {q : Pos → Prop}
theorem dDt (hf : zJ 164 = false) {N : Nat} {t : Lt} {ds : List DV} {d : Int} {p : Pos} {h : Hp} (H : LV q h t ds) (B : B1 p d h) (hr : -9000000 ≤ d ∧ d ≤ 9000000)
  (ih : ∀ h : Hp, LV q h t ds → ∃ g, cA N 144 [.a ds, iD (d - 1)] h = some (.b (t.ok (d - 1)), g) ∧ Gw h g) : ∃ g, cA (N + 1) 164 [.a ds, .p p 0] h = some (.b (!t.ok (d - 1)), g) ∧ Gw h g := by
 obtain ⟨s1, s2⟩ := H.shape
 obtain ⟨e1, e2⟩ := bEm s1 s2 h
 have u0 : Gw h ⟨h.next.succ, Tr.set (.row .ex ds) h.next h.bl⟩ := Gw.new h _
 generalize (⟨h.next.succ, Tr.set (.row .ex ds) h.next h.bl⟩ : Hp) = h1 at e1 e2 u0
 have Bq := B.gw h h1 u0
 obtain ⟨g, e3, u⟩ := ih h1 (H.up u0)
 rw [qH 164 hf, bXn]
 show ∃ g, s164 (cA N) N (.a ds) (.p p 0) h = _ ∧ _
 unfold s164
 rw [e1, aO, e2, aO, sY (i := 0) Bq.1 rfl rfl, aO]
 simp only [iD] at e3 ⊢
 rw [wL d (Int.ofNat 1) h1 (by show _ ≤ d - 1 ∧ d - 1 ≤ _; omega), aO, show d - Int.ofNat 1 = d - 1 from rfl, e3, aO, iM, aO]
 exact ⟨g, rfl, u0.trans u⟩
theorem cCk (hf : zJ 144 = false) (N : Nat) (args : List DV) (h : Hp) : cA (N + 1) 144 args h = s144 (cA N) N (args.getD 0 aU) (args.getD 1 aU) h := (qH 144 hf N args h).trans (bQr (cA N) N args h)
theorem cNx : ∀ (N : Nat) (t : Lt) (d : Int) (ds : List DV) (h : Hp), (-1000000 + (N : Int) ≤ d ∧ d ≤ 1000000) → LV q h t ds → 4 * t.sz < N → N ≤ 900 → ∃ g, cA N 144 [.a ds, iD d] h = some (.b (t.ok d), g) ∧ Gw h g
 | 0, t, d, ds, h, hd, H, hN, hN2 => by omega
 | 1, t, d, ds, h, hd, H, hN, hN2 => by have := t.sz_pos; omega
 | 2, t, d, ds, h, hd, H, hN, hN2 => by have := t.sz_pos; omega
 | 3, t, d, ds, h, hd, H, hN, hN2 => by have := t.sz_pos; omega
 | N + 4, .mk k n tx ks, d, ds, h, hd, H, hN, hN2 => by
  rw [cCk rfl]
  unfold LV at H
  obtain ⟨s, rfl, K⟩ := H
  have K : KS q h ks s := K
  show ∃ g, s144 (cA (N + 3)) (N + 3) (.a [iD k, .s tx, iD n, s]) (iD d) h = _ ∧ _
  unfold Lt.ok
  by_cases h4 : k = 4
  ·subst h4
   rw [if_pos rfl]
   have hsz : 4 * dNf ks < N := by unfold Lt.sz at hN; omega
   have hkl := jR ks
   unfold s144
   obtain ⟨h1, eh1⟩ : ∃ h1 : Hp, h1 = ⟨h.next.succ, Tr.set (.row .ex [iD 4, .s tx, iD n, s]) h.next h.bl⟩ := ⟨_, rfl⟩
   have eb : bU (.a [iD 4, .s tx, iD n, s]) h = some (.p h.next 0, h1) := by rw [eh1]; rfl
   have u0 : Gw h h1 := by rw [eh1]; exact Gw.new h _
   have hb : h.next.toNat < h1.next.toNat := by
    rw [eh1]
    have := dNd h.next
    show h.next.toNat < h.next.succ.toNat
    omega
   have B : B4 h1 h.next 4 n tx s := ⟨⟨.ex, by rw [eh1]; exact dNc _ _ _⟩, K.one⟩
   obtain ⟨h2, eh2⟩ : ∃ h2 : Hp, h2 = ⟨h1.next.succ, Tr.set (.row .ex [iD d]) h1.next h1.bl⟩ := ⟨_, rfl⟩
   have eb2 : bU (iD d) h1 = some (.p h1.next 0, h2) := by rw [eh2]; rfl
   have u1 : Gw h1 h2 := by rw [eh2]; exact Gw.new h1 _
   have BD : B1 h1.next d h2 := ⟨by rw [eh2]; exact dNc _ _ _, by
    rw [eh2]
    have := dNd h1.next
    show h1.next.toNat < h1.next.succ.toNat
    omega⟩
   have B2 := B.gw u1 hb
   have hb2 : h.next.toNat < h2.next.toNat := Nat.lt_of_lt_of_le hb u1.next
   have K2 := K.up (u0.trans u1)
   obtain ⟨g, e142, u2⟩ := cNm (q := q) rfl rfl (N := N + 1) (ks := ks) (s := s) (F := .f 164 [] [.p h1.next 0]) (d := d - 1) (P := B1 h1.next d) B1.gw (by omega) (by omega) (fun t ds h' H' B' hs => by
    rw [cKm]
    exact dDt rfl H' B' (by omega) (fun h'' H'' => cNx N t (d - 1) ds h'' (by omega) H'' (by omega) (by omega))) K2 BD
   have B3 := B2.gw u2 hb2
   have BD3 := BD.gw h2 g u2
   have hl := LV.len (K2.up u2) g
   have l0 := B2.l0; have l3 := B2.l3
   have m1 := B3.l1; have m2 := B3.l2; have m3 := B3.l3
   have md : aA (.p h1.next 0) g = some (iD d, g) := sY (i := 0) BD3.1 rfl rfl
   rw [eb, aO, eb2, aO]
   simp only [iD] at l0 m2 hl md ⊢
   simp only [fR, aO, l0, cI, show ((4 : Int) == Int.ofNat 1) = false from rfl, show ((4 : Int) == Int.ofNat 2) = false from rfl, show ((4 : Int) == Int.ofNat 3) = false from rfl, show ((4 : Int) == Int.ofNat 4) = true from rfl, bG, bN, l3, e142, m2, show (Int.ofNat 0) = (0 : Int) from rfl]
   refine ⟨g, ?_, (u0.trans u1).trans u2⟩
   by_cases c0 : n = 0
   ·subst c0
    rw [show decide ((0 : Int) = 0) = true from rfl]
    simp only [show ((0 : Int) == 0) = true from rfl, iG, fR, aO, m1, cZo, uJ, bQ, Bool.true_and]
    cases tx.isEmpty with
    | false => simp only [fE, iK, aO, bK, Bool.false_and]
    | true =>
     simp only [iG, aO, md, gA, bQ, Bool.true_and, show (Int.ofNat 0) = (0 : Int) from rfl]
     by_cases cd : 0 < d
     ·rw [show decide (d > 0) = true from decide_eq_true cd]
      simp only [iG, fR, aO, m3, hl, oW, bQ, Bool.true_and]
      by_cases c5 : ks.length ≤ 250
      ·rw [show decide (Int.ofNat ks.length ≤ Int.ofNat 250) = true from decide_eq_true (Int.ofNat_le.2 c5), decide_eq_true c5]
       simp only [iG, aO, iM, bQ, Bool.not_not, Bool.true_and]
      ·rw [show decide (Int.ofNat ks.length ≤ Int.ofNat 250) = false from decide_eq_false (fun w => c5 (Int.ofNat_le.1 w)), decide_eq_false c5]
       simp only [fE, iK, aO, bK, Bool.false_and]
     ·rw [show decide (d > 0) = false from decide_eq_false cd]
      simp only [fE, iK, aO, bK, Bool.false_and]
   ·simp only [show (n == 0) = false from neI c0, fE, iK, aO, bK, decide_eq_false c0, Bool.false_and]
  ·rw [if_neg h4]
   exact dJs (fun a lo hi h => dCt rfl (N + 2) a lo hi h) K h4
theorem bXm {N : Nat} {t : Lt} {ds : List DV} {h : Hp} {b : Pos} (H : LV q h t ds) (hq : q b) (hb : ∃ kd, h.bl.get b = some (.row kd ds)) (hbn : b.toNat < h.next.toNat) (hN : 4 * t.sz < N) (hN2 : N ≤ 896) :
  ∃ g, cA (N + 4) 142 [.l b 0 1 1, .f 143 [] []] h = some (.b (!t.ok 20), g) ∧ Gw h g := by
 have K : KS q h [t] (.l b 0 1 1) := .inr ⟨b, ds, 1, rfl, ⟨hb, hq, hbn⟩, by
  unfold LVL
  exact ⟨ds, [], by simp, H, by unfold LVL; trivial⟩⟩
 have := t.sz_pos
 obtain ⟨g, e, u⟩ := cNm (q := q) rfl rfl (N := N + 2) (ks := [t]) (s := .l b 0 1 1) (F := .f 143 [] []) (d := 20) (P := fun _ => True) (fun _ _ _ _ => trivial) (by simp) (by simp) (fun t' ds' h' H' _ hs => by
  have hs' : 4 * t'.sz < N := by
   simp only [dNf] at hs
   omega
  rw [cJu, qH 143 rfl, bKt]
  obtain ⟨s1, s2⟩ := H'.shape
  obtain ⟨e1, e2⟩ := bEm s1 s2 h'
  have u0 : Gw h' ⟨h'.next.succ, Tr.set (.row .ex ds') h'.next h'.bl⟩ := Gw.new h' _
  generalize (⟨h'.next.succ, Tr.set (.row .ex ds') h'.next h'.bl⟩ : Hp) = h1 at e1 e2 u0
  obtain ⟨g, e3, u⟩ := cNx (q := q) (N + 1) t' 20 ds' h1 (by omega) (H'.up u0) (by omega) (by omega)
  show ∃ g, s143 (cA (N + 1)) (N + 1) (.a ds') h' = _ ∧ _
  unfold s143
  simp only [iD] at e3
  rw [e1, aO, e2, aO, show aG 20 = DV.i IntKind.i64 20 from rfl, e3, aO, iM, aO]
  exact ⟨g, rfl, u0.trans u⟩) K trivial
 refine ⟨g, ?_, u⟩
 rw [e]
 simp only [dOb, Bool.and_true]
end
end Go.Dd

namespace Go.Dd
open Go.Proofs
inductive PN (q : Pos → Prop) (h : Hp) : Nat → List DV → Prop
 | full (most len cap : Nat) (k n : Int) (tx : List Nat) (b : Pos) (row : List DV) (ts : List Lt) : Qn q h b row → LVL q h ts row → ts.length < len → 1 + dNf ts = most → PN q h most [iD k, .s tx, iD n, .l b 0 len cap]
 | deep (most len cap : Nat) (k n : Int) (tx : List Nat) (b : Pos) (row : List DV) (ts : List Lt) (c : List DV) : Qn q h b row → LVL q h ts row → ts.length < len → 1 + dNf ts < most →
   gR 4 (row.drop (ts.length * 4)) = some c → PN q h (most - (1 + dNf ts)) c → PN q h most [iD k, .s tx, iD n, .l b 0 len cap]
theorem PN.up {q : Pos → Prop} {h h' : Hp} (u : Gw h h') {most : Nat} {ds : List DV} (H : PN q h most ds) : PN q h' most ds := by
 have qn : ∀ {b row}, Qn q h b row → Qn q h' b row := fun ⟨⟨kd, e⟩, e2, e3⟩ => ⟨⟨kd, by rw [u.get _ e3]; exact e⟩, e2, Nat.lt_of_lt_of_le e3 u.next⟩
 induction H with
 | full most len cap k n tx b row ts a b' c d => exact .full most len cap k n tx b row ts (qn a) (b'.up u) c d
 | deep most len cap k n tx b row ts c a b' c' d e f ih => exact .deep most len cap k n tx b row ts c (qn a) (b'.up u) c' d e ih
section
variable {q : Pos → Prop} {M : Nat} {rec : FuncId → List DV → Hp → aH} {k n : Int} {tx : List Nat} {p : Pos}
theorem aKl {ks : List Lt} {i : Nat} {t : Lt} (e : ks[i]? = some t) : dNf (ks.drop i) = t.sz + dNf (ks.drop (i + 1)) := by
 obtain ⟨hi, rfl⟩ := List.getElem?_eq_some_iff.1 e
 rw [List.drop_eq_getElem_cons hi, dNf]
theorem qM {ts : List Lt} {len cap most : Nat} {b : Pos} {row : List DV} (hm : most < 1000) (hlen : ts.length ≤ len) (hl2 : ts.length ≤ 1000)
  (ih : ∀ (t : Lt) (ds : List DV) (h : Hp) (mo : Nat), LV q h t ds → t.sz ≤ dNf ts → t.sz ≤ mo → mo < most → ∃ g, rec 24 [.a ds, iD (Int.ofNat mo)] h = some (iD (Int.ofNat t.sz), g) ∧ Gw h g) :
  ∀ (j i c m : Nat) (h : Hp), i + j = ts.length → 1 ≤ c → c + dNf (ts.drop i) ≤ most → B4 h p k n tx (.l b 0 len cap) → p.toNat < h.next.toNat → Qn q h b row → LVL q h ts row →
   ∃ g, fA rec M (m + j) (iD (Int.ofNat most)) (.p p 0) (iD (Int.ofNat c)) (iD (Int.ofNat i)) h = fA rec M m (iD (Int.ofNat most)) (.p p 0) (iD (Int.ofNat (c + dNf (ts.drop i)))) (iD (Int.ofNat ts.length)) g ∧ Gw h g
 | 0, i, c, m, h, hi, hc, hs, B, hp, Q, K => by
  have : i = ts.length := by omega
  subst this
  rw [List.drop_eq_nil_of_le (Nat.le_refl _)]
  exact ⟨h, rfl, Gw.refl h⟩
 | j + 1, i, c, m, h, hi, hc, hs, B, hp, Q, K => by
  show ∃ g, kA rec M (fA rec M (m + j)) (iD (Int.ofNat most)) (.p p 0) (iD (Int.ofNat c)) (iD (Int.ofNat i)) h = _ ∧ _
  obtain ⟨t, et⟩ : ∃ t, ts[i]? = some t := ⟨ts[i]'(by omega), by simp [show i < ts.length by omega]⟩
  rw [aKl et] at hs ⊢
  have hsz := t.sz_pos
  obtain ⟨cs, p1, p2⟩ := K.at i t et
  obtain ⟨⟨kd, g1⟩, _, _⟩ := id Q
  have l3 := B.l3
  have pa : aE 4 (.l b 0 len cap) (iD (Int.ofNat i)) h = some (.p b (0 + i * 4), h) := by
   simp only [aE, iD]
   rw [if_pos (by constructor <;> simp <;> omega)]
   rfl
  have pl : aK 4 (.p b (0 + i * 4)) h = some (.a cs, h) := by simp only [aK, cellsAt, rowOf, g1, Nat.zero_add, p1, Option.map_some]
  have plen : cB (.l b 0 len cap) h = some (.i .i64 (Int.ofNat len), h) := rfl
  obtain ⟨g, e1, u1⟩ := ih t cs h (most - c) p2 (pR et) (by omega) (by omega)
  unfold kA
  simp only [iD] at pa e1 ⊢
  simp only [fR, aO, l3, plen, cG]
  rw [show decide (Int.ofNat i < Int.ofNat len) = true from decide_eq_true (Int.ofNat_lt.2 (by omega))]
  simp only [bN, iR, aO]
  rw [show decide (Int.ofNat c ≥ Int.ofNat most) = false from decide_eq_false (by show ¬ ((c : Int) ≥ (most : Int)); omega)]
  simp only [bG, fR, aO, l3, pa, pl, wL (Int.ofNat most) (Int.ofNat c) h (by show _ ≤ (most : Int) - (c : Int) ∧ (most : Int) - (c : Int) ≤ _; omega)]
  rw [show (Int.ofNat most - Int.ofNat c) = Int.ofNat (most - c) by show (most : Int) - (c : Int) = ((most - c : Nat) : Int); omega, e1, aO]
  simp only [cG, aO, show decide (Int.ofNat t.sz < Int.ofNat 0) = false from decide_eq_false (by show ¬ ((t.sz : Int) < 0); omega), bG]
  simp only [fZ (Int.ofNat c) (Int.ofNat t.sz) g (by show _ ≤ (c : Int) + (t.sz : Int) ∧ (c : Int) + (t.sz : Int) ≤ _; omega), aO, fZ (Int.ofNat i) (Int.ofNat 1) g (by show _ ≤ (i : Int) + 1 ∧ (i : Int) + 1 ≤ _; omega)]
  obtain ⟨g2, e2, u2⟩ := qM hm hlen hl2 ih j (i + 1) (c + t.sz) m g (by omega) (by omega) (by omega) (B.gw u1 hp) (Nat.lt_of_lt_of_le hp u1.next) (by
   obtain ⟨⟨kd', w1⟩, w2, w3⟩ := Q
   exact ⟨⟨kd', by rw [u1.get _ w3]; exact w1⟩, w2, Nat.lt_of_lt_of_le w3 u1.next⟩) (K.up u1)
  refine ⟨g2, ?_, u1.trans u2⟩
  rw [show c + (t.sz + dNf (ts.drop (i + 1))) = c + t.sz + dNf (ts.drop (i + 1)) by omega]
  exact e2
end
end Go.Dd

namespace Go.Dd
open Go.Proofs
section
variable {q : Pos → Prop}
theorem bPv (hf : zJ 24 = false) (N : Nat) (args : List DV) (h : Hp) : cA (N + 1) 24 args h = s24 (cA N) N (args.getD 0 aU) (args.getD 1 aU) h := (qH 24 hf N args h).trans (cMo (cA N) N args h)
theorem rB {rec : FuncId → List DV → Hp → aH} {M : Nat} {k n : Int} {tx : List Nat} {s : DV} (hs : s.one = true) (most : Nat) (h : Hp) :
  ∃ h1, s24 rec M (.a [iD k, .s tx, iD n, s]) (iD (Int.ofNat most)) h = fA rec M M (iD (Int.ofNat most)) (.p h.next 0) (iD (Int.ofNat 1)) (iD (Int.ofNat 0)) h1 ∧ Gw h h1 ∧ B4 h1 h.next k n tx s ∧ h.next.toNat < h1.next.toNat := by
 refine ⟨⟨h.next.succ, Tr.set (.row .ex [iD k, .s tx, iD n, s]) h.next h.bl⟩, rfl, Gw.new h _, ⟨⟨.ex, dNc _ _ _⟩, hs⟩, ?_⟩
 have := dNd h.next
 show h.next.toNat < h.next.succ.toNat
 omega
theorem aVd {rec : FuncId → List DV → Hp → aH} {M m len cap most c : Nat} {p b : Pos} {k n : Int} {tx : List Nat} {s : DV} {h : Hp} (B : B4 h p k n tx s) (hl : cB s h = some (iD (Int.ofNat len), h)) (hc : c ≤ most) :
  fA rec M (m + 1) (iD (Int.ofNat most)) (.p p 0) (iD (Int.ofNat c)) (iD (Int.ofNat len)) h = some (iD (Int.ofNat c), h) := by
 show kA rec M (fA rec M m) (iD (Int.ofNat most)) (.p p 0) (iD (Int.ofNat c)) (iD (Int.ofNat len)) h = _
 have l3 := B.l3
 unfold kA
 simp only [iD] at hl ⊢
 simp only [fR, aO, l3, hl, cG]
 rw [show decide (Int.ofNat len < Int.ofNat len) = false from decide_eq_false (by omega)]
 simp only [bG]
 unfold gS
 simp only [gA, aO]
 rw [show decide (Int.ofNat c > Int.ofNat most) = false from decide_eq_false (by show ¬ ((c : Int) > (most : Int)); omega)]
 rfl
theorem dAg : ∀ (N : Nat) (t : Lt) (most : Nat) (ds : List DV) (h : Hp), LV q h t ds → t.sz ≤ most → most < 100 → t.sz + 1 < N → N ≤ 900 → ∃ g, cA N 24 [.a ds, iD (Int.ofNat most)] h = some (iD (Int.ofNat t.sz), g) ∧ Gw h g
 | 0, t, most, ds, h, H, h1, h2, h3, h4 => by omega
 | N + 1, .mk k n tx ks, most, ds, h, H, h1, h2, h3, h4 => by
  rw [bPv rfl]
  unfold LV at H
  obtain ⟨s, rfl, K⟩ := H
  have K : KS q h ks s := K
  have hsz : dNf ks + 1 = (Lt.mk k n tx ks).sz := by unfold Lt.sz; omega
  have hkl := jR ks
  obtain ⟨h1', e1, u1, B, hb⟩ := rB (rec := cA N) (M := N) (k := k) (n := n) (tx := tx) K.one most h
  show ∃ g, s24 (cA N) N (.a [iD k, .s tx, iD n, s]) (iD (Int.ofNat most)) h = _ ∧ _
  rw [e1]
  have K1 := K.up u1
  have ih : ∀ (t : Lt) (ds : List DV) (h : Hp) (mo : Nat), LV q h t ds → t.sz ≤ dNf ks → t.sz ≤ mo → mo < most → ∃ g, cA N 24 [.a ds, iD (Int.ofNat mo)] h = some (iD (Int.ofNat t.sz), g) ∧ Gw h g := fun t ds h' mo H' a b c => dAg N t mo ds h' H' b (by omega) (by omega) (by omega)
  rcases id K1 with ⟨rfl, rfl⟩ | ⟨b, row, cap, rfl, Q, L⟩
  ·obtain ⟨m, rfl⟩ : ∃ m, N = m + 1 := ⟨N - 1, by omega⟩
   have e2 := aVd (rec := cA (m + 1)) (M := m + 1) (m := m) (cap := 0) (b := h.next) (len := 0) (most := most) (c := 1) B rfl (by omega)
   refine ⟨h1', ?_, u1⟩
   rw [e2, ← hsz]
   rfl
  ·obtain ⟨m, hm⟩ : ∃ m, N = (m + 1) + ks.length := ⟨N - 1 - ks.length, by omega⟩
   by_cases big : ks.length ≤ 1000
   ·obtain ⟨g, e2, u2⟩ := qM (q := q) (M := N) (rec := cA N) (ts := ks) (len := ks.length) (cap := cap) (most := most) (b := b) (row := row) (k := k) (n := n) (tx := tx) (p := h.next) (by omega) (Nat.le_refl _) big ih ks.length 0 1 (m + 1) h1' (by omega) (by omega) (by rw [List.drop_zero]; omega) B hb Q L
    rw [List.drop_zero] at e2
    have e3 := aVd (rec := cA N) (M := N) (m := m) (cap := 0) (b := h.next) (len := ks.length) (most := most) (c := 1 + dNf ks) (B.gw u2 hb) (rfl : cB (.l b 0 ks.length cap) g = _) (by omega)
    refine ⟨g, ?_, u1.trans u2⟩
    have : fA (cA N) N N (iD (Int.ofNat most)) (.p h.next 0) (iD (Int.ofNat 1)) (iD (Int.ofNat 0)) h1' = fA (cA N) N (m + 1 + ks.length) (iD (Int.ofNat most)) (.p h.next 0) (iD (Int.ofNat 1)) (iD (Int.ofNat 0)) h1' := by rw [← hm]
    rw [this, e2, e3, ← hsz, Nat.add_comm]
   ·omega
end
end Go.Dd

namespace Go.Dd
open Go.Proofs
section
variable {q : Pos → Prop}
theorem PN.shape {h : Hp} {most : Nat} {ds : List DV} (H : PN q h most ds) : ds.length = 4 ∧ ∀ v ∈ ds, v.one = true := by
 have key : ∀ (k n : Int) (tx : List Nat) (b : Pos) (len cap : Nat), ([iD k, .s tx, iD n, .l b 0 len cap] : List DV).length = 4 ∧ ∀ v ∈ ([iD k, .s tx, iD n, .l b 0 len cap] : List DV), v.one = true := fun k n tx b len cap => by
  refine ⟨rfl, fun v hv => ?_⟩
  simp only [List.mem_cons, List.not_mem_nil, or_false] at hv
  rcases hv with rfl | rfl | rfl | rfl <;> rfl
 cases H <;> exact key _ _ _ _ _ _
theorem n24 : ∀ (N : Nat) (most : Nat) (ds : List DV) (h : Hp), PN q h most ds → most < 100 → most + 1 < N → N ≤ 900 → ∃ g, cA N 24 [.a ds, iD (Int.ofNat most)] h = some (iD (Int.negSucc 0), g) ∧ Gw h g
 | 0, most, ds, h, H, h2, h3, h4 => by omega
 | N + 1, most, ds, h, H, h2, h3, h4 => by
  rw [bPv rfl]
  have kids : ∀ {ts : List Lt}, 1 + dNf ts ≤ most → ∀ (t : Lt) (ds : List DV) (h : Hp) (mo : Nat), LV q h t ds → t.sz ≤ dNf ts → t.sz ≤ mo → mo < most → ∃ g, cA N 24 [.a ds, iD (Int.ofNat mo)] h = some (iD (Int.ofNat t.sz), g) ∧ Gw h g := fun hs t ds' h' mo H' a b c => dAg N t mo ds' h' H' b (by omega) (by omega) (by omega)
  cases H with
  | full _ len cap k n tx b row ts Q L hlt he =>
   have hkl := jR ts
   obtain ⟨h1', e1, u1, B, hb⟩ := rB (rec := cA N) (M := N) (k := k) (n := n) (tx := tx) (s := .l b 0 len cap) rfl most h
   show ∃ g, s24 (cA N) N (.a [iD k, .s tx, iD n, .l b 0 len cap]) (iD (Int.ofNat most)) h = _ ∧ _
   rw [e1]
   obtain ⟨m, hm⟩ : ∃ m, N = (m + 1) + ts.length := ⟨N - 1 - ts.length, by omega⟩
   have Q1 : Qn q h1' b row := by
    obtain ⟨⟨kd, w1⟩, w2, w3⟩ := Q
    exact ⟨⟨kd, by rw [u1.get _ w3]; exact w1⟩, w2, Nat.lt_of_lt_of_le w3 u1.next⟩
   obtain ⟨g, e2, u2⟩ := qM (q := q) (M := N) (rec := cA N) (ts := ts) (len := len) (cap := cap) (most := most) (b := b) (row := row) (k := k) (n := n) (tx := tx) (p := h.next) (by omega) (by omega) (by omega) (kids (by omega)) ts.length 0 1 (m + 1) h1' (by omega) (by omega) (by rw [List.drop_zero]; omega) B hb Q1 (L.up u1)
   rw [List.drop_zero] at e2
   refine ⟨g, ?_, u1.trans u2⟩
   have : fA (cA N) N N (iD (Int.ofNat most)) (.p h.next 0) (iD (Int.ofNat 1)) (iD (Int.ofNat 0)) h1' = fA (cA N) N (m + 1 + ts.length) (iD (Int.ofNat most)) (.p h.next 0) (iD (Int.ofNat 1)) (iD (Int.ofNat 0)) h1' := by rw [← hm]
   rw [this, e2]
   show kA (cA N) N (fA (cA N) N m) (iD (Int.ofNat most)) (.p h.next 0) (iD (Int.ofNat (1 + dNf ts))) (iD (Int.ofNat ts.length)) g = _
   have l3 := (B.gw u2 hb).l3
   unfold kA
   simp only [iD]
   simp only [fR, aO, l3, show cB (.l b 0 len cap) g = some (.i .i64 (Int.ofNat len), g) from rfl, cG]
   rw [show decide (Int.ofNat ts.length < Int.ofNat len) = true from decide_eq_true (Int.ofNat_lt.2 hlt)]
   simp only [bN, iR, aO]
   rw [show decide (Int.ofNat (1 + dNf ts) ≥ Int.ofNat most) = true from decide_eq_true (by show ((1 + dNf ts : Nat) : Int) ≥ (most : Int); omega)]
   simp only [bN]
  | deep _ len cap k n tx b row ts c Q L hlt he hc hd =>
   have hkl := jR ts
   obtain ⟨h1', e1, u1, B, hb⟩ := rB (rec := cA N) (M := N) (k := k) (n := n) (tx := tx) (s := .l b 0 len cap) rfl most h
   show ∃ g, s24 (cA N) N (.a [iD k, .s tx, iD n, .l b 0 len cap]) (iD (Int.ofNat most)) h = _ ∧ _
   rw [e1]
   obtain ⟨m, hm⟩ : ∃ m, N = (m + 1) + ts.length := ⟨N - 1 - ts.length, by omega⟩
   have Q1 : Qn q h1' b row := by
    obtain ⟨⟨kd, w1⟩, w2, w3⟩ := Q
    exact ⟨⟨kd, by rw [u1.get _ w3]; exact w1⟩, w2, Nat.lt_of_lt_of_le w3 u1.next⟩
   obtain ⟨g, e2, u2⟩ := qM (q := q) (M := N) (rec := cA N) (ts := ts) (len := len) (cap := cap) (most := most) (b := b) (row := row) (k := k) (n := n) (tx := tx) (p := h.next) (by omega) (by omega) (by omega) (kids (by omega)) ts.length 0 1 (m + 1) h1' (by omega) (by omega) (by rw [List.drop_zero]; omega) B hb Q1 (L.up u1)
   rw [List.drop_zero] at e2
   have : fA (cA N) N N (iD (Int.ofNat most)) (.p h.next 0) (iD (Int.ofNat 1)) (iD (Int.ofNat 0)) h1' = fA (cA N) N (m + 1 + ts.length) (iD (Int.ofNat most)) (.p h.next 0) (iD (Int.ofNat 1)) (iD (Int.ofNat 0)) h1' := by rw [← hm]
   rw [this, e2]
   suffices hh : ∃ g3, kA (cA N) N (fA (cA N) N m) (iD (Int.ofNat most)) (.p h.next 0) (iD (Int.ofNat (1 + dNf ts))) (iD (Int.ofNat ts.length)) g = some (iD (Int.negSucc 0), g3) ∧ Gw g g3 from by
    obtain ⟨g3, a1, a2⟩ := hh
    exact ⟨g3, a1, (u1.trans u2).trans a2⟩
   show ∃ g3, kA (cA N) N (fA (cA N) N m) (iD (Int.ofNat most)) (.p h.next 0) (iD (Int.ofNat (1 + dNf ts))) (iD (Int.ofNat ts.length)) g = _ ∧ _
   have l3 := (B.gw u2 hb).l3
   unfold kA
   simp only [iD]
   simp only [fR, aO, l3, show cB (.l b 0 len cap) g = some (.i .i64 (Int.ofNat len), g) from rfl, cG]
   rw [show decide (Int.ofNat ts.length < Int.ofNat len) = true from decide_eq_true (Int.ofNat_lt.2 hlt)]
   simp only [bN, iR, aO]
   rw [show decide (Int.ofNat (1 + dNf ts) ≥ Int.ofNat most) = false from decide_eq_false (by show ¬ (((1 + dNf ts : Nat) : Int) ≥ (most : Int)); omega)]
   have pa : aE 4 (.l b 0 len cap) (.i .i64 (Int.ofNat ts.length)) g = some (.p b (0 + ts.length * 4), g) := by
    simp only [aE]
    rw [if_pos (by constructor <;> simp <;> omega)]
    rfl
   obtain ⟨⟨kd, w1⟩, w2, w3⟩ := id Q1
   have pl : aK 4 (.p b (0 + ts.length * 4)) g = some (.a c, g) := by simp only [aK, cellsAt, rowOf, u2.get _ w3, w1, Nat.zero_add, hc, Option.map_some]
   simp only [bG, fR, aO, l3, pa, pl, wL (Int.ofNat most) (Int.ofNat (1 + dNf ts)) g (by show _ ≤ (most : Int) - ((1 + dNf ts : Nat) : Int) ∧ (most : Int) - ((1 + dNf ts : Nat) : Int) ≤ _; omega)]
   obtain ⟨g3, e4, u3⟩ := n24 N (most - (1 + dNf ts)) c g (hd.up (u1.trans u2)) (by omega) (by omega) (by omega)
   simp only [iD] at e4
   rw [show (Int.ofNat most - Int.ofNat (1 + dNf ts)) = Int.ofNat (most - (1 + dNf ts)) by show (most : Int) - ((1 + dNf ts : Nat) : Int) = ((most - (1 + dNf ts) : Nat) : Int); omega, e4, aO]
   simp only [cG, aO, show decide (Int.negSucc 0 < Int.ofNat 0) = true from rfl, bN]
   exact ⟨g3, rfl, u3⟩
end
end Go.Dd

namespace Go.Dd
open Go.Proofs Go.RowKit
theorem bIm {w : World} {base n : Nat} {a : Addr} {cs : List Value} (h : w.cells? base a n = some cs) : cs.length = n ∧ ∀ j, j < n → w.cell? (a.add j) = cs[j]? := by
 unfold World.cells? at h
 split at h
 ·exact ⟨by simpa using mapM_some_length h, fun j hj => mapM_some_get h j j (by simp [hj])⟩
 ·cases h
theorem Ro.addGw {w : World} {ρ : cM} {h : Hp} (R : Ro w ρ h) (l : List DV) (hn : h.next.toNat < 1024) : Gw h ⟨h.next.succ, Tr.set (.row .ro l) h.next h.bl⟩ ∧ Qn (fun p => p.toNat < 1024) ⟨h.next.succ, Tr.set (.row .ro l) h.next h.bl⟩ h.next l := by
 have ns := dNd h.next
 exact ⟨Gw.new h _, ⟨.ro, dNc _ _ _⟩, hn, by show _ < h.next.succ.toNat; omega⟩
theorem bNr : Tryz.prog.cellsOf 58 = 4 := by kernel_rfl
theorem cCh : Tryz.prog.cellsOf 3 = 1 := by kernel_rfl
theorem cAd : Tryz.prog.cellsOf 9 = 1 := by kernel_rfl
theorem bYi : Tryz.prog.cellsOf 56 = 1 := by kernel_rfl
section
variable {H : Type} {enc : TypeId × Value → H} {w : World}
theorem bOd {n : Nat} {cs : List Value} {x : DataW H × List MemPlace} (h : DataW.trod enc Tryz.prog w 0 (fun _ => true) true n 58 cs = some x) :
  ∃ (kd N : Int) (s : ByteArray) (v : Value) (m : Nat) (y : DataW H × List MemPlace), cs = [.int .i64 kd, .string s, .int .i64 N, v] ∧ (Lit.int .i64 kd).wf = true ∧ (Lit.int .i64 N).wf = true ∧ DataW.trod enc Tryz.prog w 0 (fun _ => true) true m 56 [v] = some y := by
 obtain ⟨xs, m, e0, _, hl, hxl, hf⟩ := DataW.trod_struct Tryz.underlying58 h
 rw [bNr] at hl
 obtain ⟨v0, v1, v2, v3, rfl⟩ : ∃ v0 v1 v2 v3, cs = [v0, v1, v2, v3] := by
  match cs, hl with
  | [v0, v1, v2, v3], _ => exact ⟨_, _, _, _, rfl⟩
 have hxl : xs.length = 4 := hxl
 have some : ∀ i, i < 4 → ∃ y, xs[i]? = some y := fun i hi => ⟨xs[i]'(by rw [hxl]; exact hi), by simp⟩
 obtain ⟨y0, g0⟩ := some 0 (by omega)
 obtain ⟨y1, g1⟩ := some 1 (by omega)
 obtain ⟨y2, g2⟩ := some 2 (by omega)
 obtain ⟨y3, g3⟩ := some 3 (by omega)
 have f0 := hf 0 _ rfl
 have f1 := hf 1 _ rfl
 have f2 := hf 2 _ rfl
 have f3 := hf 3 _ rfl
 simp only [cCh, cAd, bYi, List.drop_zero, List.drop_succ_cons, List.take_succ_cons, List.take_zero, g0, g1, g2, g3] at f0 f1 f2 f3
 obtain ⟨k, e0, _, w0⟩ := DataW.trod_int Tryz.underlying3 f0
 obtain ⟨t, e1, _⟩ := DataW.trod_string Tryz.underlying9 f1
 obtain ⟨nn, e2, _, w2⟩ := DataW.trod_int Tryz.underlying3 f2
 cases e0; cases e1; cases e2
 exact ⟨k, nn, t, v3, _, _, rfl, w0, w2, f3⟩
end
end Go.Dd

namespace Go.Dd
open Go.Proofs Go.RowKit
def Lw (p : Pos) : Prop := p.toNat < 1024
def Opn (h h' : Hp) (most : Nat) (ds : List DV) : Prop :=
 (∃ t, LV Lw h' t ds ∧ t.sz ≤ most ∧ h'.next.toNat ≤ h.next.toNat + t.sz) ∨ (PN Lw h' most ds ∧ h'.next.toNat ≤ h.next.toNat + most)
def AO (h : Hp) : Prop := ∀ b kd l, h.bl.get b = some (.row kd l) → ∀ v ∈ l, v.one = true ∧ gV 1024 v = true
section
variable {w : World}
theorem aBe {L : Loc} {len most : Nat}
  (ih : ∀ c, c < len → ∀ {ρ : cM} {h : Hp}, Ro w ρ h ∧ AO h → ∀ mo, 1 ≤ mo → mo < most → h.next.toNat + mo ≤ 1000 →
   ∃ ρ' h' ds, (Ro w ρ' h' ∧ AO h' ∧ ∀ v ∈ ds, gV 1024 v = true) ∧ Gw h h' ∧ Ext ρ ρ' ∧ (ds.length = 4 ∧ ∀ v ∈ ds, v.one = true) ∧ (∀ p v, ds[p]? = some v → ∃ v', w.cell? (fF L (c * 4 + p)) = some v' ∧ VR ρ' v v') ∧ Opn h h' mo ds) :
  ∀ (m i left : Nat), left ≤ m → left < most → i ≤ len → ∀ {ρ : cM} {h : Hp}, Ro w ρ h ∧ AO h → h.next.toNat + left ≤ 1000 →
   ∃ ρ' h' rows ts, (Ro w ρ' h' ∧ AO h' ∧ ∀ v ∈ rows, v.one = true ∧ gV 1024 v = true) ∧ Gw h h' ∧ Ext ρ ρ' ∧ (∀ p v, rows[p]? = some v → ∃ v', w.cell? (fF L (i * 4 + p)) = some v' ∧ VR ρ' v v') ∧ LVL Lw h' ts rows ∧ h'.next.toNat ≤ h.next.toNat + left ∧
    ((i + ts.length = len ∧ dNf ts ≤ left ∧ h'.next.toNat ≤ h.next.toNat + dNf ts) ∨ (i + ts.length < len ∧ dNf ts = left) ∨
      (i + ts.length < len ∧ dNf ts < left ∧ ∃ c, gR 4 (rows.drop (ts.length * 4)) = some c ∧ PN Lw h' (left - dNf ts) c))
 | m, i, left, hm, hl, hi, ρ, h, R, hb => by
  by_cases c : i < len
  ·by_cases c0 : left = 0
   ·subst c0
    exact ⟨ρ, h, [], [], ⟨R.1, R.2, fun v hv => by cases hv⟩, Gw.refl h, fun _ _ e => e, fun p v e => by simp at e, by unfold LVL; trivial, by omega, .inr (.inl ⟨by simpa using c, rfl⟩)⟩
   ·obtain ⟨ρ1, h1, ds, R1, U1, E1, S1, C1, O1⟩ := ih i c R left (by omega) hl hb
    have t4 : ∀ r, gR 4 (ds ++ r) = some ds := fun r => bQq S1.1 S1.2
    rcases O1 with ⟨t, T, T1, T2⟩ | ⟨T, T2⟩
    ·match m, hm with
     | 0, hm => omega
     | m + 1, hm =>
      have hsz := t.sz_pos
      obtain ⟨ρ2, h2, rows, ts, R2, U2, E2, C2, L2, N2, O2⟩ := aBe ih m (i + 1) (left - t.sz) (by omega) (by omega) (by omega) ⟨R1.1, R1.2.1⟩ (by omega)
      refine ⟨ρ2, h2, ds ++ rows, t :: ts, ⟨R2.1, R2.2.1, fun v hv => (List.mem_append.1 hv).elim (fun q => ⟨S1.2 v q, R1.2.2 v q⟩) (R2.2.2 v)⟩, U1.trans U2, E1.trans E2, fun p v e => ?_, ?_, by omega, ?_⟩
      ·by_cases hp : p < ds.length
       ·rw [List.getElem?_append_left hp] at e
        obtain ⟨v', q1, q2⟩ := C1 p v e
        exact ⟨v', q1, q2.mono E2⟩
       ·rw [List.getElem?_append_right (by omega)] at e
        obtain ⟨v', q1, q2⟩ := C2 _ v e
        rw [S1.1] at q1 hp
        rw [show (i + 1) * 4 + (p - 4) = i * 4 + p by omega] at q1
        exact ⟨v', q1, q2⟩
      ·unfold LVL
       exact ⟨ds, rows, rfl, T.up U2, L2⟩
      ·have hz : dNf (t :: ts) = t.sz + dNf ts := by rw [dNf]
       rcases O2 with ⟨a1, a2, a3⟩ | ⟨a1, a2⟩ | ⟨a1, a2, cc, a3, a4⟩
       ·exact .inl ⟨by simp only [List.length_cons]; omega, by omega, by omega⟩
       ·exact .inr (.inl ⟨by simp only [List.length_cons]; omega, by omega⟩)
       ·refine .inr (.inr ⟨by simp only [List.length_cons]; omega, by omega, cc, ?_, ?_⟩)
        ·rw [List.length_cons, show (ts.length + 1) * 4 = ds.length + ts.length * 4 by rw [S1.1]; omega, List.drop_append, List.drop_eq_nil_of_le (by omega), List.nil_append, show ds.length + ts.length * 4 - ds.length = ts.length * 4 by omega]
         exact a3
        ·rw [hz, show left - (t.sz + dNf ts) = left - t.sz - dNf ts by omega]
         exact a4
    ·refine ⟨ρ1, h1, ds, [], ⟨R1.1, R1.2.1, fun v q => ⟨S1.2 v q, R1.2.2 v q⟩⟩, U1, E1, C1, by unfold LVL; trivial, T2, .inr (.inr ⟨by simpa using c, by simp [dNf]; omega, ds, ?_, by simpa [dNf] using T⟩)⟩
     have := t4 []
     rw [List.append_nil] at this
     simpa using this
  ·exact ⟨ρ, h, [], [], ⟨R.1, R.2, fun v hv => by cases hv⟩, Gw.refl h, fun _ _ e => e, fun p v e => by simp at e, by unfold LVL; trivial, by omega, .inl ⟨by simp; omega, by simp [dNf], by omega⟩⟩
termination_by m => m
end
end Go.Dd

namespace Go.Dd
open Go.Proofs Go.RowKit
section
variable {H : Type} {enc : TypeId × Value → H} {w : World}
theorem aKw : ∀ (B most : Nat), most ≤ B → ∀ (n : Nat) (cs : List Value) (x : DataW H × List MemPlace), DataW.trod enc Tryz.prog w 0 (fun _ => true) true n 58 cs = some x → ∀ {ρ : cM} {h : Hp}, Ro w ρ h ∧ AO h → 1 ≤ most → h.next.toNat + most ≤ 1000 →
  ∃ ρ' h' ds, (Ro w ρ' h' ∧ AO h' ∧ ∀ v ∈ ds, gV 1024 v = true) ∧ Gw h h' ∧ Ext ρ ρ' ∧ (ds.length = 4 ∧ ∀ v ∈ ds, v.one = true) ∧ VRs ρ' ds cs ∧ Opn h h' most ds
 | 0, most, hB, n, cs, x, hx, ρ, h, R, hm, hb => by omega
 | B + 1, most, hB, n, cs, x, hx, ρ, h, R, hm, hb => by
  obtain ⟨k, nn, s, v, m, y, rfl, wk, wn, hv⟩ := bOd hx
  rcases DataW.trod_slice Tryz.underlying56 hv with ⟨e5, _⟩ | ⟨a, len, cap, elems, rest, m', em, e5, _, _, q4, q5, q6, q7, _⟩
  ·cases e5
   have T : LV Lw h (.mk k nn (s.data.toList.map (·.toNat)) []) [iD k, .s (s.data.toList.map (·.toNat)), iD nn, .l0] := by
    unfold LV
    exact ⟨.l0, rfl, .inl ⟨rfl, rfl⟩⟩
   exact ⟨ρ, h, [iD k, .s (s.data.toList.map (·.toNat)), iD nn, .l0], ⟨R.1, R.2, fun v hv => by
    simp only [List.mem_cons, List.not_mem_nil, or_false] at hv
    rcases hv with rfl | rfl | rfl | rfl <;> rfl⟩, Gw.refl h, fun _ _ e => e, T.shape, .cons _ _ _ _ (.i _ _) (.cons _ _ _ _ (.s _ s rfl) (.cons _ _ _ _ (.i _ _) (.cons _ _ _ _ .l0 .nil))), .inl ⟨_, T, by simp only [Lt.sz, dNf]; omega, by omega⟩⟩
  ·cases e5
   rw [bNr] at q7
   let L : Loc := ⟨a.block, a.off, 0, a.spot⟩
   have ha : a = fF L 0 := rfl
   obtain ⟨ρ2, h2, rows, ts, R2, U2, E2, C2, K2, N2, O2⟩ := aBe (w := w) (L := L) (len := len) (most := most) (fun c hc ρ1 h1 R1 mo hm1 hm2 hb1 => by
    have e := q7 c hc
    rw [show elems[c]? = some (elems[c]'(by omega)) by simp] at e
    simp only [Option.bind_eq_some_iff] at e
    obtain ⟨cs, e1, e2⟩ := e
    obtain ⟨c1, c2⟩ := bIm e1
    obtain ⟨ρ4, h4, ds, R4, U4, E4, S4, V4, O4⟩ := aKw B mo (by omega) m' cs _ e2 R1 hm1 hb1
    refine ⟨ρ4, h4, ds, R4, U4, E4, S4, fun p v hv => ?_, O4⟩
    obtain ⟨v', q8, q9⟩ := VRs.get V4 p v hv
    refine ⟨v', ?_, q9⟩
    have hp : p < 4 := by
     have := (gLt hv)
     omega
    have := c2 p hp
    rw [ha, fK, fK] at this
    rw [show c * 4 + p = 0 + c * 4 + p by omega, this]
    exact q8) (most - 1) 0 (most - 1) (by omega) (by omega) (by omega) R (by omega)
   obtain ⟨R2, R2o, R2r⟩ := R2
   obtain ⟨R', E'⟩ := R2.add L rows rfl (fun i v hv => by
    obtain ⟨v', q8, q9⟩ := C2 i v hv
    exact ⟨v', by simpa using q8, q9⟩)
   obtain ⟨U', Q'⟩ := R2.addGw rows (by omega)
   have ns := dNd h2.next
   refine ⟨_, _, [iD k, .s (s.data.toList.map (·.toNat)), iD nn, .l h2.next 0 len cap], ⟨R', fun b kd l e => ?_, fun v hv => ?_⟩, U2.trans U', E2.trans E', ⟨rfl, ?_⟩, .cons _ _ _ _ (.i _ _) (.cons _ _ _ _ (.s _ s rfl) (.cons _ _ _ _ (.i _ _) (.cons _ _ _ _ (.l h2.next 0 len cap L (bS _ _ _)) .nil))), ?_⟩
   ·have e : (Tr.set (.row .ro rows) h2.next h2.bl).get b = some (.row kd l) := e
    by_cases hb : b = h2.next
    ·subst hb
     rw [dNc] at e
     cases e
     exact R2r
    ·rw [dNb _ _ _ _ hb] at e
     exact R2o b kd l e
   ·simp only [List.mem_cons, List.not_mem_nil, or_false] at hv
    rcases hv with rfl | rfl | rfl | rfl
    ·rfl
    ·rfl
    ·rfl
    ·show Nat.blt h2.next.toNat 1024 = true
     rw [Nat.blt_eq]
     omega
   ·intro v hv
    simp only [List.mem_cons, List.not_mem_nil, or_false] at hv
    rcases hv with rfl | rfl | rfl | rfl <;> rfl
   ·rcases O2 with ⟨a1, a2, a3⟩ | ⟨a1, a2⟩ | ⟨a1, a2, cc, a3, a4⟩
    ·refine .inl ⟨.mk k nn (s.data.toList.map (·.toNat)) ts, ?_, by simp only [Lt.sz]; omega, by simp only [Lt.sz]; show h2.next.succ.toNat ≤ _; omega⟩
     unfold LV
     exact ⟨_, rfl, .inr ⟨h2.next, rows, cap, by rw [show len = ts.length by omega], Q', K2.up U'⟩⟩
    ·exact .inr ⟨.full most len cap k nn _ h2.next rows ts Q' (K2.up U') (by omega) (by omega), by show h2.next.succ.toNat ≤ _; omega⟩
    ·refine .inr ⟨.deep most len cap k nn _ h2.next rows ts cc Q' (K2.up U') (by omega) (by omega) a3 ?_, by show h2.next.succ.toNat ≤ _; omega⟩
     rw [show most - (1 + dNf ts) = most - 1 - dNf ts by omega]
     exact a4.up U'
end
end Go.Dd

namespace Go.Dd
open Go.Proofs
theorem zF (a b : DV) (h : Hp) : aC 0 (.t [a, b]) h = some (a, h) := Eq.trans rfl rfl
theorem xN (a b : DV) (h : Hp) : aC 1 (.t [a, b]) h = some (b, h) := Eq.trans rfl rfl
theorem aOa {a : Nat} (h : a ≠ 0) : Nat.beq a 0 = false := by
 cases hb : Nat.beq a 0 with
 | true => exact absurd (Nat.eq_of_beq_eq_true hb) h
 | false => rfl
theorem aLz {a : Int} {pl : WT} (h : cV a = true) : bV a pl = 0 := by
 rcases mG a pl with e | ⟨_, e2⟩
 ·exact e
 ·have h1 := (qI a).1.1 e2
  rw [kC] at h
  have := of_decide_eq_true h
  omega
section
theorem Wd.fmt {h : Hp} {M : MemV} {R : List Int} {es : List (DV × DV)} (W : Wd h M R es) (G : Good M) {o : Int} (ho : bV o M.pl ≠ 0) {hd : Nat} (hh : M.t.get (bV o M.pl) = .ofNat hd) : iW [.p (aL 3) 0, .i .i64 o] h = some (.i .i64 (.ofNat (hd % 4)), h) := by
 obtain ⟨hd', e, _, _, _, hk, _⟩ := W.head G ho
 rw [hh] at e
 cases e
 simp only [iW, iU, W.mem, hk]
 rfl
theorem Wd.fields {h : Hp} {M : MemV} {R : List Int} {es : List (DV × DV)} (W : Wd h M R es) (G : Good M) {o : Int} (ho : bV o M.pl ≠ 0) {hd : Nat} (hh : M.t.get (bV o M.pl) = .ofNat hd) : eJ [.p (aL 3) 0, .i .i64 o] h = some (.i .i64 (.ofNat (hd / 4)), h) := by
 obtain ⟨hd', e, _, _, _, hk, _⟩ := W.head G ho
 rw [hh] at e
 cases e
 simp only [eJ, iU, W.mem, hk]
 rfl
theorem Wd.get {h : Hp} {M : MemV} {R : List Int} {es : List (DV × DV)} (W : Wd h M R es) (G : Good M) {o : Int} (ho : bV o M.pl ≠ 0) {hd i : Nat} (hh : M.t.get (bV o M.pl) = .ofNat hd) (hi : i < hd / 4) :
  qT [.p (aL 3) 0, .i .i64 o, .i .i64 (.ofNat i)] h = some (.t [iD (M.t.get (bV o M.pl + 3 + i)), .i .i64 (.ofNat 0)], h) := by
 obtain ⟨hd', e, _, _, h4, hk, _⟩ := W.head G ho
 rw [hh] at e
 cases e
 have h5 := G.le
 have b3 : Nat.ble (Nat.div hd 4) i = false := by rw [jO]; exact decide_eq_false (show ¬ hd / 4 ≤ i by omega)
 have b4 : Nat.blt (Nat.add (Nat.add (bV o M.pl) 3) i) M.n = true := by rw [gK]; exact decide_eq_true (show bV o M.pl + 3 + i < M.n by omega)
 simp only [qT, iU, W.mem, gP, aOa ho, cond_false, hk, b3, b4, cond_true]
 rfl
theorem Wd.get53 {h : Hp} {M : MemV} {R : List Int} {es : List (DV × DV)} (W : Wd h M R es) (G : Good M) {o : Int} (ho : bV o M.pl ≠ 0) {hd i : Nat} (hh : M.t.get (bV o M.pl) = .ofNat hd) (hi : i < hd / 4) (n : Nat) :
  cA (n + 1) 111 [.p (aL 7) 0, .i .i64 o, .i .i64 (.ofNat i)] h = some (iD (M.t.get (bV o M.pl + 3 + i)), h) := by
 rw [qH 111 rfl, aRb]
 unfold s111
 simp only [g0, g1, g2, gU, fR, aO, W.l00, W.get G ho hh hi, zF, xN]
inductive NumA (M M' : MemV) (R : List Int) (n : Int) : Int → Int → Prop
 | out : ¬ (-1152921504606846976 ≤ n ∧ n ≤ 1152921504606846976) → M' = M → NumA M M' R n 0 2
 | small (a : Int) : -1073741824 ≤ n ∧ n ≤ 1073741823 → cV a = true → qD a = n → M' = M → NumA M M' R n a 0
 | big : (-1152921504606846976 ≤ n ∧ n ≤ 1152921504606846976) → ¬ (-1073741824 ≤ n ∧ n ≤ 1073741823) → Grown M M' 1 (R.getD 10 0) [n] → NumA M M' R n (.ofNat (M.fin * 2)) 0
theorem Wd.number {h : Hp} {M : MemV} {R : List Int} {es : List (DV × DV)} (W : Wd h M R es) (G : Good M) (hR : ∀ i, i < 16 → bV (R.getD (2 + i) 0) M.pl ≠ 0) (room : M.fin + 4 ≤ M.n) (hm : M.made < 899999) (n : Int) {k : Nat} (hk : 256 < k) :
  ∃ a e h' M', cA (k + 2) 60 [.p (aL 7) 0, .i .i64 n] h = some (.t [iD a, iD e], h') ∧ Wd h' M' R es ∧ Good M' ∧ Up h h' ∧ NumA M M' R n a e := by
 have hl : (Int.negSucc 1152921504606846975) = -1152921504606846976 := rfl
 rw [qH 60 rfl, cNq]
 unfold s60
 by_cases c1 : n < -1152921504606846976
 ·refine ⟨0, 2, h, M, ?_, W, G, Up.refl h, .out (by omega) rfl⟩
  have d1 : decide (n < Int.negSucc 1152921504606846975) = true := decide_eq_true (by rw [hl]; exact c1)
  simp only [g0, g1, cG, aO, d1, fN, iK, bQ, bN]
  rfl
 ·have d1 : decide (n < Int.negSucc 1152921504606846975) = false := decide_eq_false (by rw [hl]; exact c1)
  by_cases c2 : n > 1152921504606846976
  ·refine ⟨0, 2, h, M, ?_, W, G, Up.refl h, .out (by omega) rfl⟩
   have d2 : decide (n > Int.ofNat 1152921504606846976) = true := decide_eq_true c2
   simp only [g0, g1, cG, gA, aO, d1, d2, gI, bK, bN]
   rfl
  ·have d2 : decide (n > Int.ofNat 1152921504606846976) = false := decide_eq_false c2
   simp only [g0, g1, cG, gA, aO, d1, d2, gI, bK, bG]
   by_cases c3 : -1073741824 ≤ n ∧ n ≤ 1073741823
   ·
    have hs : ∃ a, iI [.i .i64 n] h = some (.t [iD a, .b true], h) ∧ cV a = true ∧ qD a = n := by
     cases n with
     | ofNat m =>
      have hb : Nat.blt m 1073741824 = true := by rw [gK]; exact decide_eq_true (by have := c3.2; simp at this; omega)
      refine ⟨.ofNat (Nat.succ (Nat.mul m 2)), by simp only [iI, hb, cond_true], ?_, ?_⟩
      ·rw [kC]
       refine decide_eq_true ?_
       have e : (Int.ofNat (Nat.succ (Nat.mul m 2))) = 2 * (m : Int) + 1 := by show (((m * 2).succ : Nat) : Int) = _; omega
       rw [e]
       have := c3.2
       simp at this
       omega
      ·rw [sR]
       have e : (Int.ofNat (Nat.succ (Nat.mul m 2))) = 2 * (m : Int) + 1 := by show (((m * 2).succ : Nat) : Int) = _; omega
       rw [e]
       show _ = (m : Int)
       omega
     | negSucc m =>
      have hb : Nat.blt m 1073741824 = true := by rw [gK]; exact decide_eq_true (by have := c3.1; omega)
      have e : (Int.negSucc (Nat.mul m 2)) = -2 * (m : Int) - 1 := by show Int.negSucc (m * 2) = _; omega
      refine ⟨.negSucc (Nat.mul m 2), by simp only [iI, hb, cond_true], ?_, ?_⟩
      ·rw [kC]
       refine decide_eq_true ?_
       rw [e]
       have := c3.1
       omega
      ·rw [sR, e]
       omega
    obtain ⟨a, h1, h2, h3⟩ := hs
    refine ⟨a, 0, h, M, ?_, W, G, Up.refl h, .small a c3 h2 h3 rfl⟩
    simp only [h1, aO, zF, xN, bN]
    rfl
   ·
    have hs : iI [.i .i64 n] h = some (.t [.i .i64 (.ofNat 0), .b false], h) := by
     cases n with
     | ofNat m =>
      have hb : Nat.blt m 1073741824 = false := by rw [gK]; exact decide_eq_false (fun q => c3 (by simp; omega))
      simp only [iI, hb, cond_false]
     | negSucc m =>
      have hb : Nat.blt m 1073741824 = false := by rw [gK]; exact decide_eq_false (fun q => c3 (by omega))
      simp only [iI, hb, cond_false]
    have fl : aN [.i .i64 (Int.ofNat 0)] 1 [(0, 1, .i .i64 n)] h = some (.l h.next 0 1 1, ⟨h.next.succ, Tr.set (.row .ex ([n].map iD)) h.next h.bl⟩) := by
     simp [aN, jK, dC]
    obtain ⟨U1, W1⟩ := W.new (.row .ex ([n].map iD))
    have S : SlI (.l h.next 0 1 1) [n] ⟨h.next.succ, Tr.set (.row .ex ([n].map iD)) h.next h.bl⟩ := .inr ⟨h.next, 1, .ex, rfl, dNc _ _ _, .inr (Nat.le_trans (by decide) W.nx), by show _ < (h.next.succ).toNat; rw [dNd]; omega⟩
    obtain ⟨h', M', e1, W2, U2, _, g⟩ := W1.make61 G (hR 8 (by omega)) (f := 1) (by omega) S (by simp) (by simpa using room) (fun v hv => trivial) hk
    refine ⟨_, _, h', M', ?_, W2, g.good G (hR 8 (by omega)) (by omega) (by simp) (by simpa using room) hm, U1.trans U2, .big (by omega) c3 g⟩
    simp only [hs, aO, zF, xN, bG, W.known (show 8 < 16 by omega), fl]
    rw [show (2 : Nat) + 8 = 10 from rfl] at e1 ⊢
    rw [e1]
    simp only [aO, zF, xN]
    rfl
end
end Go.Dd

namespace Go.Dd
open Go.Proofs
section
theorem Wd.memory {h : Hp} {M : MemV} {R : List Int} {es : List (DV × DV)} (W : Wd h M R es) (n : Nat) : cA (n + 1) 17 [.p (aL 7) 0] h = some (.p (aL 3) 0, h) := by
 rw [qH 17 rfl, cOl]
 unfold s17
 simp only [g0, gU, fR, aO, W.l00]
end
end Go.Dd

namespace Go.Dd
open Go.Proofs
def GrS (x : DV) (l : List DV) (lo : Nat) (h : Hp) : Prop := (x = .l0 ∧ l = []) ∨ ∃ b, x = .l b 0 l.length l.length ∧ h.bl.get b = some (.row (.gr 1) l) ∧ lo ≤ b.toNat ∧ b.toNat < h.next.toNat
structure Lo (lo : Nat) (h h' : Hp) : Prop where
 next : h.next.toNat ≤ h'.next.toNat
 get : ∀ b : Pos, b.toNat < lo → h'.bl.get b = h.bl.get b
theorem Lo.refl (lo : Nat) (h : Hp) : Lo lo h h := ⟨Nat.le_refl _, fun _ _ => rfl⟩
theorem Lo.trans {lo : Nat} {a b c : Hp} (u : Lo lo a b) (v : Lo lo b c) : Lo lo a c := ⟨Nat.le_trans u.next v.next, fun p h => (v.get p h).trans (u.get p h)⟩
theorem Lo.up {h h' : Hp} (u : Lo h.next.toNat h h') : Up h h' := ⟨u.next, fun b _ h2 => u.get b h2⟩
theorem Wd.lo {h h' : Hp} {M : MemV} {R : List Int} {es : List (DV × DV)} (W : Wd h M R es) (u : Lo h.next.toNat h h') : Wd h' M R es := W.up u.up fun b hb => u.get b (Nat.lt_of_lt_of_le hb W.nx)
theorem qW : ∀ l : List DV, (∀ v ∈ l, v.one = true) → gR l.length l = some l := zI
theorem GrS.app {x : DV} {l : List DV} {lo : Nat} {h : Hp} (S : GrS x l lo h) (hlo : lo ≤ h.next.toNat) (hl : ∀ v ∈ l, v.one = true) {z v : DV} (hz : dC v = some [v]) (hv : v.one = true) {bytes : Nat} (hb : (l.length + 1) * bytes ≤ kM) :
  ∃ y g, aN [z] 1 [(0, 1, v)] h = some (y, g) ∧ ∃ x' h', aY 1 bytes x y g = some (x', h') ∧ GrS x' (l ++ [v]) lo h' ∧ Lo lo h h' := by
 refine ⟨.l h.next 0 1 1, ⟨h.next.succ, Tr.set (.row .ex [v]) h.next h.bl⟩, ?_, ?_⟩
 ·simp [aN, jK, hz]
 ·have src : qK 1 (.l h.next 0 1 1) ⟨h.next.succ, Tr.set (.row .ex [v]) h.next h.bl⟩ = some (1, [v]) := by
   have : cellsAt h.next 0 (1 * 1) ⟨h.next.succ, Tr.set (.row .ex [v]) h.next h.bl⟩ = some [v] := by
    simp [cellsAt, rowOf, dNc, gR, hv]
   simp only [qK, this]
  have ns := dNd h.next
  have ns2 := dNd h.next.succ
  rcases S with ⟨rfl, rfl⟩ | ⟨b, rfl, hbg, h1, h2⟩
  ·refine ⟨.l h.next.succ 0 1 1, ⟨h.next.succ.succ, Tr.set (.row (.gr 1) [v]) h.next.succ (Tr.set (.row .ex [v]) h.next h.bl)⟩, ?_, ?_, ?_⟩
   ·unfold aY
    rw [src]
    dsimp only
    rw [if_neg (by simp), if_pos (by simpa using hb)]
   ·exact .inr ⟨h.next.succ, rfl, dNc _ _ _, by omega, by show _ < h.next.succ.succ.toNat; omega⟩
   ·refine ⟨by show _ ≤ h.next.succ.succ.toNat; omega, fun p hp => ?_⟩
    show (Tr.set _ h.next.succ (Tr.set _ h.next h.bl)).get p = _
    rw [dNb _ _ _ _ (fun e => by subst e; omega), dNb _ _ _ _ (fun e => by subst e; omega)]
  ·have hne : b ≠ h.next := fun e => by subst e; omega
   have hget : (Tr.set (.row .ex [v]) h.next h.bl).get b = some (.row (.gr 1) l) := by rw [dNb _ _ _ _ hne]; exact hbg
   have hcells : cellsAt b 0 (l.length * 1) ⟨h.next.succ, Tr.set (.row .ex [v]) h.next h.bl⟩ = some l := by
    simp only [cellsAt, rowOf, hget, List.drop_zero, Nat.mul_one]
    exact qW l hl
   refine ⟨.l h.next.succ 0 (l.length + 1) (l.length + 1), ⟨h.next.succ.succ, Tr.set (.row (.gr 1) (l ++ [v])) h.next.succ (Tr.set (.row .sp (bR 0 l)) b (Tr.set (.row .ex [v]) h.next h.bl))⟩, ?_, ?_, ?_⟩
   ·unfold aY
    rw [src]
    dsimp only
    rw [if_neg (by omega), hget, hcells]
    dsimp only
    rw [if_pos hb, if_pos (by simp)]
   ·exact .inr ⟨h.next.succ, by simp, dNc _ _ _, by omega, by show _ < h.next.succ.succ.toNat; omega⟩
   ·refine ⟨by show _ ≤ h.next.succ.succ.toNat; omega, fun p hp => ?_⟩
    show (Tr.set _ h.next.succ (Tr.set _ b (Tr.set _ h.next h.bl))).get p = _
    rw [dNb _ _ _ _ (fun e => by subst e; omega), dNb _ _ _ _ (fun e => by subst e; omega), dNb _ _ _ _ (fun e => by subst e; omega)]
theorem aLd (k : IntKind) (hk : k = .i64 ∨ k = .u8) {c : Nat} (hc : c < 256) : k.wrap (c : Int) = (c : Int) := by
 rcases hk with rfl | rfl
 ·exact kP _ (by omega)
 ·have : (IntKind.u8.wrap (c : Int)) = (c : Int) % 256 := by
   simp [IntKind.wrap, IntKind.bits, IntKind.signed]
  rw [this]
  omega
end Go.Dd

namespace Go.Dd
open Go.Proofs
def iN (c : Nat) : DV := .i .i64 (Int.ofNat c)
def uN (c : Nat) : DV := .i .u8 (Int.ofNat c)
theorem cTc (l : List Nat) : ∀ v ∈ l.map iN, v.one = true := by
 intro v hv
 obtain ⟨c, _, rfl⟩ := List.mem_map.1 hv
 rfl
theorem bPm (l : List Nat) : ∀ v ∈ l.map uN, v.one = true := by
 intro v hv
 obtain ⟨c, _, rfl⟩ := List.mem_map.1 hv
 rfl
theorem xK {rec : FuncId → List DV → Hp → aH} {n lo : Nat} {x0 x1 : DV} : ∀ (rest done : List Nat) (m : Nat) (x : DV) (h : Hp), GrS x (done.map iN) lo h → lo ≤ h.next.toNat → (∀ c ∈ done ++ rest, c < 256) → (done ++ rest).length ≤ 300 → rest.length < m →
  ∃ x' h', oU rec n m x0 x1 (.s (done ++ rest)) x (.i .i64 ((done ++ rest).length : Int)) (.i .i64 (Int.ofNat done.length)) h = fQ rec n x0 x1 x' h' ∧ GrS x' ((done ++ rest).map iN) lo h' ∧ Lo lo h h'
 | [], done, m + 1, x, h, S, hlo, hc, hl, hm => by
  refine ⟨x, h, ?_, by rw [List.append_nil]; exact S, Lo.refl lo h⟩
  show pM rec n (oU rec n m) _ _ _ _ _ _ h = _
  unfold pM
  have hl : decide (Int.ofNat done.length < ((done ++ []).length : Int)) = false := by simp
  simp only [cG, aO, hl, bG]
 | c :: rest, done, m + 1, x, h, S, hlo, hc, hl, hm => by
  have hc1 : c < 256 := hc c (by simp)
  obtain ⟨y, g, e1, x', h', e2, S', L'⟩ := S.app hlo (cTc done) (z := .i .i64 (Int.ofNat 0)) (v := iN c) rfl rfl (bytes := 8) (by simp at hl ⊢; unfold kM; omega)
  have S2 : GrS x' ((done ++ [c]).map iN) lo h' := by rw [List.map_append]; exact S'
  obtain ⟨x2, h2, e3, S3, L3⟩ := xK (rec := rec) (n := n) (lo := lo) (x0 := x0) (x1 := x1) rest (done ++ [c]) m x' h' S2 (Nat.le_trans hlo L'.next) (by simpa using hc) (by simpa using hl) (by simp at hm; omega)
  refine ⟨x2, h2, ?_, by simpa using S3, L'.trans L3⟩
  rw [← e3]
  show pM rec n (oU rec n m) _ _ _ _ _ _ h = _
  unfold pM
  have hl1 : decide (Int.ofNat done.length < ((done ++ c :: rest).length : Int)) = true := by simp; omega
  have hix : fI (.s (done ++ c :: rest)) (.i .i64 (Int.ofNat done.length)) h = some (.i .u8 (c : Int), h) := by
   show (if (0 : Int) ≤ Int.ofNat done.length then (match (done ++ c :: rest)[(Int.ofNat done.length).toNat]? with
    | some c => some (DV.i .u8 (c : Int), h)
    | none => none) else none) = _
   rw [if_pos (by simp), show (Int.ofNat done.length).toNat = done.length from rfl]
   simp
  have hcv : dU .i64 (.i .u8 (c : Int)) h = some (iN c, h) := by
   show some (DV.i .i64 (IntKind.i64.wrap (c : Int)), h) = _
   rw [aLd .i64 (.inl rfl) hc1]
   rfl
  have hadd : aD .add (.i .i64 (Int.ofNat done.length)) (.i .i64 (Int.ofNat 1)) h' = some (.i .i64 (Int.ofNat (done ++ [c]).length), h') := by
   rw [fZ _ _ _ (by simp at hl ⊢; omega)]
   simp
  simp only [cG, aO, hl1, bN, hix, hcv, e1, e2, hadd]
  simp
structure TxO (M : MemV) (cls o : Int) (s : List Nat) : Prop where
 at0 : bV o M.pl ≠ 0
 hd : M.t.get (bV o M.pl) = .ofNat (s.length * 4 + 2)
 cls : M.t.get (bV o M.pl + 1) = cls
 by8 : ∀ c ∈ s, c < 256
 len : s.length ≤ 256
 get : ∀ i c, s[i]? = some c → M.t.get (bV o M.pl + 3 + i) = .ofNat c
theorem Grown.txo {M M' : MemV} {f : Nat} {k : Int} {l : List Int} (g : Grown M M' f k l) (G : Good M) {cls o : Int} {s : List Nat} (T : TxO M cls o s) : TxO M' cls o s := by
 have h1 := G.le
 have h3 := G.hi
 have hp : M.pl.get (bV o M.pl) ≠ 0 := by
  rcases mG o M.pl with e | ⟨e, _⟩
  ·exact absurd e T.at0
  ·rw [e]; exact (atN_pos.1 T.at0).2
 obtain ⟨_, hd, e1, e2, e3, _⟩ := G.ob _ hp
 rw [T.hd] at e1
 cases e1
 have ea : bV o M'.pl = bV o M.pl := by rw [g.pl]; exact sK (by omega) T.at0
 refine ⟨by rw [ea]; exact T.at0, by rw [ea, g.old _ (by omega)]; exact T.hd, by rw [ea, g.old _ (by omega)]; exact T.cls, T.by8, T.len, fun i c hi => ?_⟩
 have hil : i < s.length := by
  rcases Nat.lt_or_ge i s.length with q | q
  ·exact q
  ·rw [List.getElem?_eq_none q] at hi; cases hi
 rw [ea, g.old _ (by omega)]
 exact T.get i c hi
theorem Grown.new_txo {M M' : MemV} {cls : Int} {s : List Nat} (g : Grown M M' 2 cls (s.map Int.ofNat)) (G : Good M) (hs : ∀ c ∈ s, c < 256) (hl : s.length ≤ 256) : TxO M' cls (.ofNat (M.fin * 2)) s := by
 have h1 := G.le
 have h2 := G.lo
 have h3 := G.hi
 have ha : bV (.ofNat (M.fin * 2)) M'.pl = M.fin := by rw [g.pl]; exact yX h2 (by omega)
 refine ⟨by rw [ha]; omega, by rw [ha, g.hd]; simp, by rw [ha, g.cl], hs, hl, fun i c hi => ?_⟩
 rw [ha]
 exact g.new i _ (by rw [List.getElem?_map, hi]; rfl)
section
variable {h : Hp} {M : MemV} {R : List Int} {es : List (DV × DV)}
theorem Wd.bytes49 (W : Wd h M R es) (G : Good M) {cls : Int} (hc : bV cls M.pl ≠ 0) {s : List Nat} (hs : ∀ c ∈ s, c < 256) (h256 : s.length ≤ 256) (room : M.fin + s.length + 3 ≤ M.n) {n : Nat} (hn : 300 < n) :
  ∃ h' M', cA (n + 2) 43 [.p (aL 7) 0, .i .i64 cls, .s s] h = some (.t [.i .i64 (.ofNat (M.fin * 2)), .i .i64 (.ofNat 0)], h') ∧ Wd h' M' R es ∧ Up h h' ∧ Grown M M' 2 cls (s.map Int.ofNat) := by
 obtain ⟨x', h1, e1, S1, L1⟩ := xK (rec := cA (n + 1)) (n := n + 1) (lo := h.next.toNat) (x0 := .p (aL 7) 0) (x1 := .i .i64 cls) s [] (n + 1) .l0 h (.inl ⟨rfl, rfl⟩) (Nat.le_refl _) (by simpa using hs) (by simp; omega) (by omega)
 have W1 := W.lo L1
 have S2 : SlI x' (s.map Int.ofNat) h1 := by
  have em : (([] : List Nat) ++ s).map iN = (s.map Int.ofNat).map iD := by simp [iN, iD]
  rcases S1 with ⟨rfl, e⟩ | ⟨b, e, hb, h2, h3⟩
  ·refine .inl ⟨rfl, ?_⟩
   have : s = [] := by simpa using e
   rw [this]; rfl
  ·refine .inr ⟨b, s.length, .gr 1, by rw [e]; simp, by rw [hb, em], .inr (Nat.le_trans (Nat.le_trans (by decide) W.nx) h2), h3⟩
 obtain ⟨h', M', e2, W2, U2, _, g⟩ := W1.make61 G hc (f := 2) (by omega) S2 (by simpa using h256) (by simpa using room) (fun v hv => by
  obtain ⟨c, hc', rfl⟩ := List.mem_map.1 hv
  have := hs c hc'
  show 0 ≤ Int.ofNat c ∧ Int.ofNat c ≤ 255
  simp; omega) (n := n) (by omega)
 refine ⟨h', M', ?_, W2, L1.up.trans U2, g⟩
 rw [qH 43 rfl, cMt]
 unfold s43 aVf bAa bAj bJl
 have el : dN (.s s) h = some (.i .i64 (s.length : Int), h) := rfl
 simp only [g0, g1, g2, el, aO]
 refine Eq.trans e1 ?_
 unfold fQ
 rw [e2]
 simp only [aO, zF, xN]
end
theorem aBn {R : List Int} {es : List (DV × DV)} {M : MemV} {k : Nat} {cls o : Int} {s : List Nat} {b0 : Hp} (W0 : Wd b0 M R es) (G : Good M) (T : TxO M cls o s) : ∀ (rest done : List Nat) (m : Nat) (x : DV) (h : Hp), s = done ++ rest → Lo b0.next.toNat b0 h → GrS x (done.map uN) b0.next.toNat h → rest.length < m →
  ∃ h', pA (cA (k + 1)) (k + 1) m (.p (aL 7) 0) (.i .i64 o) x (.i .i64 (s.length : Int)) (.i .i64 (Int.ofNat done.length)) h = some (.t [.s s, .b true], h') ∧ Lo b0.next.toNat b0 h'
 | [], done, m + 1, x, h, es', L0, S, hm => by
  refine ⟨h, ?_, L0⟩
  show oY (cA (k + 1)) (k + 1) (pA (cA (k + 1)) (k + 1) m) _ _ _ _ _ h = _
  unfold oY
  have hl : decide (Int.ofNat done.length < (s.length : Int)) = false := by rw [es']; simp
  simp only [cG, aO, hl, bG]
  unfold fX
  have hd : s = done := by rw [es']; simp
  have hb : gB x h = some (.s s, h) := by
   rcases S with ⟨rfl, e⟩ | ⟨b, e, hb, h2, h3⟩
   ·have : done = [] := by simpa using e
    rw [hd, this]; rfl
   ·rw [e]
    have hby : ∀ l : List Nat, (∀ c ∈ l, c < 256) → pO (l.map uN) = some l := by
     intro l
     induction l with
     | nil => intro _; rfl
     | cons c l ih =>
      intro hc
      show (if c < 256 then (pO (l.map uN)).map (c :: ·) else none) = _
      rw [if_pos (hc c (by simp)), ih (fun d hd => hc d (by simp [hd]))]
      rfl
    have hcells : cellsAt b 0 (done.map uN).length h = some (done.map uN) := by
     simp only [cellsAt, rowOf, hb, List.drop_zero]
     exact qW _ (bPm done)
    simp only [gB, hcells, hby done (by rw [← hd]; exact T.by8), hd]
  simp only [hb, aO]
 | c :: rest, done, m + 1, x, h, es', L0, S, hm => by
  have W := W0.lo L0
  have hc1 : c < 256 := T.by8 c (by rw [es']; simp)
  have hgc : s[done.length]? = some c := by rw [es']; simp
  have hlen := T.len
  have hlt : done.length < s.length := by rw [es']; simp
  obtain ⟨y, g, e1, x', h', e2, S', L'⟩ := S.app L0.next (bPm done) (z := .i .u8 (Int.ofNat 0)) (v := uN c) rfl rfl (bytes := 1) (by simp; unfold kM; omega)
  have S2 : GrS x' ((done ++ [c]).map uN) b0.next.toNat h' := by rw [List.map_append]; exact S'
  obtain ⟨h2, e3, L3⟩ := aBn (k := k) W0 G T rest (done ++ [c]) m x' h' (by rw [es']; simp) (L0.trans L') S2 (by simp at hm; omega)
  refine ⟨h2, ?_, L3⟩
  rw [← e3]
  show oY (cA (k + 1)) (k + 1) (pA (cA (k + 1)) (k + 1) m) _ _ _ _ _ h = _
  unfold oY
  have hl1 : decide (Int.ofNat done.length < (s.length : Int)) = true := by simp; omega
  have hg := W.get53 G T.at0 (i := done.length) T.hd (by omega) k
  rw [T.get _ c hgc] at hg
  have hcv : dU .u8 (.i .i64 (Int.ofNat c)) h = some (uN c, h) := by
   show some (DV.i .u8 (IntKind.u8.wrap (c : Int)), h) = _
   rw [aLd .u8 (.inr rfl) hc1]
   rfl
  have hadd : aD .add (.i .i64 (Int.ofNat done.length)) (.i .i64 (Int.ofNat 1)) h' = some (.i .i64 (Int.ofNat (done ++ [c]).length), h') := by
   rw [fZ _ _ _ (by simp; omega)]
   simp
  simp only [cG, aO, hl1, bN, hg, hcv, e1, e2, hadd]
theorem Wd.text {h : Hp} {M : MemV} {R : List Int} {es : List (DV × DV)} (W : Wd h M R es) (G : Good M) {cls o : Int} {s : List Nat} (T : TxO M cls o s) (hk : cls = R.getD 12 0 ∨ cls = R.getD 13 0) {k : Nat} (hn : 300 < k) :
  ∃ h', cA (k + 2) 72 [.p (aL 7) 0, .i .i64 o] h = some (.t [.s s, .b true], h') ∧ Wd h' M R es ∧ Up h h' := by
 obtain ⟨h', e1, L1⟩ := aBn (k := k) W G T s [] (k + 1) .l0 h rfl (Lo.refl _ h) (.inl ⟨rfl, rfl⟩) (by have := T.len; omega)
 refine ⟨h', ?_, W.lo L1, L1.up⟩
 rw [qH 72 rfl, bXq]
 unfold s72 aKu aKo
 have hi : (!(Nat.beq (bV o M.pl) 0)) = true := by rw [aOa T.at0]; rfl
 have ef := W.fmt G T.at0 T.hd
 rw [show (s.length * 4 + 2) % 4 = 2 by omega] at ef
 have e9 : (Int.ofNat 2 != Int.ofNat 2) = false := rfl
 have efs := W.fields G T.at0 T.hd
 rw [show (s.length * 4 + 2) / 4 = s.length by omega] at efs
 have fin : aLs (cA (k + 1)) (k + 1) (.p (aL 7) 0) (.i .i64 o) h = some (.t [.s s, .b true], h') := by
  unfold aLs aUa aWx bPf
  simp only [gU, fR, aO, W.l00, efs]
  exact e1
 have zn : ∀ y : Int, (y != y) = false := fun y => by simp
 by_cases hc : cls = R.getD 12 0
 ·simp only [g0, g1, gU, fR, aO, W.l00, W.cls G T.at0, T.cls, W.is, hi, iM, Bool.not_true, gI, W.known (show 10 < 16 by omega), show 2 + 10 = 12 from rfl, hc, eN, zn, fE, iK, bK, ef, e9, bG]
  exact fin
 ·have h13 : cls = R.getD 13 0 := hk.resolve_left hc
  have z1 : (cls != R.getD 12 0) = true := by simpa using hc
  simp only [g0, g1, gU, fR, aO, W.l00, W.cls G T.at0, T.cls, W.is, hi, iM, Bool.not_true, gI, iG, W.known (show 10 < 16 by omega), W.known (show 11 < 16 by omega), show 2 + 10 = 12 from rfl, show 2 + 11 = 13 from rfl, eN, z1, bQ, bK, ← h13, zn, ef, e9, bG]
  exact fin
end Go.Dd

namespace Go.Dd
open Go.Proofs
structure ObI (M : MemV) (R : List Int) (CL : List Nat) (a hd : Nat) (z : Prop := True) : Prop where
 len : hd / 4 ≤ 256
 fmt : hd % 4 ≤ 2
 arr : M.t.get (a + 1) = R.getD 11 0 → hd % 4 = 0
 str : M.t.get (a + 1) = R.getD 12 0 ∨ M.t.get (a + 1) = R.getD 13 0 → hd % 4 = 2
 by8 : hd % 4 = 2 → ∀ i, i < hd / 4 → ∃ c : Nat, c < 256 ∧ M.t.get (a + 3 + i) = .ofNat c
 cls : M.t.get (a + 1) = R.getD 3 0 → a ∈ CL
 pl : z → ∀ c ∈ CL, M.t.get (c + 8) = 1 → M.t.get (a + 1) = .ofNat (2 * c) → hd % 4 = 0 ∧ ∀ i, i < hd / 4 → M.t.get (a + 3 + i) = 0
structure ClI (M : MemV) (R : List Int) (c : Nat) : Prop where
 pt : 3 ≤ c ∧ c ≤ 131072
 pl : M.pl.get c ≠ 0
 hd : M.t.get c = .ofNat 24
 cl : M.t.get (c + 1) = R.getD 3 0
 nm : ∃ s, TxO M (R.getD 13 0) (M.t.get (c + 3)) s ∧ 1 ≤ s.length ∧ s.length ≤ 60
 sz : ∃ z : Nat, z ≤ 16 ∧ M.t.get (c + 5) = .ofNat (2 * z + 1)
 kd : ∃ k : Nat, k ≤ 3 ∧ M.t.get (c + 8) = .ofNat (2 * k + 1)
structure GI (M : MemV) (R : List Int) (CL : List Nat) (z : Prop := True) : Prop where
 z0 : M.t.get 0 = 0
 z1 : M.t.get 1 = 0
 ob : ∀ a, M.pl.get a ≠ 0 → ∀ hd : Nat, M.t.get a = .ofNat hd → ObI M R CL a hd z
 dj : ∀ a b, M.pl.get a ≠ 0 → M.pl.get b ≠ 0 → a < b → ∀ hd : Nat, M.t.get a = .ofNat hd → a + 3 + hd / 4 ≤ b
 cl : ∀ c ∈ CL, ClI M R c
 rk : ∀ i, i < 16 → R.getD (2 + i) 0 = .ofNat (6 + 18 * i)
 kn : ∀ i, i < 16 → 3 + 9 * i ∈ CL
 k9 : M.t.get 92 = 3
 k10 : M.t.get 101 = 5
 k11 : M.t.get 110 = 5
 k8 : M.t.get 83 = 7
 k1 : M.t.get 20 = 7
section
variable {M M' : MemV} {R : List Int} {CL : List Nat} {f : Nat} {cls : Int} {l : List Int} {z : Prop}
theorem GI.lt (I : GI M R CL z) (G : Good M) {c : Nat} (hc : c ∈ CL) : c + 9 ≤ M.fin := by
 obtain ⟨_, hd, h1, _, h3, _⟩ := G.ob c (I.cl c hc).pl
 rw [(I.cl c hc).hd] at h1
 have := Int.ofNat.inj h1
 omega
structure NewI (M : MemV) (R : List Int) (CL : List Nat) (f : Nat) (cls : Int) (l : List Int) : Prop where
 len : l.length ≤ 256
 fmt : f ≤ 2
 arr : cls = R.getD 11 0 → f = 0
 str : cls = R.getD 12 0 ∨ cls = R.getD 13 0 → f = 2
 by8 : f = 2 → ∀ v ∈ l, ∃ c : Nat, c < 256 ∧ v = .ofNat c
 ncl : cls ≠ R.getD 3 0
 pl : ∀ c ∈ CL, M.t.get (c + 8) = 1 → cls = .ofNat (2 * c) → f = 0 ∧ ∀ v ∈ l, v = 0
theorem Grown.gi (g : Grown M M' f cls l) (G : Good M) (I : GI M R CL z) (N : NewI M R CL f cls l) : GI M' R CL z where
 z0 := by rw [g.old 0 (by have := G.lo; omega)]; exact I.z0
 z1 := by rw [g.old 1 (by have := G.lo; omega)]; exact I.z1
 rk := I.rk
 kn := I.kn
 k9 := by have := I.lt G (I.kn 15 (by omega)); rw [g.old 92 (by omega)]; exact I.k9
 k10 := by have := I.lt G (I.kn 15 (by omega)); rw [g.old 101 (by omega)]; exact I.k10
 k11 := by have := I.lt G (I.kn 15 (by omega)); rw [g.old 110 (by omega)]; exact I.k11
 k8 := by have := I.lt G (I.kn 15 (by omega)); rw [g.old 83 (by omega)]; exact I.k8
 k1 := by have := I.lt G (I.kn 15 (by omega)); rw [g.old 20 (by omega)]; exact I.k1
 dj := fun a b ha hb hab hd hh => by
  have hk : M.fin < 16000000 := by have := G.le; have := G.hi; omega
  rw [g.pl, rQ _ hk] at ha hb
  by_cases eb : b = M.fin
  ·rw [if_neg (by omega)] at ha
   obtain ⟨h3, hd', h1, h2, h4, _⟩ := G.ob a ha
   rw [g.old a (by omega)] at hh
   have e : hd' = hd := Int.ofNat.inj (h1.symm.trans hh)
   omega
  ·rw [if_neg eb] at hb
   obtain ⟨_, _, _, _, h5, _⟩ := G.ob b hb
   rw [if_neg (by omega)] at ha
   rw [g.old a (by omega)] at hh
   exact I.dj a b ha hb hab hd hh
 cl := fun c hc => by
  have hlt := I.lt G hc
  have C := I.cl c hc
  have hk : M.fin < 16000000 := by have := G.le; have := G.hi; omega
  refine ⟨C.pt, ?_, by rw [g.old c (by omega)]; exact C.hd, by rw [g.old (c + 1) (by omega)]; exact C.cl, ?_, by rw [g.old (c + 5) (by omega)]; exact C.sz, by rw [g.old (c + 8) (by omega)]; exact C.kd⟩
  ·rw [g.pl, rQ _ hk]
   split
   ·decide
   ·exact C.pl
  ·obtain ⟨s, q1, q2⟩ := C.nm
   rw [g.old (c + 3) (by omega)]
   exact ⟨s, g.txo G q1, q2⟩
 ob := fun a ha hd hh => by
  have hk : M.fin < 16000000 := by have := G.le; have := G.hi; omega
  rw [g.pl, rQ _ hk] at ha
  have hcl : ∀ c ∈ CL, M'.t.get (c + 8) = M.t.get (c + 8) := fun c hc => g.old _ (by have := I.lt G hc; omega)
  by_cases ea : a = M.fin
  ·subst ea
   rw [g.hd] at hh
   have e : hd = l.length * 4 + f := (Int.ofNat.inj hh).symm
   have h4 : hd / 4 = l.length := by have := N.fmt; omega
   have hm : hd % 4 = f := by have := N.fmt; omega
   have hnew : ∀ i, i < hd / 4 → ∃ v ∈ l, M'.t.get (M.fin + 3 + i) = v := fun i hi => by
    rw [h4] at hi
    exact ⟨l[i], List.getElem_mem hi, g.new i _ (List.getElem?_eq_getElem hi)⟩
   refine ⟨by rw [h4]; exact N.len, by rw [hm]; exact N.fmt, ?_, ?_, ?_, ?_, ?_⟩
   ·rw [g.cl, hm]; exact N.arr
   ·rw [g.cl, hm]; exact N.str
   ·intro q i hi
    obtain ⟨v, q1, q2⟩ := hnew i hi
    obtain ⟨c, q3, q4⟩ := N.by8 (by rw [← hm]; exact q) v q1
    exact ⟨c, q3, q2.trans q4⟩
   ·rw [g.cl]; exact fun q => absurd q N.ncl
   ·intro _ c hc q1 q2
    rw [hcl c hc] at q1
    rw [g.cl] at q2
    obtain ⟨q3, q4⟩ := N.pl c hc q1 q2
    refine ⟨by rw [hm]; exact q3, fun i hi => ?_⟩
    obtain ⟨v, q5, q6⟩ := hnew i hi
    rw [q6, q4 v q5]
  ·rw [if_neg ea] at ha
   obtain ⟨h3, hd', h1, h2, h4, _⟩ := G.ob a ha
   rw [g.old a (by omega)] at hh
   have e : hd' = hd := Int.ofNat.inj (h1.symm.trans hh)
   subst e
   have O := I.ob a ha hd' hh
   have ho : ∀ j, j < 3 + hd' / 4 → M'.t.get (a + j) = M.t.get (a + j) := fun j hj => g.old _ (by omega)
   have h1' := ho 1 (by omega)
   refine ⟨O.len, O.fmt, by rw [h1']; exact O.arr, by rw [h1']; exact O.str, fun q i hi => ?_, by rw [h1']; exact O.cls, fun hz c hc q1 q2 => ?_⟩
   ·have := ho (3 + i) (by omega)
    rw [show a + 3 + i = a + (3 + i) by omega, this, ← show a + 3 + i = a + (3 + i) by omega]
    exact O.by8 q i hi
   ·rw [hcl c hc] at q1
    rw [h1'] at q2
    obtain ⟨q3, q4⟩ := O.pl hz c hc q1 q2
    refine ⟨q3, fun i hi => ?_⟩
    have := ho (3 + i) (by omega)
    rw [show a + 3 + i = a + (3 + i) by omega, this, ← show a + 3 + i = a + (3 + i) by omega]
    exact q4 i hi
theorem GI.roots {R' : List Int} (I : GI M R CL z) (hR : ∀ i, R'.getD (i + 1) 0 = R.getD (i + 1) 0) : GI M R' CL z where
 z0 := I.z0
 z1 := I.z1
 rk := fun i hi => by rw [show 2 + i = (1 + i) + 1 by omega, hR, show (1 + i) + 1 = 2 + i by omega]; exact I.rk i hi
 kn := I.kn
 dj := I.dj
 k9 := I.k9
 k10 := I.k10
 k11 := I.k11
 k8 := I.k8
 k1 := I.k1
 cl := fun c hc => by
  have C := I.cl c hc
  refine ⟨C.pt, C.pl, C.hd, ?_, ?_, C.sz, C.kd⟩
  ·rw [hR 2]; exact C.cl
  ·rw [hR 12]; exact C.nm
 ob := fun a ha hd hh => by
  have O := I.ob a ha hd hh
  refine ⟨O.len, O.fmt, ?_, ?_, O.by8, ?_, O.pl⟩
  ·rw [hR 10]; exact O.arr
  ·rw [hR 11, hR 12]; exact O.str
  ·rw [hR 2]; exact O.cls
theorem GI.newK (I : GI M R CL z) {i : Nat} (hi : (i = 9 ∧ f = 0) ∨ ((i = 10 ∨ i = 11) ∧ f = 2) ∨ (i = 8 ∧ f = 1)) (hl : l.length ≤ 256) (hb : f = 2 → ∀ v ∈ l, ∃ c : Nat, c < 256 ∧ v = .ofNat c) : NewI M R CL f (R.getD (2 + i) 0) l := by
 have r := fun j hj => I.rk j hj
 have hi16 : i < 16 := by omega
 have ne : ∀ j, j < 16 → (R.getD (2 + i) 0 = R.getD (2 + j) 0 ↔ i = j) := fun j hj => by
  rw [r i hi16, r j hj]
  constructor
  ·intro q
   have := Int.ofNat.inj q
   omega
  ·intro q; rw [q]
 refine ⟨hl, by omega, fun q => ?_, fun q => ?_, hb, fun q => ?_, fun c hc q1 q2 => ?_⟩
 ·have := (ne 9 (by omega)).1 q
  omega
 ·have : i = 10 ∨ i = 11 := q.elim (fun q => .inl ((ne 10 (by omega)).1 q)) (fun q => .inr ((ne 11 (by omega)).1 q))
  omega
 ·have := (ne 1 (by omega)).1 q
  omega
 ·exfalso
  rw [r i hi16] at q2
  have e := Int.ofNat.inj q2
  have hc' : c = 3 + 9 * i := by omega
  subst hc'
  rcases hi with ⟨rfl, _⟩ | ⟨rfl | rfl, _⟩ | ⟨rfl, _⟩
  ·rw [show 3 + 9 * 9 + 8 = 92 from rfl, I.k9] at q1; cases q1
  ·rw [show 3 + 9 * 10 + 8 = 101 from rfl, I.k10] at q1; cases q1
  ·rw [show 3 + 9 * 11 + 8 = 110 from rfl, I.k11] at q1; cases q1
  ·rw [show 3 + 9 * 8 + 8 = 83 from rfl, I.k8] at q1; cases q1
end
end Go.Dd

namespace Go.Dd
open Go.Proofs
theorem nH {w : Int} {pl : WT} (h : bV w pl ≠ 0) : eD w pl = true := by
 unfold eD
 split <;> first | rfl | skip
 rw [aOa h]
 simp
theorem vY {w : Int} {pl : WT} {k : Nat} (hk : k < 16000000) (h : eD w pl = true) : eD w (pl.set k (.ofNat 1)) = true := by
 by_cases ha : bV w pl = 0
 ·unfold eD at h ⊢
  by_cases w0 : w = 0
  ·subst w0; rfl
  ·by_cases w2 : w = 2
   ·subst w2; rfl
   ·by_cases w4 : w = 4
    ·subst w4; rfl
    ·split
     ·exact absurd rfl w0
     ·exact absurd rfl w2
     ·exact absurd rfl w4
     ·split at h
      ·exact absurd rfl w0
      ·exact absurd rfl w2
      ·exact absurd rfl w4
      ·rw [ha] at h
       have : cV w = true := by simpa using h
       rw [this]
       rfl
 ·exact nH (by rw [sK hk ha]; exact ha)
def dAq (M : MemV) (R : List Int) (es : List (DV × DV)) : Prop := ∀ e ∈ es, ∃ s x, e = (.s s, iD x) ∧ TxO M (R.getD 13 0) x s
theorem cGp {es : List (DV × DV)} (s : List Nat) : (∀ e ∈ es, ∃ (k : List Nat) (x : Int), e = (.s k, iD x)) →
  (∃ x, cY .string (.s s) es = some (some (iD x)) ∧ (DV.s s, iD x) ∈ es) ∨ (cY .string (.s s) es = some none ∧ ∀ i, yQ .string (.s s) es i = some none) := by
 induction es with
 | nil => exact fun _ => .inr ⟨rfl, fun _ => rfl⟩
 | cons e es ih =>
  intro h
  obtain ⟨k, x, he⟩ := h e (by simp)
  subst he
  cases hk : uI s k with
  | true =>
   have := (lZ s k).1 hk
   subst this
   exact .inl ⟨x, by simp only [cY, mL, hk], by simp⟩
  | false =>
   rcases ih fun e he => h e (by simp [he]) with ⟨y, h1, h2⟩ | ⟨h1, h2⟩
   ·exact .inl ⟨y, by simp only [cY, mL, hk]; exact h1, by simp [h2]⟩
   ·exact .inr ⟨by simp only [cY, mL, hk]; exact h1, fun i => by simp only [yQ, mL, hk]; exact h2 _⟩
theorem bFp {es l : List (DV × DV)} {k v : DV} (h : cY .string k es = some (some v)) : cY .string k (es ++ l) = some (some v) := by
 induction es with
 | nil => cases h
 | cons e es ih =>
  simp only [List.cons_append, cY] at h ⊢
  split
  ·rename_i hk; rw [hk] at h; exact h
  ·rename_i hk; rw [hk] at h; exact ih h
  ·rename_i hk; rw [hk] at h; cases h
theorem bUi {es : List (DV × DV)} {s : List Nat} {v : DV} (h : cY .string (.s s) es = some none) : cY .string (.s s) (es ++ [(.s s, v)]) = some (some v) := by
 induction es with
 | nil =>
  have : uI s s = true := (lZ s s).2 rfl
  simp only [List.nil_append, cY, mL, this]
 | cons e es ih =>
  simp only [List.cons_append, cY] at h ⊢
  split
  ·rename_i hk; rw [hk] at h; cases h
  ·rename_i hk; rw [hk] at h; exact ih h
  ·rename_i hk; rw [hk] at h; cases h
structure Wk (h : Hp) (M : MemV) (R : List Int) (es : List (DV × DV)) : Prop where
 W : Wd h M R es
 G : Good M
 sy : dAq M R es
 r0 : eD (R.getD 0 0) M.pl = true
 rk : ∀ i, i < 16 → bV (R.getD (2 + i) 0) M.pl ≠ 0
structure Stay (k : Nat) (M M' : MemV) (R R' : List Int) (es es' : List (DV × DV)) : Prop where
 n : M'.n = M.n
 fin : M'.fin ≤ M.fin + k
 made : M'.made ≤ M.made + k
 lo : M.fin ≤ M'.fin
 tx : ∀ cls o s, TxO M cls o s → TxO M' cls o s
 at' : ∀ o, bV o M.pl ≠ 0 → bV o M'.pl = bV o M.pl
 r : ∀ i, R'.getD (i + 1) 0 = R.getD (i + 1) 0
 fd : ∀ s v, cY .string (.s s) es = some (some v) → cY .string (.s s) es' = some (some v)
 gi : ∀ CL, GI M R CL → GI M' R' CL
 old : ∀ j, j < M.fin → M'.t.get j = M.t.get j
theorem Stay.refl (k : Nat) (M : MemV) (R : List Int) (es : List (DV × DV)) : Stay k M M R R es es := ⟨rfl, by omega, by omega, by omega, fun _ _ _ h => h, fun _ _ => rfl, fun _ => rfl, fun _ _ h => h, fun _ h => h, fun _ _ => rfl⟩
theorem Stay.trans {a b : Nat} {M M' M2 : MemV} {R R' R2 : List Int} {es es' es2 : List (DV × DV)} (h : Stay a M M' R R' es es') (k : Stay b M' M2 R' R2 es' es2) : Stay (a + b) M M2 R R2 es es2 :=
 ⟨k.n.trans h.n, by have := h.fin; have := k.fin; omega, by have := h.made; have := k.made; omega, by have := h.lo; have := k.lo; omega, fun c o s t => k.tx _ _ _ (h.tx _ _ _ t),
  fun o ho => by have h1 := h.at' o ho; rw [k.at' o (by rw [h1]; exact ho), h1], fun i => (k.r i).trans (h.r i), fun s v e => k.fd s v (h.fd s v e), fun CL I => k.gi CL (h.gi CL I), fun j hj => by rw [k.old j (by have := h.lo; omega)]; exact h.old j hj⟩
theorem Grown.stay {M M' : MemV} {f : Nat} {cls : Int} {l : List Int} (g : Grown M M' f cls l) (G : Good M) (R : List Int) (es : List (DV × DV)) (N : ∀ CL, GI M R CL → NewI M R CL f cls l) : Stay (l.length + 3) M M' R R es es :=
 ⟨g.n, by rw [g.fin]; exact Nat.le_refl _, by rw [g.made]; omega, by rw [g.fin]; omega, fun _ _ _ t => g.txo G t, fun o ho => by rw [g.pl]; exact sK (by have := G.le; have := G.hi; omega) ho, fun _ => rfl, fun _ _ h => h, fun CL I => g.gi G I (N CL I), fun j hj => g.old j hj⟩
theorem Grown.wk {h h' : Hp} {M M' : MemV} {R : List Int} {es : List (DV × DV)} {f : Nat} {cls : Int} {l : List Int} (g : Grown M M' f cls l) (K : Wk h M R es) (W' : Wd h' M' R es) (hc : bV cls M.pl ≠ 0) (hf : f ≤ 2) (h256 : l.length ≤ 256) (room : M.fin + l.length + 3 ≤ M.n) (hm : M.made < 899999) : Wk h' M' R es := by
 have hk : M.fin < 16000000 := by have := K.G.le; have := K.G.hi; omega
 refine ⟨W', g.good K.G hc hf h256 room hm, fun e he => ?_, by rw [g.pl]; exact vY hk K.r0, fun i hi => by rw [g.pl, sK hk (K.rk i hi)]; exact K.rk i hi⟩
 obtain ⟨s, x, h1, h2⟩ := K.sy e he
 exact ⟨s, x, h1, g.txo K.G h2⟩
section
variable {h : Hp} {M : MemV} {R : List Int} {es : List (DV × DV)}
theorem Wd.setR0 (W : Wd h M R es) (v : Int) : aI 1 (.p (aL 4) 0) (iD v) h = some (aU, ⟨h.next, Tr.set (.row .ex ((R.set 0 v).map iD)) (aL 4) h.bl⟩) ∧ Wd ⟨h.next, Tr.set (.row .ex ((R.set 0 v).map iD)) (aL 4) h.bl⟩ M (R.set 0 v) es ∧
  Up h ⟨h.next, Tr.set (.row .ex ((R.set 0 v).map iD)) (aL 4) h.bl⟩ := by
 obtain ⟨m1, m2, m3, m4, m5, m6⟩ := iA W.mem
 have ne : ∀ b : Pos, b.toNat ≠ 1027 → (Tr.set (.row .ex ((R.set 0 v).map iD)) (aL 4) h.bl).get b = h.bl.get b := fun b hb => by
  rw [dNb]
  intro e; rw [e, pn4] at hb; exact hb rfl
 refine ⟨?_, ⟨(ne _ (by rw [pn7]; omega)).trans W.w, (by show (Tr.set _ (aL 4) _).get (aL 4) = _; exact dNc _ _ _), by simp [W.rl], (ne _ (by rw [pn5]; omega)).trans W.sy, ?_, W.nx, W.wb, W.pb⟩, ⟨Nat.le_refl _, fun b h1 h2 => ne b (by omega)⟩⟩
 ·have hp : fL 0 (R.map iD) [iD v] = some ((R.set 0 v).map iD) := by
   have hl := W.rl
   cases R with
   | nil => simp at hl
   | cons a l =>
    show jW (iD a :: l.map iD) [iD v] = _
    have : jW (l.map iD) [] = some (l.map iD) := by cases l.map iD <;> rfl
    simp only [jW, DV.one, Bool.and_self, if_true, this, Option.map_some]
    rfl
  have hw : Kind.ex.writable = true := rfl
  simp only [aI, dC, List.length_singleton, if_true, cU, W.r, hw, hp]
 ·exact jS ((ne _ (by rw [pn3]; omega)).trans m1) ((ne _ (by rw [W.wb, pn1]; omega)).trans m2) ((ne _ (by rw [W.pb, pn2]; omega)).trans m3) m4 m5 m6
theorem Wd.setS (W : Wd h M R es) (es' : List (DV × DV)) : Wd ⟨h.next, Tr.set (.mp es') (aL 5) h.bl⟩ M R es' ∧ Up h ⟨h.next, Tr.set (.mp es') (aL 5) h.bl⟩ := by
 obtain ⟨m1, m2, m3, m4, m5, m6⟩ := iA W.mem
 have ne : ∀ b : Pos, b.toNat ≠ 1028 → (Tr.set (.mp es') (aL 5) h.bl).get b = h.bl.get b := fun b hb => by
  rw [dNb]
  intro e; rw [e, pn5] at hb; exact hb rfl
 exact ⟨⟨(ne _ (by rw [pn7]; omega)).trans W.w, (ne _ (by rw [pn4]; omega)).trans W.r, W.rl, (by show (Tr.set _ (aL 5) _).get (aL 5) = _; exact dNc _ _ _),
  jS ((ne _ (by rw [pn3]; omega)).trans m1) ((ne _ (by rw [W.wb, pn1]; omega)).trans m2) ((ne _ (by rw [W.pb, pn2]; omega)).trans m3) m4 m5 m6, W.nx, W.wb, W.pb⟩, ⟨Nat.le_refl _, fun b h1 h2 => ne b (by omega)⟩⟩
theorem Wk.push (K : Wk h M R es) {x y : Int} (hx : eD x M.pl = true) (hy : eD y M.pl = true) (room : M.fin + 5 ≤ M.n) (hm : M.made < 899999) {n : Nat} (hn : 256 < n) :
  ∃ h' M', cA (n + 2) 39 [.p (aL 7) 0, .i .i64 x, .i .i64 y] h = some (.t [.i .i64 (.ofNat (M.fin * 2)), .i .i64 (.ofNat 0)], h') ∧ Wk h' M' R es ∧ Up h h' ∧ Grown M M' 0 (R.getD 11 0) [x, y] := by
 have hk : M.fin < 16000000 := by have := K.G.le; have := K.G.hi; omega
 have fl : aN [.i .i64 (Int.ofNat 0), .i .i64 (Int.ofNat 0)] 2 [(0, 1, .i .i64 x), (1, 1, .i .i64 y)] h = some (.l h.next 0 2 2, ⟨h.next.succ, Tr.set (.row .ex ([x, y].map iD)) h.next h.bl⟩) := by
  simp [aN, jK, dC]
 obtain ⟨U1, W1⟩ := K.W.new (.row .ex ([x, y].map iD))
 have S : SlI (.l h.next 0 2 2) [x, y] ⟨h.next.succ, Tr.set (.row .ex ([x, y].map iD)) h.next h.bl⟩ := .inr ⟨h.next, 2, .ex, rfl, dNc _ _ _, .inr (Nat.le_trans (by decide) K.W.nx), by show _ < (h.next.succ).toNat; rw [dNd]; omega⟩
 have K1 : Wk ⟨h.next.succ, Tr.set (.row .ex ([x, y].map iD)) h.next h.bl⟩ M R es := ⟨W1, K.G, K.sy, K.r0, K.rk⟩
 obtain ⟨h', M', e1, W2, U2, _, g⟩ := W1.make61 K.G (K.rk 9 (by omega)) (f := 0) (by omega) S (by simp) (by simpa using room) (fun v hv => by
  simp only [List.mem_cons, List.not_mem_nil, or_false] at hv
  rcases hv with rfl | rfl
  ·exact vY hk hx
  ·exact vY hk hy) hn
 refine ⟨h', M', ?_, g.wk K1 W2 (K.rk 9 (by omega)) (by omega) (by simp) (by simpa using room) hm, U1.trans U2, g⟩
 rw [qH 39 rfl, cMw]
 unfold s39
 simp only [g0, g1, g2, aO, K.W.known (show 9 < 16 by omega), fl]
 rw [show (2 : Nat) + 9 = 11 from rfl] at e1 ⊢
 rw [e1]
 simp only [aO, zF, xN]
theorem Wk.symbol (K : Wk h M R es) {s : List Nat} (hs : ∀ c ∈ s, c < 256) (room : M.fin + 70 ≤ M.n) (hm : M.made < 800000) {n : Nat} (hn : 300 < n) :
  ∃ a e h' M' R' es', cA (n + 3) 10 [.p (aL 7) 0, .s s] h = some (.t [.i .i64 a, .i .i64 e], h') ∧ Wk h' M' R' es' ∧ Up h h' ∧ Stay 80 M M' R R' es es' ∧
   ((¬ (1 ≤ s.length ∧ s.length ≤ 60) ∧ e = 1 ∧ a = 0) ∨ ((1 ≤ s.length ∧ s.length ≤ 60) ∧ e = 0 ∧ cY .string (.s s) es' = some (some (iD a)) ∧ TxO M' (R.getD 13 0) a s)) := by
 rw [qH 10 rfl, cNz]
 unfold s10
 have el : ∀ h, dN (.s s) h = some (.i .i64 (s.length : Int), h) := fun h => rfl
 by_cases c1 : s.length < 1
 ·refine ⟨0, 1, h, M, R, es, ?_, K, Up.refl h, Stay.refl _ _ _ _, .inl ⟨by omega, rfl, rfl⟩⟩
  have d1 : decide ((s.length : Int) < Int.ofNat 1) = true := decide_eq_true (by simp; omega)
  simp only [g0, g1, el, aO, cG, d1, fN, iK, bQ, bN]
  rfl
 ·have d1 : decide ((s.length : Int) < Int.ofNat 1) = false := decide_eq_false (by simp; omega)
  by_cases c2 : s.length > 60
  ·refine ⟨0, 1, h, M, R, es, ?_, K, Up.refl h, Stay.refl _ _ _ _, .inl ⟨by omega, rfl, rfl⟩⟩
   have d2 : decide ((s.length : Int) > Int.ofNat 60) = true := decide_eq_true (by simp; omega)
   simp only [g0, g1, el, aO, cG, gA, d1, d2, gI, bK, bN]
   rfl
  ·have d2 : decide ((s.length : Int) > Int.ofNat 60) = false := decide_eq_false (by simp; omega)
   have hl : 1 ≤ s.length ∧ s.length ≤ 60 := by omega
   simp only [g0, g1, el, aO, cG, gA, d1, d2, gI, bK, bG, gU, fR, K.W.l2]
   rcases cGp s (fun e he => by obtain ⟨k, x, h1, _⟩ := K.sy e he; exact ⟨k, x, h1⟩) with ⟨x, f1, f2⟩ | ⟨f1, f2⟩
   ·
    obtain ⟨k, y, e1, T⟩ := K.sy _ f2
    simp only [bP, DV.s.injEq, DV.i.injEq, true_and] at e1
    obtain ⟨rfl, rfl⟩ := e1
    have hx : x ≠ 0 := fun e => T.at0 (by rw [e]; rfl)
    have z1 : (x != Int.ofNat 0) = true := by
     have : (x == Int.ofNat 0) = false := by simpa using hx
     rw [bne, this]; rfl
    have lk : eK .string (.i .i64 (Int.ofNat 0)) false (.m (aL 5)) (.s s) h = some (iD x, h) := by
     simp only [eK, gY, K.W.sy, f1, cond_false]
    refine ⟨x, 0, h, M, R, es, ?_, K, Up.refl h, Stay.refl _ _ _ _, .inr ⟨hl, rfl, f1, T⟩⟩
    simp only [lk, aO, eN, z1, bN]
    rfl
   ·
    have lk : eK .string (.i .i64 (Int.ofNat 0)) false (.m (aL 5)) (.s s) h = some (.i .i64 (Int.ofNat 0), h) := by
     simp only [eK, gY, K.W.sy, f1, cond_false]
    have z0 : (Int.ofNat 0 != Int.ofNat 0) = false := rfl
    obtain ⟨h1, M1, e1, W1, U1, g1⟩ := K.W.bytes49 K.G (K.rk 11 (by omega)) hs (by omega) (by omega) hn
    have K1 : Wk h1 M1 R es := g1.wk K W1 (K.rk 11 (by omega)) (by omega) (by simp; omega) (by simp; omega) (by omega)
    have T1 : TxO M1 (R.getD 13 0) (.ofNat (M.fin * 2)) s := g1.new_txo K.G hs (by omega)
    have hf1 := g1.fin
    have hn1 := g1.n
    have hd1 := g1.made
    rw [List.length_map] at hf1
    obtain ⟨h2, M2, e2, K2, U2, g2⟩ := K1.push (x := .ofNat (M.fin * 2)) (y := R.getD 0 0) (nH T1.at0) K1.r0 (by omega) (by omega) (n := n) (by omega)
    have T2 := g2.txo K1.G T1
    have G1 := K1.G
    have ha : bV (.ofNat (M1.fin * 2)) M2.pl = M1.fin := by rw [g2.pl]; exact yX G1.lo (by have := G1.le; have := G1.hi; omega)
    obtain ⟨e3, W3, U3⟩ := K2.W.setR0 (.ofNat (M1.fin * 2))
    obtain ⟨W4, U4⟩ := W3.setS (es ++ [(.s s, .i .i64 (Int.ofNat 0))])
    obtain ⟨W5, U5⟩ := W4.setS (es ++ [(.s s, .i .i64 (.ofNat (M.fin * 2)))])
    have rset : ∀ i, (R.set 0 (Int.ofNat (M1.fin * 2))).getD (i + 1) 0 = R.getD (i + 1) 0 := fun i => by
     simp [List.getD, List.getElem?_set]
    have me : fT .string (.i .i64 (Int.ofNat 0)) (.m (aL 5)) (.s s) ⟨h2.next, Tr.set (.row .ex ((R.set 0 (Int.ofNat (M1.fin * 2))).map iD)) (aL 4) h2.bl⟩ =
      some (.t [.i .i64 (Int.ofNat 0), .i .i64 (.ofNat es.length)], ⟨h2.next, Tr.set (.mp (es ++ [(.s s, .i .i64 (Int.ofNat 0))])) (aL 5) (Tr.set (.row .ex ((R.set 0 (Int.ofNat (M1.fin * 2))).map iD)) (aL 4) h2.bl)⟩) := by
     simp only [fT, W3.sy, f2]
     rfl
    have ms : eB (.m (aL 5)) (.i .i64 (.ofNat es.length)) (.i .i64 (.ofNat (M.fin * 2))) ⟨h2.next, Tr.set (.mp (es ++ [(.s s, .i .i64 (Int.ofNat 0))])) (aL 5) (Tr.set (.row .ex ((R.set 0 (Int.ofNat (M1.fin * 2))).map iD)) (aL 4) h2.bl)⟩ =
      some (aU, ⟨h2.next, Tr.set (.mp (es ++ [(.s s, .i .i64 (.ofNat (M.fin * 2)))])) (aL 5) (Tr.set (.mp (es ++ [(.s s, .i .i64 (Int.ofNat 0))])) (aL 5) (Tr.set (.row .ex ((R.set 0 (Int.ofNat (M1.fin * 2))).map iD)) (aL 4) h2.bl))⟩) := by
     have q1 : (es ++ [(DV.s s, DV.i .i64 (Int.ofNat 0))])[es.length]? = some (.s s, .i .i64 (Int.ofNat 0)) := by simp
     have q2 : (es ++ [(DV.s s, DV.i .i64 (Int.ofNat 0))]).set es.length (.s s, .i .i64 (.ofNat (M.fin * 2))) = es ++ [(.s s, .i .i64 (.ofNat (M.fin * 2)))] := by simp
     simp only [eB, W4.sy, q1, q2]
    have ix : ∀ h, aE 1 (.l (aL 4) 0 18 18) (.i .i64 (Int.ofNat 0)) h = some (.p (aL 4) 0, h) := fun h => rfl
    refine ⟨.ofNat (M.fin * 2), 0, _, M2, R.set 0 (.ofNat (M1.fin * 2)), es ++ [(.s s, .i .i64 (.ofNat (M.fin * 2)))], ?_, ⟨W5, K2.G, ?_, ?_, ?_⟩, (((U1.trans U2).trans U3).trans U4).trans U5, ?_, .inr ⟨hl, rfl, bUi f1, T2⟩⟩
    ·simp only [lk, aO, eN, z0, bG, K.W.known (show 11 < 16 by omega), show 2 + 11 = 13 from rfl, e1, zF, xN, K1.W.l1, ix, gU, fR, K1.W.root (show 0 < 18 by omega), e2, K2.W.l1, K2.W.l2, e3, me, ms]
     rfl
    ·intro e he
     simp only [List.mem_append, List.mem_singleton] at he
     rcases he with he | rfl
     ·obtain ⟨k, y, q1, q2⟩ := K2.sy e he
      exact ⟨k, y, q1, by rw [show (13 : Nat) = 12 + 1 from rfl, rset]; exact q2⟩
     ·exact ⟨s, _, rfl, by rw [show (13 : Nat) = 12 + 1 from rfl, rset]; exact T2⟩
    ·have : (R.set 0 (Int.ofNat (M1.fin * 2))).getD 0 0 = Int.ofNat (M1.fin * 2) := by
      have hrl := K.W.rl
      cases R with
      | nil => simp at hrl
      | cons a l => rfl
     rw [this]
     exact nH (by rw [ha]; have := G1.lo; omega)
    ·intro i hi
     rw [show 2 + i = (1 + i) + 1 by omega, rset, show (1 + i) + 1 = 2 + i by omega]
     exact K2.rk i hi
    ·have st := (g1.stay K.G R es (fun CL I => I.newK (i := 11) (.inr (.inl ⟨.inr rfl, rfl⟩)) (by rw [List.length_map]; omega) (fun _ v hv => by obtain ⟨c, q1, q2⟩ := List.mem_map.1 hv; exact ⟨c, hs c q1, q2.symm⟩))).trans (g2.stay K1.G R es (fun CL I => I.newK (i := 9) (.inl ⟨rfl, rfl⟩) (by simp) (fun q => by cases q)))
     rw [List.length_map] at st
     have hf2 := g2.fin
     have hd2 := g2.made
     refine ⟨st.n, ?_, ?_, st.lo, st.tx, st.at', rset, fun k v e => bFp e, fun CL I => (st.gi CL I).roots rset, st.old⟩
     ·simp at hf2; omega
     ·omega
theorem Wk.string (K : Wk h M R es) {s : List Nat} (hs : ∀ c ∈ s, c < 256) (room : M.fin + 260 ≤ M.n) (hm : M.made < 800000) {n : Nat} (hn : 300 < n) :
  ∃ a e h' M', cA (n + 3) 117 [.p (aL 7) 0, .s s] h = some (.t [.i .i64 a, .i .i64 e], h') ∧ Wk h' M' R es ∧ Up h h' ∧ Stay 260 M M' R R es es ∧
   ((¬ s.length ≤ 250 ∧ e = 1 ∧ a = 0) ∨ (s.length ≤ 250 ∧ e = 0 ∧ a = .ofNat (M.fin * 2) ∧ TxO M' (R.getD 12 0) a s)) := by
 rw [qH 117 rfl, bSj]
 unfold s117
 have el : ∀ h, dN (.s s) h = some (.i .i64 (s.length : Int), h) := fun h => rfl
 by_cases c1 : s.length > 250
 ·refine ⟨0, 1, h, M, ?_, K, Up.refl h, Stay.refl _ _ _ _, .inl ⟨by omega, rfl, rfl⟩⟩
  have d1 : decide ((s.length : Int) > Int.ofNat 250) = true := decide_eq_true (by simp; omega)
  simp only [g0, g1, el, aO, gA, d1, bN]
  rfl
 ·have d1 : decide ((s.length : Int) > Int.ofNat 250) = false := decide_eq_false (by simp; omega)
  obtain ⟨h1, M1, e1, W1, U1, g1⟩ := K.W.bytes49 K.G (K.rk 10 (by omega)) hs (by omega) (by omega) hn
  have K1 : Wk h1 M1 R es := g1.wk K W1 (K.rk 10 (by omega)) (by omega) (by simp; omega) (by simp; omega) (by omega)
  have T1 : TxO M1 (R.getD 12 0) (.ofNat (M.fin * 2)) s := g1.new_txo K.G hs (by omega)
  refine ⟨.ofNat (M.fin * 2), 0, h1, M1, ?_, K1, U1, ?_, .inr ⟨by omega, rfl, rfl, T1⟩⟩
  ·simp only [g0, Dd.g1, el, aO, gA, d1, bG, K.W.known (show 10 < 16 by omega), show 2 + 10 = 12 from rfl, e1, zF, xN]
   rfl
  ·have st := g1.stay K.G R es (fun CL I => I.newK (i := 10) (.inr (.inl ⟨.inl rfl, rfl⟩)) (by rw [List.length_map]; omega) (fun _ v hv => by obtain ⟨c, q1, q2⟩ := List.mem_map.1 hv; exact ⟨c, hs c q1, q2.symm⟩))
   rw [List.length_map] at st
   exact ⟨st.n, by have := st.fin; omega, by have := st.made; omega, st.lo, st.tx, st.at', st.r, st.fd, st.gi, st.old⟩
end
end Go.Dd

namespace Go.Dd
open Go.Proofs
noncomputable def byE (t : WT) (s : List Nat) : Nat → Bool := List.rec (motive := fun _ => Nat → Bool) (fun _ => true) (fun c _ ih a => Nat.blt c 256 && (gX (t.get a) (.ofNat c) && ih (Nat.add a 1))) s
noncomputable def bJy (M : MemV) (cls : Int) (e : List Nat × Nat) : Bool :=
 !(Nat.beq (bV (.ofNat e.2) M.pl) 0) && (gX (M.t.get (bV (.ofNat e.2) M.pl)) (.ofNat (Nat.add (Nat.mul e.1.length 4) 2)) && (gX (M.t.get (Nat.add (bV (.ofNat e.2) M.pl) 1)) cls && (Nat.ble e.1.length 256 && byE M.t e.1 (Nat.add (bV (.ofNat e.2) M.pl) 3))))
theorem bUy (t : WT) : ∀ (s : List Nat) (a : Nat), byE t s a = true → (∀ c ∈ s, c < 256) ∧ ∀ i c, s[i]? = some c → t.get (a + i) = .ofNat c
 | [], a, _ => ⟨by simp, fun i c h => by simp at h⟩
 | c :: s, a, h => by
  change (Nat.blt c 256 && (gX (t.get a) (.ofNat c) && byE t s (a + 1))) = true at h
  simp only [Bool.and_eq_true, gK, decide_eq_true_eq] at h
  obtain ⟨h1, h2⟩ := bUy t s (a + 1) h.2.2
  refine ⟨fun d hd => ?_, fun i d hi => ?_⟩
  ·simp only [List.mem_cons] at hd
   rcases hd with rfl | hd
   ·exact h.1
   ·exact h1 d hd
  ·cases i with
   | zero =>
    simp only [List.getElem?_cons_zero, bC] at hi
    subst hi
    exact nS _ _ h.2.1
   | succ i =>
    rw [show a + (i + 1) = a + 1 + i by omega]
    exact h2 i d (by simpa using hi)
theorem aTx {M : MemV} {cls : Int} {e : List Nat × Nat} (h : bJy M cls e = true) : TxO M cls (.ofNat e.2) e.1 := by
 unfold bJy at h
 simp only [Bool.and_eq_true, jO, decide_eq_true_eq] at h
 obtain ⟨h1, h2, h3, h4, h5⟩ := h
 obtain ⟨b1, b2⟩ := bUy _ _ _ h5
 refine ⟨fun e => (by rw [e] at h1; cases h1), nS _ _ h2, nS _ _ h3, b1, h4, b2⟩
noncomputable def cXb (p : List Nat × Nat → Bool) (l : List (List Nat × Nat)) : Bool := List.rec (motive := fun _ => Bool) true (fun x _ ih => p x && ih) l
theorem aLn {p : List Nat × Nat → Bool} : ∀ {l : List (List Nat × Nat)}, cXb p l = true → ∀ a ∈ l, p a = true
 | [], _, a, h => by cases h
 | x :: l, hl, a, h => by
  change (p x && cXb p l) = true at hl
  simp only [Bool.and_eq_true] at hl
  simp only [List.mem_cons] at h
  rcases h with rfl | h
  ·exact hl.1
  ·exact aLn hl.2 a h
theorem aJz : ∀ (l : List (List Nat × Nat)) (e : DV × DV), e ∈ bTq l → ∃ x ∈ l, e = (.s x.1, .i .i64 (.ofNat x.2))
 | [], e, h => by cases h
 | x :: l, e, h => by
  change e ∈ (DV.s x.1, DV.i .i64 (.ofNat x.2)) :: bTq l at h
  simp only [List.mem_cons] at h
  rcases h with rfl | h
  ·exact ⟨x, by simp, rfl⟩
  ·obtain ⟨y, h1, h2⟩ := aJz l e h
   exact ⟨y, by simp [h1], h2⟩
theorem aXx (s : List Nat) : uI s s = true := (lZ s s).2 rfl
end Go.Dd

namespace Go.Dd
open Go.Proofs
theorem bFk (x : Int) : gX x x = true := by
 cases x with
 | ofNat n => exact Nat.beq_refl n
 | negSucc n => exact Nat.beq_refl n
theorem dF (x y : Int) : gX x y = true ↔ x = y := ⟨nS x y, fun e => by rw [e]; exact bFk y⟩
noncomputable def bVt (p : Nat → Bool) (n : Nat) : Bool := Nat.rec (motive := fun _ => Bool) true (fun i ih => p i && ih) n
theorem uS {p : Nat → Bool} : ∀ {n : Nat}, bVt p n = true → ∀ i, i < n → p i = true
 | 0, _, i, h => by omega
 | n + 1, hl, i, h => by
  change (p n && bVt p n) = true at hl
  simp only [Bool.and_eq_true] at hl
  by_cases e : i = n
  ·rw [e]; exact hl.1
  ·exact uS hl.2 i (by omega)
noncomputable def cKf (a : Nat) (l : List Nat) : Bool := List.rec (motive := fun _ => Bool) false (fun x _ ih => Nat.beq a x || ih) l
theorem xG {a : Nat} : ∀ {l : List Nat}, cKf a l = true → a ∈ l
 | [], h => by cases h
 | x :: l, h => by
  change (Nat.beq a x || cKf a l) = true at h
  simp only [Bool.or_eq_true] at h
  rcases h with h | h
  ·rw [Nat.eq_of_beq_eq_true h]; exact List.mem_cons_self
  ·exact List.mem_cons_of_mem _ (xG h)
noncomputable def byB (v : Int) : Bool := match v with
 | .ofNat c => Nat.blt c 256
 | .negSucc _ => false
noncomputable def aQr (a b : Bool) : Bool := bif a then b else true
theorem lS {a b : Bool} (h : aQr a b = true) (ha : a = true) : b = true := by rw [ha] at h; exact h
noncomputable def obB (M : MemV) (R : List Int) (CL : List Nat) (a hd : Nat) : Bool :=
 Nat.ble (Nat.div hd 4) 256 && (Nat.ble (Nat.mod hd 4) 2 && (aQr (gX (M.t.get (Nat.add a 1)) (R.getD 11 0)) (Nat.beq (Nat.mod hd 4) 0) &&
  (aQr (gX (M.t.get (Nat.add a 1)) (R.getD 12 0)) (Nat.beq (Nat.mod hd 4) 2) && (aQr (gX (M.t.get (Nat.add a 1)) (R.getD 13 0)) (Nat.beq (Nat.mod hd 4) 2) &&
  (aQr (Nat.beq (Nat.mod hd 4) 2) (bVt (fun i => byB (M.t.get (Nat.add (Nat.add a 3) i))) (Nat.div hd 4)) && (aQr (gX (M.t.get (Nat.add a 1)) (R.getD 3 0)) (cKf a CL) &&
  aKb (fun c => aQr (gX (M.t.get (Nat.add c 8)) 1) (!(gX (M.t.get (Nat.add a 1)) (.ofNat (Nat.mul 2 c))))) CL))))))
theorem cUc {M : MemV} {R : List Int} {CL : List Nat} {a hd : Nat} (h : obB M R CL a hd = true) : ObI M R CL a hd := by
 unfold obB at h
 simp only [Bool.and_eq_true, jO, decide_eq_true_eq] at h
 obtain ⟨h1, h2, h3, h4, h5, h6, h7, h8⟩ := h
 refine ⟨h1, h2, fun q => ?_, fun q => ?_, fun q i hi => ?_, fun q => ?_, fun _ c hc q1 q2 => ?_⟩
 ·exact Nat.eq_of_beq_eq_true (lS h3 ((dF _ _).2 q))
 ·rcases q with q | q
  ·exact Nat.eq_of_beq_eq_true (lS h4 ((dF _ _).2 q))
  ·exact Nat.eq_of_beq_eq_true (lS h5 ((dF _ _).2 q))
 ·have hb := uS (lS h6 (show Nat.beq (Nat.mod hd 4) 2 = true by rw [show Nat.mod hd 4 = 2 from q]; rfl)) i hi
  change byB (M.t.get (a + 3 + i)) = true at hb
  cases hv : M.t.get (a + 3 + i) with
  | ofNat c => rw [hv] at hb; exact ⟨c, by simpa [byB, gK] using hb, rfl⟩
  | negSucc c => rw [hv] at hb; cases hb
 ·exact xG (lS h7 ((dF _ _).2 q))
 ·exfalso
  have q3 := lS (jU h8 c hc) ((dF _ _).2 q1)
  rw [(dF _ _).2 (show M.t.get (Nat.add a 1) = .ofNat (Nat.mul 2 c) from q2)] at q3
  cases q3
noncomputable def aAm (M : MemV) (a : Nat) (p : Nat → Bool) : Bool := match M.t.get a with
 | .ofNat hd => p hd
 | .negSucc _ => true
noncomputable def clB (M : MemV) (R : List Int) (c : Nat) : Bool :=
 Nat.ble 3 c && (Nat.ble c 131072 && (!(gX (M.pl.get c) 0) && (gX (M.t.get c) (.ofNat 24) && (gX (M.t.get (Nat.add c 1)) (R.getD 3 0) &&
  (aAm M (Nat.add c 5) (fun s => Nat.ble s 33 && Nat.beq (Nat.mod s 2) 1) && (aAm M (Nat.add c 8) (fun s => Nat.ble s 7 && Nat.beq (Nat.mod s 2) 1) && (byB (M.t.get (Nat.add c 5)) && byB (M.t.get (Nat.add c 8)))))))))
noncomputable def nmB (M : MemV) (R : List Int) (sy : List (List Nat × Nat)) (c : Nat) : Bool :=
 List.rec (motive := fun _ => Bool) false (fun e _ ih => (gX (M.t.get (Nat.add c 3)) (.ofNat e.2) && (bJy M (R.getD 13 0) e && (Nat.ble 1 e.1.length && Nat.ble e.1.length 60))) || ih) sy
theorem bVd {M : MemV} {R : List Int} {c : Nat} : ∀ {sy : List (List Nat × Nat)}, nmB M R sy c = true → ∃ s, TxO M (R.getD 13 0) (M.t.get (c + 3)) s ∧ 1 ≤ s.length ∧ s.length ≤ 60
 | [], h => by cases h
 | e :: sy, h => by
  change ((gX (M.t.get (c + 3)) (.ofNat e.2) && (bJy M (R.getD 13 0) e && (Nat.ble 1 e.1.length && Nat.ble e.1.length 60))) || nmB M R sy c) = true at h
  simp only [Bool.or_eq_true] at h
  rcases h with h | h
  ·simp only [Bool.and_eq_true, jO, decide_eq_true_eq] at h
   obtain ⟨q1, q2, q3, q4⟩ := h
   exact ⟨e.1, by rw [(dF _ _).1 q1]; exact aTx q2, q3, q4⟩
  ·exact bVd h
theorem cSg {M : MemV} {R : List Int} {c : Nat} {sy : List (List Nat × Nat)} (h : clB M R c = true) (hn : nmB M R sy c = true) : ClI M R c := by
 unfold clB at h
 simp only [Bool.and_eq_true, jO, decide_eq_true_eq] at h
 obtain ⟨h1, h2, h3, h4, h5, h6, h7, h8, h9⟩ := h
 have num : ∀ (j m : Nat), aAm M (c + j) (fun s => decide (s ≤ 2 * m + 1) && Nat.beq (Nat.mod s 2) 1) = true → byB (M.t.get (c + j)) = true → ∃ z : Nat, z ≤ m ∧ M.t.get (c + j) = .ofNat (2 * z + 1) := fun j m q1 q2 => by
  cases hv : M.t.get (c + j) with
  | negSucc x => rw [hv] at q2; cases q2
  | ofNat x =>
   unfold aAm at q1
   rw [hv] at q1
   simp only [Bool.and_eq_true, decide_eq_true_eq] at q1
   have e : x % 2 = 1 := Nat.eq_of_beq_eq_true q1.2
   exact ⟨x / 2, by omega, by rw [show 2 * (x / 2) + 1 = x by omega]⟩
 refine ⟨⟨h1, h2⟩, fun e => ?_, (dF _ _).1 h4, (dF _ _).1 h5, bVd hn, num 5 16 h6 h8, num 8 3 h7 h9⟩
 rw [e] at h3
 cases h3
noncomputable def djB (M : MemV) (l : List Nat) : Nat → Bool := List.rec (motive := fun _ => Nat → Bool) (fun _ => true) (fun a _ ih lo => Nat.ble lo a && (match M.t.get a with
 | .ofNat hd => ih (Nat.add (Nat.add a 3) (Nat.div hd 4))
 | .negSucc _ => false)) l
theorem bGh {M : MemV} : ∀ {l : List Nat} {lo : Nat}, djB M l lo = true → (∀ a ∈ l, lo ≤ a) ∧ ∀ a ∈ l, ∀ b ∈ l, a < b → ∀ hd : Nat, M.t.get a = .ofNat hd → a + 3 + hd / 4 ≤ b
 | [], lo, h => ⟨fun a ha => (by cases ha), fun a ha => (by cases ha)⟩
 | x :: l, lo, h => by
  change (Nat.ble lo x && (match M.t.get x with
   | .ofNat hd => djB M l (x + 3 + hd / 4)
   | .negSucc _ => false)) = true at h
  simp only [Bool.and_eq_true, jO, decide_eq_true_eq] at h
  obtain ⟨h1, h2⟩ := h
  cases hx : M.t.get x with
  | negSucc k => rw [hx] at h2; cases h2
  | ofNat k =>
   rw [hx] at h2
   obtain ⟨i1, i2⟩ := bGh (l := l) h2
   refine ⟨fun a ha => ?_, fun a ha b hb hab hd hh => ?_⟩
   ·rcases List.mem_cons.1 ha with rfl | ka
    ·exact h1
    ·have := i1 a ka
     omega
   ·rcases List.mem_cons.1 ha with rfl | ka
    ·rcases List.mem_cons.1 hb with rfl | kb
     ·omega
     ·rw [hx] at hh
      cases hh
      exact i1 b kb
    ·rcases List.mem_cons.1 hb with rfl | kb
     ·have := i1 a ka
      omega
     ·exact i2 a ka b kb hab hd hh
noncomputable def giB (M : MemV) (R : List Int) (CL : List Nat) (pls : List Nat) (sy : List (List Nat × Nat)) : Bool :=
 djB M pls 0 && (gX (M.t.get 0) 0 && (gX (M.t.get 1) 0 && (aKb (fun a => aAm M a (obB M R CL a)) pls && (aKb (fun c => clB M R c && nmB M R sy c) CL &&
  (bVt (fun i => gX (R.getD (Nat.add 2 i) 0) (.ofNat (Nat.add 6 (Nat.mul 18 i)))) 16 && (bVt (fun i => cKf (Nat.add 3 (Nat.mul 9 i)) CL) 16 &&
  (gX (M.t.get 92) 3 && (gX (M.t.get 101) 5 && (gX (M.t.get 110) 5 && (gX (M.t.get 83) 7 && gX (M.t.get 20) 7))))))))))
theorem cWl {M : MemV} {R : List Int} {CL : List Nat} {pls : List Nat} {sy : List (List Nat × Nat)} (hp : M.pl = mkP pls .e) (hb : ∀ x ∈ pls, x < 16000000) (h : giB M R CL pls sy = true) : GI M R CL := by
 unfold giB at h
 simp only [Bool.and_eq_true] at h
 obtain ⟨h0, h1, h2, h3, h4, h5, h6, h7, h8, h9, h10, h11⟩ := h
 have mem : ∀ a, M.pl.get a ≠ 0 → a ∈ pls := fun a ha => by
  rw [hp] at ha
  rcases tU pls .e a hb ha with q | q
  ·exact q
  ·exact absurd rfl q
 refine ⟨(dF _ _).1 h1, (dF _ _).1 h2, fun a ha hd hh => ?_, fun a b ha hb' => (bGh h0).2 a (mem a ha) b (mem b hb'), fun c hc => ?_, fun i hi => (dF _ _).1 (uS h5 i hi), fun i hi => xG (uS h6 i hi), (dF _ _).1 h7, (dF _ _).1 h8, (dF _ _).1 h9, (dF _ _).1 h10, (dF _ _).1 h11⟩
 ·have hm : a ∈ pls := by
   rw [hp] at ha
   rcases tU pls .e a hb ha with q | q
   ·exact q
   ·exact absurd rfl q
  have q := jU h3 a hm
  unfold aAm at q
  rw [hh] at q
  exact cUc q
 ·have q := jU h4 c hc
  simp only [Bool.and_eq_true] at q
  exact cSg q.1 q.2
def CL0 : List Nat := [3, 12, 21, 30, 39, 48, 57, 66, 75, 84, 93, 102, 111, 120, 129, 138]
theorem cZb : aKb (fun x => Nat.blt x 16000000) (wO plF 583) = true := by kernel_rfl
end Go.Dd

namespace Go.Dd
open Go.Proofs
noncomputable def dG (M : MemV) (o : Int) : Nat := match M.t.get (bV o M.pl) with
 | .ofNat hd => hd
 | .negSucc _ => 0
noncomputable def oN (M : MemV) (o : Int) (i : Nat) : Int := if bV o M.pl ≠ 0 ∧ i < dG M o / 4 then M.t.get (bV o M.pl + 3 + i) else 0
noncomputable def lK (M : MemV) (o : Int) : Int := M.t.get (bV o M.pl + 1)
noncomputable def cYq (w : Int) : Int := if cV w = true then qD w else 0
noncomputable def nZ (M : MemV) (R : List Int) (x : Int) : Option Int := if cV x = true then some (qD x) else if (bV x M.pl ≠ 0 ∧ lK M x = R.getD 10 0) ∧ dG M x % 4 = 1 then some (oN M x 0) else none
def dGn (M : MemV) (R : List Int) (x : Int) : Prop := bV x M.pl ≠ 0 ∧ (lK M x = R.getD 12 0 ∨ lK M x = R.getD 13 0)
section
variable {h : Hp} {M : MemV} {R : List Int} {es : List (DV × DV)} {CL : List Nat} {z : Prop}
theorem bNq {M : MemV} {o : Int} (h : bV o M.pl ≠ 0) : M.pl.get (bV o M.pl) ≠ 0 := by
 rcases mG o M.pl with e | ⟨e, _⟩
 ·exact absurd e h
 ·have := (atN_pos (o := o) (pl := M.pl)).1 h
  rw [e]
  exact this.2
theorem GI.head (I : GI M R CL z) (G : Good M) (o : Int) (k : Nat → aH) : iQ M o k = k (dG M o) := by
 by_cases e : bV o M.pl = 0
 ·have b1 : Nat.blt (Nat.add (bV o M.pl) 1) M.n = true := by
   rw [gK, e]
   have := G.lo; have := G.le
   exact decide_eq_true (show 0 + 1 < M.n by omega)
  unfold iQ dG
  rw [b1, e, I.z0]
  rfl
 ·obtain ⟨h3, hd, h1, h2, h4, _⟩ := G.ob _ (bNq e)
  have hl := G.le
  have b1 : Nat.blt (Nat.add (bV o M.pl) 1) M.n = true := by
   rw [gK]; exact decide_eq_true (show bV o M.pl + 1 < M.n by omega)
  have b2 : Nat.blt hd 1000000000000 = true := by rw [gK]; exact decide_eq_true h2
  unfold iQ dG
  rw [b1, h1]
  simp only [cond_true, b2]
theorem GI.headOb (I : GI M R CL z) (G : Good M) {o : Int} (e : bV o M.pl ≠ 0) : M.t.get (bV o M.pl) = .ofNat (dG M o) ∧ ObI M R CL (bV o M.pl) (dG M o) z ∧ bV o M.pl + 3 + dG M o / 4 ≤ M.fin ∧ 3 ≤ bV o M.pl := by
 obtain ⟨h3, hd, h1, h2, h4, _⟩ := G.ob _ (bNq e)
 have eh : dG M o = hd := by unfold dG; rw [h1]
 rw [eh]
 exact ⟨h1, I.ob _ (bNq e) _ h1, h4, h3⟩
theorem Wd.clsA (W : Wd h M R es) (G : Good M) (I : GI M R CL z) (o : Int) : jJ [.p (aL 3) 0, .i .i64 o] h = some (iD (lK M o), h) := by
 simp only [jJ, iU, W.mem, I.head G, Nat.add_eq, lK]
theorem Wd.fmtA (W : Wd h M R es) (G : Good M) (I : GI M R CL z) (o : Int) : iW [.p (aL 3) 0, .i .i64 o] h = some (.i .i64 (.ofNat (dG M o % 4)), h) := by
 simp only [iW, iU, W.mem, I.head G]
 rfl
theorem Wd.fieldsA (W : Wd h M R es) (G : Good M) (I : GI M R CL z) (o : Int) : eJ [.p (aL 3) 0, .i .i64 o] h = some (.i .i64 (.ofNat (dG M o / 4)), h) := by
 simp only [eJ, iU, W.mem, I.head G]
 rfl
theorem Wd.getA (W : Wd h M R es) (G : Good M) (I : GI M R CL z) (o : Int) (i : Nat) : ∃ e, qT [.p (aL 3) 0, .i .i64 o, .i .i64 (.ofNat i)] h = some (.t [iD (oN M o i), iD e], h) ∧ (e = 0 ↔ (bV o M.pl ≠ 0 ∧ i < dG M o / 4)) := by
 unfold oN
 by_cases e : bV o M.pl = 0
 ·refine ⟨1, ?_, by simp [e]⟩
  rw [if_neg (by simp [e])]
  simp only [qT, iU, W.mem, gP, e, err]
  rfl
 ·obtain ⟨h1, _, h4, h3⟩ := I.headOb G e
  have hl := G.le
  by_cases hi : i < dG M o / 4
  ·refine ⟨0, ?_, by simp [e, hi]⟩
   rw [if_pos ⟨e, hi⟩]
   have b1 : Nat.ble (Nat.div (dG M o) 4) i = false := by
    rw [jO]; exact decide_eq_false (show ¬ (dG M o / 4 ≤ i) by omega)
   have b2 : Nat.blt (Nat.add (Nat.add (bV o M.pl) 3) i) M.n = true := by
    rw [gK]; exact decide_eq_true (show bV o M.pl + 3 + i < M.n by omega)
   simp only [qT, iU, W.mem, gP, aOa e, cond_false, I.head G, b1, b2, cond_true]
   rfl
  ·refine ⟨5, ?_, by simp [hi]⟩
   rw [if_neg (by simp [hi])]
   have b1 : Nat.ble (Nat.div (dG M o) 4) i = true := by
    rw [jO]; exact decide_eq_true (show dG M o / 4 ≤ i by omega)
   simp only [qT, iU, W.mem, gP, aOa e, cond_false, I.head G, b1, cond_true, err]
   rfl
theorem Wd.getG (W : Wd h M R es) (G : Good M) (I : GI M R CL z) (o : Int) (i n : Nat) : cA (n + 1) 111 [.p (aL 7) 0, .i .i64 o, .i .i64 (.ofNat i)] h = some (iD (oN M o i), h) := by
 rw [qH 111 rfl, aRb]
 unfold s111
 obtain ⟨e, h1, _⟩ := W.getA G I o i
 have g2 : ∀ (a b c : DV) (l : List DV), (a :: b :: c :: l).getD 2 aU = c := fun _ _ _ _ => rfl
 simp only [g0, g1, g2, gU, fR, aO, W.l00, h1, zF, xN]
theorem dMq (w : Int) (h : Hp) : kI [.i .i64 w] h = some (iD (cYq w), h) := by
 show ((bif cV w then some (DV.i .i64 (qD w), h) else some (DV.i .i64 (.ofNat 0), h)) : aH) = _
 unfold cYq
 cases cV w <;> rfl
theorem Wd.value (W : Wd h M R es) (G : Good M) (I : GI M R CL z) (x : Int) (n : Nat) : cA (n + 2) 71 [.p (aL 7) 0, .i .i64 x] h = some (.t [iD ((nZ M R x).getD 0), .b (nZ M R x).isSome], h) := by
 rw [qH 71 rfl, cNw]
 unfold s71 nZ
 cases hs : cV x with
 | true =>
  have e1 : ∀ h, eO [.i .i64 x] h = some (.b true, h) := fun h => by rw [eO, hs]
  have e2 : ∀ h, kI [.i .i64 x] h = some (iD (qD x), h) := fun h => by rw [dMq, cYq, hs]; rfl
  simp only [g0, g1, e1, e2, aO, bN, if_true, Option.getD_some, Option.isSome_some]
 | false =>
  have e1 : ∀ h, eO [.i .i64 x] h = some (.b false, h) := fun h => by rw [eO, hs]
  have k : cA (n + 1) 34 [.p (aL 7) 0, .i .i64 (Int.ofNat 8)] h = some (iD (R.getD 10 0), h) := W.known (show 8 < 16 by omega) n
  simp only [Bool.false_eq_true, if_false]
  by_cases e : bV x M.pl = 0
  ·have b : (!(Nat.beq (bV x M.pl) 0)) = false := by rw [e]; rfl
   rw [if_neg (fun q => q.1.1 e)]
   simp only [g0, g1, e1, aO, bG, gU, fR, W.l00, W.is, b, fE, iK, bK]
   rfl
  ·have b : (!(Nat.beq (bV x M.pl) 0)) = true := by rw [aOa e]; rfl
   by_cases e2 : lK M x = R.getD 10 0
   ·have zz : (lK M x == R.getD 10 0) = true := by rw [e2]; exact beq_self_eq_true _
    by_cases e3 : dG M x % 4 = 1
    ·have z3 : (Int.ofNat (dG M x % 4) == Int.ofNat 1) = true := by rw [e3]; rfl
     rw [if_pos ⟨⟨e, e2⟩, e3⟩]
     simp only [g0, g1, e1, aO, bG, gU, fR, W.l00, W.is, b, iG, W.clsA G I, k, cI, zz, bQ, W.fmtA G I, z3, bN, W.getG G I x 0 n, Option.getD_some, Option.isSome_some]
    ·have z3 : (Int.ofNat (dG M x % 4) == Int.ofNat 1) = false := by
      have : ¬ (Int.ofNat (dG M x % 4) = Int.ofNat 1) := fun q => e3 (Int.ofNat.inj q)
      simpa using this
     rw [if_neg (fun q => e3 q.2)]
     simp only [g0, g1, e1, aO, bG, gU, fR, W.l00, W.is, b, iG, W.clsA G I, k, cI, zz, bQ, W.fmtA G I, z3, bG]
     rfl
   ·have zz : (lK M x == R.getD 10 0) = false := by simpa using e2
    rw [if_neg (fun q => e2 q.1.2)]
    simp only [g0, g1, e1, aO, bG, gU, fR, W.l00, W.is, b, iG, W.clsA G I, k, cI, zz, bQ, bK, fE, iK, bG]
    rfl
theorem Wd.textN (W : Wd h M R es) (G : Good M) (I : GI M R CL z) {x : Int} (hx : ¬ dGn M R x) (n : Nat) : cA (n + 2) 72 [.p (aL 7) 0, .i .i64 x] h = some (.t [.s [], .b false], h) := by
 rw [qH 72 rfl, bXq]
 unfold s72 aKu aKo
 have k0 : cA (n + 1) 34 [.p (aL 7) 0, .i .i64 (Int.ofNat 10)] h = some (iD (R.getD 12 0), h) := W.known (show 10 < 16 by omega) n
 have k1 : cA (n + 1) 34 [.p (aL 7) 0, .i .i64 (Int.ofNat 11)] h = some (iD (R.getD 13 0), h) := W.known (show 11 < 16 by omega) n
 by_cases e : bV x M.pl = 0
 ·have b : (!(Nat.beq (bV x M.pl) 0)) = false := by rw [e]; rfl
  simp only [g0, g1, gU, fR, aO, W.l00, W.clsA G I, W.is, b, iM, Bool.not_false, fN, iK, iG, bQ, bN]
 ·have b : (!(Nat.beq (bV x M.pl) 0)) = true := by rw [aOa e]; rfl
  have n0 : ¬ lK M x = R.getD 12 0 := fun q => hx ⟨e, .inl q⟩
  have n1 : ¬ lK M x = R.getD 13 0 := fun q => hx ⟨e, .inr q⟩
  have z0 : (lK M x != R.getD 12 0) = true := by simpa using n0
  have z1 : (lK M x != R.getD 13 0) = true := by simpa using n1
  simp only [g0, g1, gU, fR, aO, W.l00, W.clsA G I, W.is, b, iM, Bool.not_true, gI, k0, k1, eN, z0, z1, iG, bQ, bK, fN, iK, bN]
end
end Go.Dd

namespace Go.Dd
open Go.Proofs
theorem pcf {rec : FuncId → List DV → Hp → aH} {g : FuncId} (hg : CF.I g = none) (a l b : List DV) (h : Hp) : gJ CF rec (.f g a b) l h = rec g (a ++ l ++ b) h := by
 show bH CF rec g (a ++ l ++ b) h = _
 rw [dQ hg]
section
variable {h : Hp} {M : MemV} {R : List Int} {es : List (DV × DV)}
theorem bCi {M : MemV} {R : List Int} {a n : Int} (h : cV a = true) (e : qD a = n) : nZ M R a = some n := by
 unfold nZ
 rw [if_pos h, e]
theorem Wk.num (K : Wk h M R es) (room : M.fin + 4 ≤ M.n) (hm : M.made < 899999) (n : Int) {k : Nat} (hk : 256 < k) :
  ∃ a e h' M', cA (k + 2) 60 [.p (aL 7) 0, .i .i64 n] h = some (.t [iD a, iD e], h') ∧ Wk h' M' R es ∧ Up h h' ∧ Stay 4 M M' R R es es ∧
   ((¬ (-1152921504606846976 ≤ n ∧ n ≤ 1152921504606846976) ∧ e = 2 ∧ a = 0) ∨ ((-1152921504606846976 ≤ n ∧ n ≤ 1152921504606846976) ∧ e = 0 ∧ nZ M' R a = some n ∧ eD a M'.pl = true)) := by
 obtain ⟨a, e, h', M', e1, W', G', U', hA⟩ := K.W.number K.G K.rk room hm n hk
 cases hA with
 | out h1 h2 =>
  subst h2
  exact ⟨0, 2, h', M', e1, ⟨W', G', K.sy, K.r0, K.rk⟩, U', Stay.refl _ _ _ _, .inl ⟨h1, rfl, rfl⟩⟩
 | small a h1 h2 h3 h4 =>
  subst h4
  refine ⟨a, 0, h', M', e1, ⟨W', G', K.sy, K.r0, K.rk⟩, U', Stay.refl _ _ _ _, .inr ⟨by omega, rfl, bCi h2 h3, ?_⟩⟩
  unfold eD
  split <;> first | rfl | (rw [h2]; rfl)
 | big h1 h2 g =>
  have hc : bV (R.getD 10 0) M.pl ≠ 0 := K.rk 8 (by omega)
  have st := g.stay K.G R es (fun CL I => I.newK (i := 8) (.inr (.inr ⟨rfl, rfl⟩)) (by simp) (fun q => by cases q))
  have ha : bV (.ofNat (M.fin * 2)) M'.pl = M.fin := by rw [g.pl]; exact yX K.G.lo (by have := K.G.le; have := K.G.hi; omega)
  have h0 := K.G.lo
  have hs : cV (.ofNat (M.fin * 2)) = false := by
   rw [kC]
   refine decide_eq_false fun q => ?_
   have q1 := q.1
   simp at q1
   try omega
  refine ⟨_, 0, h', M', e1, g.wk K W' hc (by omega) (by simp) (by simp; omega) hm, U', st, .inr ⟨h1, rfl, ?_, nH (by rw [ha]; omega)⟩⟩
  unfold nZ
  have hh : dG M' (.ofNat (M.fin * 2)) = 5 := by unfold dG; rw [ha, g.hd]; rfl
  rw [if_neg (by rw [hs]; simp), if_pos ⟨⟨by rw [ha]; omega, by unfold lK; rw [ha, g.cl]⟩, by rw [hh]⟩]
  unfold oN
  rw [ha, hh, if_pos ⟨by omega, by omega⟩]
  have := g.new 0 n rfl
  rw [Nat.add_zero] at this ⊢
  all_goals rw [this]
theorem Wd.notMay (W : Wd h M R es) {b : Pos} (hb : h.bl.get b = some (.row .ex [.p (aL 7) 0])) (v : Int) (n : Nat) : cA (n + 1) 86 [.i .i64 v, .p b 0] h = some (.b (!(eD v M.pl)), h) := by
 rw [qH 86 rfl, cMx]
 unfold s86
 have l : aA (.p b 0) h = some (.p (aL 7) 0, h) := by simp only [aA, cellD, rowOf, hb, List.getElem?_cons_zero, DV.one, if_true]
 simp only [g0, g1, l, aO, gU, fR, W.l00, W.may, iM]
theorem bVw {l : List Int} {p : Int → Bool} {i : Nat} {v : Int} (h : l[i]? = some v) : (l.drop i).any p = (p v || (l.drop (i + 1)).any p) := by
 have hi : i < l.length := by
  rcases Nat.lt_or_ge i l.length with q | q
  ·exact q
  ·rw [List.getElem?_eq_none q] at h; cases h
 rw [List.drop_eq_getElem_cons hi, List.any_cons]
 rw [List.getElem?_eq_getElem hi] at h
 cases h
 rfl
theorem Wd.find (W : Wd h M R es) {x : DV} {l : List Int} (S : SlI x l h) {b : Pos} (hb : h.bl.get b = some (.row .ex [.p (aL 7) 0])) {n : Nat} (hl : l.length ≤ 256) : ∀ (k i m : Nat), k + i = l.length → k < m →
  ∃ r : Int, kO (cA (n + 1)) (n + 1) m x (.f 86 [] [.p b 0]) (iD l.length) (.i .i64 (Int.ofNat i)) h = some (iD r, h) ∧ (decide (r ≥ Int.ofNat 0) = (l.drop i).any fun v => !(eD v M.pl)) := by
 intro k
 induction k with
 | zero =>
  intro i m he hm
  obtain ⟨m, rfl⟩ : ∃ m', m = m' + 1 := ⟨m - 1, by omega⟩
  refine ⟨-1, ?_, ?_⟩
  ·show kU (cA (n + 1)) (n + 1) (kO (cA (n + 1)) (n + 1) m) _ _ _ _ h = _
   unfold kU
   have d : decide (Int.ofNat i < (l.length : Int)) = false := decide_eq_false (by simp; omega)
   simp only [cG, d, aO, bG]
   rfl
  ·rw [List.drop_eq_nil_of_le (by omega)]
   rfl
 | succ k ih =>
  intro i m he hm
  obtain ⟨m, rfl⟩ : ∃ m', m = m' + 1 := ⟨m - 1, by omega⟩
  have hi : i < l.length := by omega
  have hv : l[i]? = some l[i] := List.getElem?_eq_getElem hi
  obtain ⟨a, e1, e2⟩ := S.at hv
  obtain ⟨r, q1, q2⟩ := ih (i + 1) m (by omega) (by omega)
  have d : decide (Int.ofNat i < (l.length : Int)) = true := decide_eq_true (by simp; omega)
  have hc : gJ CF (cA (n + 1)) (.f 86 [] [.p b 0]) [iD l[i]] h = some (.b (!(eD l[i] M.pl)), h) := by
   rw [pcf rfl]
   exact W.notMay hb l[i] n
  have ha : aD .add (.i .i64 (Int.ofNat i)) (.i .i64 (Int.ofNat 1)) h = some (.i .i64 (Int.ofNat (i + 1)), h) := jQ i 1 h (by omega)
  rw [bVw hv]
  cases hmay : eD l[i] M.pl with
  | false =>
   refine ⟨Int.ofNat i, ?_, by simp⟩
   show kU (cA (n + 1)) (n + 1) (kO (cA (n + 1)) (n + 1) m) _ _ _ _ h = _
   unfold kU
   rw [hmay] at hc
   simp only [cG, d, aO, bN, e1, e2, hc, Bool.not_false]
  | true =>
   refine ⟨r, ?_, by rw [q2]; rfl⟩
   show kU (cA (n + 1)) (n + 1) (kO (cA (n + 1)) (n + 1) m) _ _ _ _ h = _
   unfold kU
   rw [hmay] at hc
   simp only [cG, d, aO, bN, e1, e2, hc, Bool.not_true, bG, ha]
   exact q1
theorem Wd.contains (W : Wd h M R es) {x : DV} {l : List Int} (S : SlI x l h) {b : Pos} (hb : h.bl.get b = some (.row .ex [.p (aL 7) 0])) (hl : l.length ≤ 256) {n : Nat} (hn : 256 < n) :
  cA (n + 3) 77 [x, .f 86 [] [.p b 0]] h = some (.b (l.any fun v => !(eD v M.pl)), h) := by
 rw [qH 77 rfl, cNt]
 unfold s77
 obtain ⟨r, q1, q2⟩ := W.find S hb (n := n) hl l.length 0 (n + 1) (by omega) (by omega)
 have e : cA (n + 2) 123 [x, .f 86 [] [.p b 0]] h = some (iD r, h) := by
  rw [qH 123 rfl, bLr]
  unfold s123 aHg aCg aOv
  simp only [g0, g1, S.len (h' := h), aO]
  exact q1
 simp only [g0, g1, e, aO, iR, q2, List.drop_zero]
end
end Go.Dd

namespace Go.Dd
open Go.Proofs
theorem cZd (b : Pos) (o : Nat) (h : Hp) : bM (some (.p b o, h)) (.p b o) = true := by
 unfold bM
 simp [DV.beq]
section
variable {h : Hp} {M : MemV} {R : List Int} {es : List (DV × DV)}
theorem Wk.array (K : Wk h M R es) {x : DV} {l : List Int} (S : SlI x l h) (h256 : l.length ≤ 256) (room : M.fin + l.length + 3 ≤ M.n) (hm : M.made < 899999) {n : Nat} (hn : 256 < n) :
  ∃ a e h' M', cA (n + 4) 36 [.p (aL 7) 0, x] h = some (.t [iD a, iD e], h') ∧ Wk h' M' R es ∧ Up h h' ∧
   ((¬ (l.length ≤ 250 ∧ ∀ v ∈ l, eD v M.pl = true) ∧ e = 1 ∧ a = 0 ∧ M' = M) ∨ ((l.length ≤ 250 ∧ ∀ v ∈ l, eD v M.pl = true) ∧ e = 0 ∧ a = .ofNat (M.fin * 2) ∧ Grown M M' 0 (R.getD 11 0) l)) := by
 rw [qH 36 rfl, cOc]
 unfold s36
 obtain ⟨U1, W1⟩ := K.W.new (.row .ex [.p (aL 7) 0])
 obtain ⟨h1, hh1⟩ : ∃ h1 : Hp, (⟨h.next.succ, Tr.set (.row .ex [.p (aL 7) 0]) h.next h.bl⟩ : Hp) = h1 := ⟨_, rfl⟩
 rw [hh1] at U1 W1
 have eb : bU (.p (aL 7) 0) h = some (.p h.next 0, h1) := by rw [← hh1]; rfl
 have hb : h1.bl.get h.next = some (.row .ex [.p (aL 7) 0]) := by rw [← hh1]; exact dNc _ _ _
 have S1 := S.up U1
 have K1 : Wk h1 M R es := ⟨W1, K.G, K.sy, K.r0, K.rk⟩
 have ld : aA (.p h.next 0) h1 = some (.p (aL 7) 0, h1) := by simp only [aA, cellD, rowOf, hb, List.getElem?_cons_zero, DV.one, if_true]
 have el : ∀ h, cB x h = some (iD l.length, h) := fun h => S.len
 by_cases c1 : l.length > 250
 ·have d1 : decide ((l.length : Int) > Int.ofNat 250) = true := decide_eq_true (by simp; omega)
  refine ⟨0, 1, h1, M, ?_, K1, U1, .inl ⟨fun q => by omega, rfl, rfl, rfl⟩⟩
  simp only [g0, g1, eb, aO, el, gA, d1, fN, bQ, bN]
  rfl
 ·have d1 : decide ((l.length : Int) > Int.ofNat 250) = false := decide_eq_false (by simp; omega)
  have hc := W1.contains S1 hb h256 hn
  cases ha : l.any (fun v => !(eD v M.pl)) with
  | true =>
   rw [ha] at hc
   refine ⟨0, 1, h1, M, ?_, K1, U1, .inl ⟨fun q => ?_, rfl, rfl, rfl⟩⟩
   ·simp only [g0, g1, eb, aO, el, gA, d1, gI, hc, bK, bN]
    rfl
   ·obtain ⟨v, hv, hv2⟩ := List.any_eq_true.1 ha
    rw [q.2 v hv] at hv2
    cases hv2
  | false =>
   rw [ha] at hc
   have hall : ∀ v ∈ l, eD v M.pl = true := fun v hv => by
    cases hq : eD v M.pl with
    | true => rfl
    | false =>
     have : l.any (fun v => !(eD v M.pl)) = true := List.any_eq_true.2 ⟨v, hv, by rw [hq]; rfl⟩
     rw [this] at ha
     cases ha
   have hk : M.fin < 16000000 := by have := K.G.le; have := K.G.hi; omega
   obtain ⟨h2, M2, e2, W2, U2, _, g2⟩ := W1.make61 K.G (K.rk 9 (by omega)) (f := 0) (by omega) S1 (by omega) (by omega) (fun v hv => vY hk (hall v hv)) (n := n + 2) (by omega)
   have kn : cA (n + 3) 34 [.p (aL 7) 0, .i .i64 (Int.ofNat 9)] h1 = some (iD (R.getD 11 0), h1) := W1.known (show 9 < 16 by omega) (n + 2)
   refine ⟨.ofNat (M.fin * 2), 0, h2, M2, ?_, g2.wk K1 W2 (K.rk 9 (by omega)) (by omega) (by omega) (by omega) hm, U1.trans U2, .inr ⟨⟨by omega, hall⟩, rfl, rfl, g2⟩⟩
   simp only [g0, g1, eb, aO, el, gA, d1, gI, hc, bK, bG, ld, kn, cZd, Bool.and_self, cond_true]
   rw [show (2 + 9 : Nat) = 11 from rfl] at e2
   show cnd true _ = _
   simp only [cnd, e2, aO, zF, xN]
   rfl
end
end Go.Dd

namespace Go.Dd
open Go.Proofs
section
variable {h : Hp} {M : MemV} {R : List Int} {es cs : List (DV × DV)} {CL : List Nat} {z : Prop}
end
end Go.Dd

namespace Go.Dd
open Go.Proofs
theorem aAp {x : Int} {pl : WT} (h : eD x pl = true) : bV x pl ≠ 0 ∨ (bV x pl = 0 ∧ (cV x = true ∨ x = 0 ∨ x = 2 ∨ x = 4)) := by
 by_cases ha : bV x pl = 0
 ·refine .inr ⟨ha, ?_⟩
  unfold eD at h
  split at h
  ·exact .inr (.inl rfl)
  ·exact .inr (.inr (.inl rfl))
  ·exact .inr (.inr (.inr rfl))
  ·cases hs : cV x with
   | true => exact .inl rfl
   | false =>
    rw [hs, ha] at h
    cases h
 ·exact .inl ha
theorem bUu {x : Int} (h : cV x = true ∨ x = 0 ∨ x = 2 ∨ x = 4) (pl : WT) : bV x pl = 0 := by
 rcases h with h | rfl | rfl | rfl
 ·exact aLz h
 ·rfl
 ·rfl
 ·rfl
section
variable {h h' : Hp} {M M' : MemV} {R R' : List Int} {es es' : List (DV × DV)} {k : Nat} {z : Prop} {CL : List Nat}
theorem Stay.head (S : Stay k M M' R R' es es') (I : GI M R CL z) (G : Good M) {o : Int} (ho : bV o M.pl ≠ 0) : dG M' o = dG M o := by
 obtain ⟨h1, _, h4, h3⟩ := I.headOb G ho
 unfold dG
 rw [S.at' o ho, S.old _ (by omega)]
theorem Stay.clo (S : Stay k M M' R R' es es') (I : GI M R CL z) (G : Good M) {o : Int} (ho : bV o M.pl ≠ 0) : lK M' o = lK M o := by
 obtain ⟨h1, _, h4, h3⟩ := I.headOb G ho
 unfold lK
 rw [S.at' o ho, S.old _ (by omega)]
theorem Stay.get (S : Stay k M M' R R' es es') (I : GI M R CL z) (G : Good M) {o : Int} (ho : bV o M.pl ≠ 0) (i : Nat) : oN M' o i = oN M o i := by
 obtain ⟨h1, _, h4, h3⟩ := I.headOb G ho
 unfold oN
 rw [S.head I G ho, S.at' o ho]
 by_cases c : bV o M.pl ≠ 0 ∧ i < dG M o / 4
 ·rw [if_pos c, if_pos c, S.old _ (by omega)]
 ·rw [if_neg c, if_neg c]
theorem Stay.may (S : Stay k M M' R R' es es') {x : Int} (hx : eD x M.pl = true) : eD x M'.pl = true := by
 rcases aAp hx with ha | ⟨_, hc⟩
 ·exact nH (by rw [S.at' x ha]; exact ha)
 ·unfold eD
  split
  ·rfl
  ·rfl
  ·rfl
  ·rcases hc with hc | hc | hc | hc
   ·rw [hc]; rfl
   ·exact absurd hc (by assumption)
   ·exact absurd hc (by assumption)
   ·exact absurd hc (by assumption)
theorem Stay.val (S : Stay k M M' R R' es es') (I : GI M R CL z) (G : Good M) {x : Int} (hx : eD x M.pl = true) : nZ M' R' x = nZ M R x := by
 unfold nZ
 rcases aAp hx with ha | ⟨ha, hc⟩
 ·rw [S.at' x ha, S.clo I G ha, S.head I G ha, S.get I G ha, S.r 9]
 ·rw [bUu hc, ha]
  simp
end
end Go.Dd

namespace Go.Dd
open Go.Proofs
structure Wl (k : Nat) (h : Hp) (M : MemV) (R : List Int) (es : List (DV × DV)) : Prop where
 K : Wk h M R es
 I : GI M R CL0
 n : M.n = 60000
 fin : M.fin + k ≤ 60000
 md : M.made + k ≤ 700000
theorem Stay.mono {a b : Nat} {M M' : MemV} {R R' : List Int} {es es' : List (DV × DV)} (h : Stay a M M' R R' es es') (hab : a ≤ b) : Stay b M M' R R' es es' :=
 ⟨h.n, Nat.le_trans h.fin (by omega), Nat.le_trans h.made (by omega), h.lo, h.tx, h.at', h.r, h.fd, h.gi, h.old⟩
mutual
def Lt.byt : Lt → Prop
 | .mk _ _ tx ks => (∀ c ∈ tx, c < 256) ∧ dOc ks
def dOc : List Lt → Prop
 | [] => True
 | t :: ts => Lt.byt t ∧ dOc ts
end
theorem aKd : ∀ {ks : List Lt} {t : Lt}, dOc ks → t ∈ ks → t.byt
 | [], t, _, h => by cases h
 | a :: ks, t, H, h => by
  unfold dOc at H
  rcases List.mem_cons.1 h with rfl | h
  ·exact H.1
  ·exact aKd H.2 h
theorem aDj {d : Int} : ∀ {ks : List Lt} {t : Lt}, dOb d ks = true → t ∈ ks → t.ok d = true
 | [], t, _, h => by cases h
 | a :: ks, t, H, h => by
  rw [dOb, Bool.and_eq_true] at H
  rcases List.mem_cons.1 h with rfl | h
  ·exact H.1
  ·exact aDj H.2 h
section
variable {h h' : Hp} {M M' : MemV} {R R' : List Int} {es es' : List (DV × DV)} {z : Prop}
theorem Grown.newAt {f : Nat} {cls : Int} {l : List Int} (g : Grown M M' f cls l) (G : Good M) : bV (.ofNat (M.fin * 2)) M'.pl = M.fin := by
 rw [g.pl]
 exact yX G.lo (by have := G.le; have := G.hi; omega)
theorem Grown.newHead {f : Nat} {cls : Int} {l : List Int} (g : Grown M M' f cls l) (G : Good M) : dG M' (.ofNat (M.fin * 2)) = l.length * 4 + f := by
 unfold dG
 rw [g.newAt G, g.hd]
theorem Grown.newGet {f : Nat} {cls : Int} {l : List Int} (g : Grown M M' f cls l) (G : Good M) (hf : f < 4) (i : Nat) : oN M' (.ofNat (M.fin * 2)) i = l.getD i 0 := by
 have := G.lo
 unfold oN
 rw [g.newHead G, g.newAt G]
 by_cases hi : i < l.length
 ·rw [if_pos ⟨by omega, by omega⟩, g.new i _ (List.getElem?_eq_getElem hi)]
  simp [List.getD, List.getElem?_eq_getElem hi]
 ·rw [if_neg (by omega)]
  simp [List.getD, List.getElem?_eq_none (by omega : l.length ≤ i)]
theorem Wl.stay {k j : Nat} (V : Wl (j + k) h M R es) (K' : Wk h' M' R' es') (S : Stay j M M' R R' es es') : Wl k h' M' R' es' := by
 have h1 := S.n
 have h2 := S.fin
 have h3 := S.made
 have h4 := V.n
 have h5 := V.fin
 have h6 := V.md
 exact ⟨K', S.gi _ V.I, by omega, by omega, by omega⟩
theorem Wl.less {k j : Nat} (V : Wl j h M R es) (hk : k ≤ j) : Wl k h M R es := ⟨V.K, V.I, V.n, by have := V.fin; omega, by have := V.md; omega⟩
theorem Wk.up (K : Wk h M R es) (W' : Wd h' M R es) : Wk h' M R es := ⟨W', K.G, K.sy, K.r0, K.rk⟩
theorem Wl.up {k : Nat} (V : Wl k h M R es) (W' : Wd h' M R es) : Wl k h' M R es := ⟨V.K.up W', V.I, V.n, V.fin, V.md⟩
theorem Wl.new {k : Nat} (V : Wl k h M R es) (o : Ob) : Up h ⟨h.next.succ, Tr.set o h.next h.bl⟩ ∧ Wl k ⟨h.next.succ, Tr.set o h.next h.bl⟩ M R es := by
 obtain ⟨u, W⟩ := V.K.W.new o
 exact ⟨u, V.up W⟩
theorem Wl.lo {k : Nat} (V : Wl k h M R es) {lo : Nat} (hlo : 1031 ≤ lo) (L : Lo lo h h') : Wl k h' M R es := by
 have W := V.K.W
 refine V.up ?_
 obtain ⟨m1, m2, m3, m4, m5, m6⟩ := iA W.mem
 have e : ∀ b : Pos, b.toNat < 1031 → h'.bl.get b = h.bl.get b := fun b hb => L.get b (by omega)
 refine ⟨by rw [e _ (by rw [pn7]; omega)]; exact W.w, by rw [e _ (by rw [pn4]; omega)]; exact W.r, W.rl, by rw [e _ (by rw [pn5]; omega)]; exact W.sy, ?_, Nat.le_trans W.nx L.next, W.wb, W.pb⟩
 exact jS (by rw [e _ (by rw [pn3]; omega)]; exact m1) (by rw [e _ (by rw [W.wb, pn1]; omega)]; exact m2) (by rw [e _ (by rw [W.pb, pn2]; omega)]; exact m3) m4 m5 m6
mutual
def Ml (M : MemV) (R : List Int) : Lt → Int → Prop
 | .mk k n tx ks, x => eD x M.pl = true ∧
  ((k = 1 ∧ nZ M R x = some n) ∨ (k = 2 ∧ TxO M (R.getD 12 0) x tx) ∨ (k = 3 ∧ TxO M (R.getD 13 0) x tx) ∨
   (k = 4 ∧ bV x M.pl ≠ 0 ∧ lK M x = R.getD 11 0 ∧ dG M x / 4 = ks.length ∧ MlL M R x 0 ks))
def MlL (M : MemV) (R : List Int) (x : Int) : Nat → List Lt → Prop
 | _, [] => True
 | i, t :: ts => Ml M R t (oN M x i) ∧ MlL M R x (i + 1) ts
end
mutual
theorem Ml.stay {k : Nat} (S : Stay k M M' R R' es es') (I : GI M R CL0) (G : Good M) : ∀ (t : Lt) (x : Int), Ml M R t x → Ml M' R' t x
 | .mk kd n tx ks, x, H => by
  unfold Ml at H ⊢
  obtain ⟨hm, H⟩ := H
  have r : ∀ i, R'.getD (i + 1) 0 = R.getD (i + 1) 0 := S.r
  refine ⟨S.may hm, ?_⟩
  rcases H with ⟨rfl, H⟩ | ⟨rfl, H⟩ | ⟨rfl, H⟩ | ⟨rfl, h1, h2, h3, h4⟩
  ·exact .inl ⟨rfl, by rw [S.val I G hm]; exact H⟩
  ·exact .inr (.inl ⟨rfl, by rw [r 11]; exact S.tx _ _ _ H⟩)
  ·exact .inr (.inr (.inl ⟨rfl, by rw [r 12]; exact S.tx _ _ _ H⟩))
  ·exact .inr (.inr (.inr ⟨rfl, by rw [S.at' x h1]; exact h1, by rw [S.clo I G h1, r 10]; exact h2, by rw [S.head I G h1]; exact h3, MlL.stay S I G x h1 0 ks h4⟩))
theorem MlL.stay {k : Nat} (S : Stay k M M' R R' es es') (I : GI M R CL0) (G : Good M) (x : Int) (hx : bV x M.pl ≠ 0) : ∀ (i : Nat) (ts : List Lt), MlL M R x i ts → MlL M' R' x i ts
 | _, [], _ => by unfold MlL; trivial
 | i, t :: ts, H => by
  unfold MlL at H ⊢
  exact ⟨by rw [S.get I G hx]; exact Ml.stay S I G t _ H.1, MlL.stay S I G x hx (i + 1) ts H.2⟩
end
theorem Ml.may {t : Lt} {x : Int} (H : Ml M R t x) : eD x M.pl = true := by
 obtain ⟨kd, n, tx, ks⟩ := t
 unfold Ml at H
 exact H.1
def MlA (M : MemV) (R : List Int) : List Lt → List Int → Prop
 | [], [] => True
 | t :: ts, x :: l => Ml M R t x ∧ MlA M R ts l
 | _, _ => False
theorem MlA.stay {j : Nat} (S : Stay j M M' R R' es es') (I : GI M R CL0) (G : Good M) : ∀ (ts : List Lt) (l : List Int), MlA M R ts l → MlA M' R' ts l
 | [], [], _ => trivial
 | t :: ts, x :: l, H => ⟨Ml.stay S I G t x H.1, MlA.stay S I G ts l H.2⟩
 | [], _ :: _, H => H.elim
 | _ :: _, [], H => H.elim
theorem dOq : ∀ {ts : List Lt} {l : List Int} {t : Lt} {x : Int}, MlA M R ts l → Ml M R t x → MlA M R (ts ++ [t]) (l ++ [x])
 | [], [], t, x, _, H => ⟨H, trivial⟩
 | t0 :: ts, x0 :: l, t, x, H0, H => ⟨H0.1, dOq H0.2 H⟩
 | [], _ :: _, _, _, H, _ => H.elim
 | _ :: _, [], _, _, H, _ => H.elim
theorem MlA.len : ∀ {ts : List Lt} {l : List Int}, MlA M R ts l → l.length = ts.length ∧ ∀ v ∈ l, eD v M.pl = true
 | [], [], _ => ⟨rfl, by simp⟩
 | t :: ts, x :: l, H => by
  obtain ⟨a, b⟩ := MlA.len H.2
  refine ⟨by simp [a], fun v hv => ?_⟩
  simp only [List.mem_cons] at hv
  rcases hv with rfl | hv
  ·exact H.1.may
  ·exact b v hv
 | [], _ :: _, H => H.elim
 | _ :: _, [], H => H.elim
theorem dOo {x : Int} : ∀ {ts : List Lt} {l : List Int} (i : Nat), MlA M R ts l → (∀ j v, l[j]? = some v → oN M x (i + j) = v) → MlL M R x i ts
 | [], [], i, _, _ => by unfold MlL; trivial
 | t :: ts, y :: l, i, H, hg => by
  unfold MlL
  refine ⟨by rw [show oN M x i = y from hg 0 y rfl]; exact H.1, dOo (i + 1) H.2 fun j v hv => ?_⟩
  rw [show i + 1 + j = i + (j + 1) by omega]
  exact hg (j + 1) v hv
 | [], _ :: _, _, H, _ => H.elim
 | _ :: _, [], _, H, _ => H.elim
def bAp (t : Lt) (k : Nat) (h : Hp) (M : MemV) (R : List Int) (es : List (DV × DV)) (r : aH) : Prop :=
 ∃ v h' M' R' es', r = some (.t [iD v, iD 0], h') ∧ Wl k h' M' R' es' ∧ Up h h' ∧ Stay (260 * t.sz) M M' R R' es es' ∧ Ml M' R' t v
variable {k : Nat}
theorem cGo {n : Int} {tx : List Nat} {ks : List Lt} (V : Wl (260 + k) h M R es) (hn : -1152921504606846976 ≤ n ∧ n ≤ 1152921504606846976) {m : Nat} (hm : 300 < m) : ∃ a h' M', cA (m + 2) 60 [.p (aL 7) 0, .i .i64 n] h = some (.t [iD a, iD 0], h') ∧ Wl k h' M' R es ∧ Up h h' ∧ Stay 260 M M' R R es es ∧ Ml M' R (.mk 1 n tx ks) a := by
 have h4 := V.n
 have h5 := V.fin
 have h6 := V.md
 obtain ⟨a, e, h', M', e1, K', U, S, A⟩ := V.K.num (by omega) (by omega) n (k := m) (by omega)
 rcases A with ⟨q, _⟩ | ⟨_, q0, q1, q2⟩
 ·exact absurd hn q
 ·subst q0
  refine ⟨a, h', M', e1, V.stay K' (S.mono (by omega)), U, S.mono (by omega), ?_⟩
  unfold Ml
  exact ⟨q2, .inl ⟨rfl, q1⟩⟩
theorem cFy {n : Int} {s : List Nat} {ks : List Lt} (V : Wl (260 + k) h M R es) (hs : ∀ c ∈ s, c < 256) (hl : s.length ≤ 250) {m : Nat} (hm : 300 < m) : ∃ a h' M', cA (m + 3) 117 [.p (aL 7) 0, .s s] h = some (.t [iD a, iD 0], h') ∧ Wl k h' M' R es ∧ Up h h' ∧ Stay 260 M M' R R es es ∧ Ml M' R (.mk 2 n s ks) a := by
 have h4 := V.n
 have h5 := V.fin
 have h6 := V.md
 obtain ⟨a, e, h', M', e1, K', U, S, A⟩ := V.K.string hs (by omega) (by omega) (n := m) hm
 rcases A with ⟨q, _⟩ | ⟨_, q0, _, T⟩
 ·exact absurd hl q
 ·subst q0
  refine ⟨a, h', M', e1, V.stay K' S, U, S, ?_⟩
  unfold Ml
  exact ⟨nH T.at0, .inr (.inl ⟨rfl, T⟩)⟩
theorem cEh {n : Int} {s : List Nat} {ks : List Lt} (V : Wl (260 + k) h M R es) (hs : ∀ c ∈ s, c < 256) (hl : 1 ≤ s.length ∧ s.length ≤ 60) {m : Nat} (hm : 300 < m) : ∃ a h' M' R' es', cA (m + 3) 10 [.p (aL 7) 0, .s s] h = some (.t [iD a, iD 0], h') ∧ Wl k h' M' R' es' ∧ Up h h' ∧ Stay 260 M M' R R' es es' ∧ Ml M' R' (.mk 3 n s ks) a := by
 have h4 := V.n
 have h5 := V.fin
 have h6 := V.md
 obtain ⟨a, e, h', M', R', es', e1, K', U, S, A⟩ := V.K.symbol hs (by omega) (by omega) (n := m) hm
 rcases A with ⟨q, _⟩ | ⟨_, q0, _, T⟩
 ·exact absurd hl q
 ·subst q0
  have r := S.r 12
  have T' : TxO M' (R'.getD 13 0) a s := by rw [r]; exact T
  refine ⟨a, h', M', R', es', e1, V.stay K' (S.mono (by omega)), U, S.mono (by omega), ?_⟩
  unfold Ml
  exact ⟨nH T.at0, .inr (.inr (.inl ⟨rfl, T'⟩))⟩
theorem cJf {ks : List Lt} {x : DV} {l : List Int} (V : Wl (260 + k) h M R es) (S : SlI x l h) (A : MlA M R ks l) (hk : ks.length ≤ 250) {m : Nat} (hm : 300 < m) : ∃ a h' M', cA (m + 4) 36 [.p (aL 7) 0, x] h = some (.t [iD a, iD 0], h') ∧ Wl k h' M' R es ∧ Up h h' ∧ Stay 260 M M' R R es es ∧ ∀ n tx, Ml M' R (.mk 4 n tx ks) a := by
 have h4 := V.n
 have h5 := V.fin
 have h6 := V.md
 obtain ⟨a1, a2⟩ := A.len
 obtain ⟨a, e, h', M', e1, K', U, B⟩ := V.K.array S (by omega) (by omega) (by omega) (n := m) (by omega)
 rcases B with ⟨q, _⟩ | ⟨_, rfl, rfl, g⟩
 ·exact absurd ⟨by omega, a2⟩ q
 ·have S' : Stay 260 M M' R R es es := (g.stay V.K.G R es fun CL I => I.newK (i := 9) (.inl ⟨rfl, rfl⟩) (by omega) (fun q => by cases q)).mono (by omega)
  have ha := g.newAt V.K.G
  have h0 := V.K.G.lo
  have ha0 : bV (.ofNat (M.fin * 2)) M'.pl ≠ 0 := by rw [ha]; omega
  have hh := g.newHead V.K.G
  refine ⟨_, _, _, e1, V.stay K' S', U, S', fun n tx => ?_⟩
  unfold Ml
  refine ⟨nH ha0, .inr (.inr (.inr ⟨rfl, ha0, by unfold lK; rw [ha, g.cl], by rw [hh]; omega, ?_⟩))⟩
  refine dOo 0 (MlA.stay S' V.I V.K.G ks l A) fun j v hv => ?_
  rw [Nat.zero_add, g.newGet V.K.G (by omega)]
  simp [hv]
end
end Go.Dd

namespace Go.Dd
open Go.Proofs
theorem eqF {a b : Int} (h : a ≠ b) : (a == b) = false := by simpa using h
theorem cWs (l : List Int) : ∀ v ∈ l.map iD, v.one = true := by
 intro v hv
 obtain ⟨c, _, rfl⟩ := List.mem_map.1 hv
 rfl
theorem cSk {x : DV} {l : List Int} {lo : Nat} {h : Hp} (hlo : 1031 ≤ lo) (S : GrS x (l.map iD) lo h) : SlI x l h := by
 rcases S with ⟨rfl, e⟩ | ⟨b, e, hb, h2, h3⟩
 ·refine .inl ⟨rfl, ?_⟩
  simpa using e
 ·exact .inr ⟨b, l.length, .gr 1, by rw [e]; simp, hb, .inr (by omega), h3⟩
theorem LV.upw {h h' : Hp} (u : Up h h') {t : Lt} {ds : List DV} (H : LV Lw h t ds) : LV Lw h' t ds := LV.mv u.next (fun p hq hp => ⟨fun kd l e => ⟨kd, by rw [u.get p (.inl hq) hp]; exact e⟩, hq⟩) t ds H
theorem LVL.upw {h h' : Hp} (u : Up h h') {ts : List Lt} {row : List DV} (H : LVL Lw h ts row) : LVL Lw h' ts row := LVL.mv u.next (fun p hq hp => ⟨fun kd l e => ⟨kd, by rw [u.get p (.inl hq) hp]; exact e⟩, hq⟩) ts row H
theorem KS.upw {h h' : Hp} (u : Up h h') {ks : List Lt} {s : DV} (H : KS Lw h ks s) : KS Lw h' ks s := by
 rcases H with H | ⟨b, row, cap, e, ⟨⟨kd, g1⟩, g2, g3⟩, r⟩
 ·exact .inl H
 ·exact .inr ⟨b, row, cap, e, ⟨⟨kd, by rw [u.get b (.inl g2) g3]; exact g1⟩, g2, Nat.lt_of_lt_of_le g3 u.next⟩, r.upw u⟩
theorem aEu {ks : List Lt} {t : Lt} (ht : t ∈ ks) : t.sz ≤ dNf ks := by
 obtain ⟨i, hi, rfl⟩ := List.getElem_of_mem ht
 exact pR (List.getElem?_eq_getElem hi)
theorem bWx {c : List DV} (h1 : c.length = 4) (h2 : ∀ v ∈ c, v.one = true) (h : Hp) :
  ∃ g k, bY [(.i .i64 (Int.ofNat 0)), (.s []), (.i .i64 (Int.ofNat 0)), .l0] h = some (.p h.next 0, g) ∧ aI 4 (.p h.next 0) (.a c) g = some (aU, k) ∧ aK 4 (.p h.next 0) k = some (.a c, k) ∧ Lo h.next.toNat h k := by
 obtain ⟨c0, c1, c2, c3, rfl⟩ : ∃ c0 c1 c2 c3, c = [c0, c1, c2, c3] := by
  match c, h1 with
  | [c0, c1, c2, c3], _ => exact ⟨_, _, _, _, rfl⟩
 have ns := dNd h.next
 have o0 := h2 c0 (by simp); have o1 := h2 c1 (by simp); have o2 := h2 c2 (by simp); have o3 := h2 c3 (by simp)
 refine ⟨_, ⟨h.next.succ, Tr.set (.row .ex [c0, c1, c2, c3]) h.next (Tr.set (.row .ex [.i .i64 (Int.ofNat 0), .s [], .i .i64 (Int.ofNat 0), .l0]) h.next h.bl)⟩, rfl, ?_, ?_, ⟨by show _ ≤ h.next.succ.toNat; omega, fun p hp => ?_⟩⟩
 ·simp only [aI, dC, List.length_cons, List.length_nil, if_true, cU, dNc, Kind.writable, fL, jW, o0, o1, o2, o3, show (DV.i .i64 (Int.ofNat 0)).one = true from rfl, show (DV.s []).one = true from rfl, show DV.l0.one = true from rfl, Bool.and_self, Option.map_some]
 ·simp only [aK, cellsAt, rowOf, dNc, List.drop_zero, gR, o0, o1, o2, o3, if_true, Option.map_some]
 ·show (Tr.set _ h.next (Tr.set _ h.next h.bl)).get p = _
  rw [dNb _ _ _ _ (fun e => by subst e; omega), dNb _ _ _ _ (fun e => by subst e; omega)]
section
variable {k : Nat}
theorem bVj {N lo : Nat} {s : DV} {ks : List Lt} {h0 : Hp} (hs : KS Lw h0 ks s) (hk : ks.length ≤ 60) (hlo : lo = h0.next.toNat) (h31 : 1031 ≤ lo) (hN : 310 ≤ N)
  (IH : ∀ (t : Lt) (c : List DV) (h : Hp) (M : MemV) (R : List Int) (es : List (DV × DV)) (k : Nat), t ∈ ks → LV Lw h t c → Wl (260 * t.sz + k) h M R es → bAp t k h M R es (cA N 64 [.p (aL 7) 0, .a c] h)) :
  ∀ (r i m : Nat) (h : Hp) (M : MemV) (R : List Int) (es : List (DV × DV)) (x6 : DV) (l : List Int), i + r = ks.length → r < m → Up h0 h → GrS x6 (l.map iD) lo h → Wl (260 * dNf (ks.drop i) + 260 + k) h M R es → MlA M R (ks.take i) l →
   ∃ v h' M' R' es', oJ (cA N) N m (.p (aL 7) 0) x6 s (.i .i64 (Int.ofNat ks.length)) (.i .i64 (Int.ofNat i)) h = some (.t [iD v, iD 0], h') ∧ Wl k h' M' R' es' ∧ Up h0 h' ∧ Stay (260 * dNf (ks.drop i) + 260) M M' R R' es es' ∧ ∀ n tx, Ml M' R' (.mk 4 n tx ks) v := by
 intro r
 induction r with
 | zero =>
  intro i m h M R es x6 l he hm U S V A
  obtain ⟨m, rfl⟩ : ∃ m', m = m' + 1 := ⟨m - 1, by omega⟩
  have hi : i = ks.length := by omega
  subst hi
  rw [List.take_length] at A
  rw [List.drop_length] at V ⊢
  obtain ⟨n, rfl⟩ : ∃ n', N = n' + 4 := ⟨N - 4, by omega⟩
  obtain ⟨a, h', M', e1, V', U', S', L'⟩ := cJf (k := k) (by simpa [dNf] using V) (cSk h31 S) A (by omega) (m := n) (by omega)
  refine ⟨a, h', M', R, es, ?_, V', U.trans U', by simpa [dNf] using S', L'⟩
  show oO (cA (n + 4)) (n + 4) (oJ (cA (n + 4)) (n + 4) m) _ _ _ _ _ h = _
  unfold oO fW
  have dl : decide (Int.ofNat ks.length < Int.ofNat ks.length) = false := decide_eq_false (by omega)
  simp only [cG, aO, dl, bG, e1, zF, xN]
 | succ r ih =>
  intro i m h M R es x6 l he hm U S V A
  obtain ⟨m, rfl⟩ : ∃ m', m = m' + 1 := ⟨m - 1, by omega⟩
  have hi : i < ks.length := by omega
  have ed : dNf (ks.drop i) = ks[i].sz + dNf (ks.drop (i + 1)) := aKl (List.getElem?_eq_getElem hi)
  have hget : ks[i]? = some ks[i] := List.getElem?_eq_getElem hi
  obtain ⟨c, a, p1, p2, p3⟩ := dOk (hs.upw U) hget
  obtain ⟨s1, s2⟩ := p3.shape
  obtain ⟨g, kk, q1, q2, q3, q4⟩ := bWx s1 s2 h
  have hn0 := U.next
  have V0 : Wl (260 * ks[i].sz + (260 * dNf (ks.drop (i + 1)) + 260 + k)) kk M R es := (V.less (by rw [ed]; omega)).lo (by omega) q4
  obtain ⟨v, h1, M1, R1, es1, e1, V1, U1, S1, L1⟩ := IH ks[i] c kk M R es (260 * dNf (ks.drop (i + 1)) + 260 + k) (List.getElem_mem hi) (p3.upw q4.up) V0
  have hn1 := U1.next
  have hn2 := q4.next
  have G1 : GrS x6 (l.map iD) lo h1 := by
   rcases S with S | ⟨b6, s1, s2, s3, s4⟩
   ·exact .inl S
   ·exact .inr ⟨b6, s1, by rw [U1.get b6 (.inr (by omega)) (by omega), q4.get b6 s4]; exact s2, s3, by omega⟩
  have l1len : l.length ≤ 60 := by
   have := A.len.1
   rw [this, List.length_take]
   omega
  obtain ⟨y, g2, e2, x', g', e3, S3, L3⟩ := G1.app (by omega) (cWs l) (z := .i .i64 (Int.ofNat 0)) (v := iD v) rfl rfl (bytes := 8) (by simp; unfold kM; omega)
  have V3 : Wl (260 * dNf (ks.drop (i + 1)) + 260 + k) g' M1 R1 es1 := V1.lo h31 L3
  have hn3 := L3.next
  have U3 : Up h0 g' := ⟨by omega, fun p hp1 hp2 => (L3.get p (by omega)).trans ((U1.get p hp1 (by omega)).trans ((q4.get p (by omega)).trans (U.get p hp1 hp2)))⟩
  obtain ⟨w, h', M', R', es', e4, V', U', S', L'⟩ := ih (i + 1) m g' M1 R1 es1 x' (l ++ [v]) (by omega) (by omega) U3 (by rw [List.map_append]; exact S3) V3 (by
   rw [List.take_succ_eq_append_getElem hi]
   exact dOq (MlA.stay S1 V0.I V0.K.G _ _ A) L1)
  refine ⟨w, h', M', R', es', ?_, V', U', (S1.trans S').mono (by rw [ed]; omega), L'⟩
  have dl : decide (Int.ofNat i < Int.ofNat ks.length) = true := decide_eq_true (Int.ofNat_lt.2 hi)
  show oO (cA N) N (oJ (cA N) N m) _ _ _ _ _ h = _
  unfold oO
  simp only [iD] at p1 e1 e2 e3
  simp only [cG, aO, dl, bN, p1, p2, q1, q2, q3, e1, zF, xN, eN, show ((0 : Int) != Int.ofNat 0) = false from rfl, bG, e2, e3, fZ (Int.ofNat i) (Int.ofNat 1) g' (by show _ ≤ (i : Int) + 1 ∧ (i : Int) + 1 ≤ _; omega)]
  exact e4
theorem bAt : ∀ (N : Nat) (t : Lt) (d : Int) (c : List DV) (h : Hp) (M : MemV) (R : List Int) (es : List (DV × DV)) (k : Nat), t.sz ≤ 60 → t.byt → t.ok d = true → LV Lw h t c → Wl (260 * t.sz + k) h M R es → 320 + t.sz ≤ N →
  bAp t k h M R es (cA N 64 [.p (aL 7) 0, .a c] h)
 | 0, t, d, c, h, M, R, es, k, h1, h2, h3, h4, h5, h6 => by omega
 | N + 1, .mk kd n tx ks, d, c, h, M, R, es, k, hsz, hby, hok, H, V, hN => by
  have esz : (Lt.mk kd n tx ks).sz = 1 + dNf ks := by unfold Lt.sz; rfl
  rw [esz] at hsz hN V
  have hkl := jR ks
  unfold LV at H
  obtain ⟨s, rfl, K⟩ := H
  have K : KS Lw h ks s := K
  unfold Lt.byt at hby
  rw [qH 64 rfl, cOn]
  obtain ⟨U1, V1⟩ := V.new (.row .ex [iD kd, .s tx, iD n, s])
  obtain ⟨h1, hh1⟩ : ∃ h1 : Hp, (⟨h.next.succ, Tr.set (.row .ex [iD kd, .s tx, iD n, s]) h.next h.bl⟩ : Hp) = h1 := ⟨_, rfl⟩
  rw [hh1] at U1 V1
  have eb : bU (.a [iD kd, .s tx, iD n, s]) h = some (.p h.next 0, h1) := by rw [← hh1]; rfl
  have B : B4 h1 h.next kd n tx s := ⟨⟨.ex, by rw [← hh1]; exact dNc _ _ _⟩, K.one⟩
  have nx1 : h1.next = h.next.succ := by rw [← hh1]
  have ns := dNd h.next
  have nxw := V.K.W.nx
  have l0 := B.l0; have l1 := B.l1; have l2 := B.l2; have l3 := B.l3
  have up : ∀ r, bAp (.mk kd n tx ks) k h1 M R es r → bAp (.mk kd n tx ks) k h M R es r := fun r ⟨v, h', M', R', es', e, V', U, S, L⟩ => ⟨v, h', M', R', es', e, V', U1.trans U, S, L⟩
  have V2 : Wl (260 + k) h1 M R es := V1.less (by omega)
  have mono : ∀ {M' R' es'}, Stay 260 M M' R R' es es' → Stay (260 * (Lt.mk kd n tx ks).sz) M M' R R' es es' := fun S => S.mono (by rw [esz]; omega)
  obtain ⟨m, rfl⟩ : ∃ m, N = m + 4 := ⟨N - 4, by omega⟩
  unfold s64 aAz
  simp only [iD] at l0 l1 l2 l3 eb ⊢
  simp only [g0, g1, eb, aO, fR, l0, cI]
  apply up
  unfold Lt.ok at hok
  by_cases c1 : kd = 1
  ·subst c1
   rw [if_neg (by decide)] at hok
   unfold dNz at hok
   rw [if_pos rfl] at hok
   simp only [Bool.and_eq_true, decide_eq_true_eq] at hok
   obtain ⟨a, h', M', e1, V', U, S, L⟩ := cGo (n := n) (tx := tx) (ks := ks) V2 hok.2 (m := m + 2) (by omega)
   refine ⟨a, h', M', R, es, ?_, V', U, mono S, L⟩
   simp only [iD] at e1
   simp only [show ((1 : Int) == Int.ofNat 1) = true from rfl, bN, fR, l2, aO, e1, zF, xN, iD]
  have d1 : (kd == Int.ofNat 1) = false := eqF c1
  by_cases c2 : kd = 2
  ·subst c2
   rw [if_neg (by decide)] at hok
   unfold dNz at hok
   rw [if_neg (by decide)] at hok
   by_cases cn : n = 0
   ·rw [if_neg (by simpa using cn), if_pos rfl] at hok
    simp only [Bool.and_eq_true, decide_eq_true_eq] at hok
    obtain ⟨a, h', M', e1, V', U, S, L⟩ := cFy (n := n) (ks := ks) V2 hby.1 hok.2 (m := m + 1) (by omega)
    refine ⟨a, h', M', R, es, ?_, V', U, mono S, L⟩
    simp only [iD] at e1
    simp only [d1, bG, show ((2 : Int) == Int.ofNat 2) = true from rfl, bN, fR, l1, aO, e1, zF, xN, iD]
   ·rw [if_pos cn] at hok; cases hok
  have d2 : (kd == Int.ofNat 2) = false := eqF c2
  by_cases c3 : kd = 3
  ·subst c3
   rw [if_neg (by decide)] at hok
   unfold dNz at hok
   rw [if_neg (by decide)] at hok
   by_cases cn : n = 0
   ·rw [if_neg (by simpa using cn), if_neg (by decide), if_pos rfl] at hok
    simp only [Bool.and_eq_true, decide_eq_true_eq] at hok
    obtain ⟨a, h', M', R', es', e1, V', U, S, L⟩ := cEh (n := n) (ks := ks) V2 hby.1 hok.2 (m := m + 1) (by omega)
    refine ⟨a, h', M', R', es', ?_, V', U, mono S, L⟩
    simp only [iD] at e1
    simp only [d1, d2, bG, show ((3 : Int) == Int.ofNat 3) = true from rfl, bN, fR, l1, aO, e1, zF, xN, iD]
   ·rw [if_pos cn] at hok; cases hok
  have d3 : (kd == Int.ofNat 3) = false := eqF c3
  by_cases c4 : kd = 4
  ·subst c4
   rw [if_pos rfl] at hok
   simp only [Bool.and_eq_true, decide_eq_true_eq] at hok
   obtain ⟨v, h', M', R', es', e1, V', U, S, L⟩ := bVj (N := m + 4) (lo := h1.next.toNat) (k := k) (K.upw U1) (by omega) rfl (by rw [nx1]; omega) (by omega)
    (fun t c h M R es k ht Tt Vt => by
     have := aEu ht
     exact bAt (m + 4) t (d - 1) c h M R es k (by omega) (aKd hby.2 ht) (aDj hok.2 ht) Tt Vt (by omega)) ks.length 0 (m + 4) h1 M R es .l0 [] (by omega) (by omega) (Up.refl h1) (.inl ⟨rfl, rfl⟩) (by rw [List.drop_zero]; exact V1.less (by omega)) (by rw [List.take_zero]; trivial)
   refine ⟨v, h', M', R', es', ?_, V', U, by rw [List.drop_zero] at S; exact S.mono (by rw [esz]; omega), L n tx⟩
   have sl := LV.len K h1
   simp only [iD] at sl
   unfold aWz aYr
   simp only [d1, d2, d3, bG, aO, fR, l3, sl]
   exact e1
  ·exfalso
   rw [if_neg c4] at hok
   unfold dNz at hok
   rw [if_neg c1] at hok
   by_cases cn : n = 0
   ·rw [if_neg (by simpa using cn), if_neg c2, if_neg c3] at hok; cases hok
   ·rw [if_pos cn] at hok; cases hok
end
end Go.Dd

namespace Go.Dd
open Go.Proofs
def GrZ (sz : Nat) (x : DV) (n : Nat) (cells : List DV) (lo : Nat) (h : Hp) : Prop :=
 cells.length = n * sz ∧ (∀ v ∈ cells, v.one = true) ∧ ((x = .l0 ∧ n = 0) ∨ ∃ b, x = .l b 0 n n ∧ h.bl.get b = some (.row (.gr sz) cells) ∧ lo ≤ b.toNat ∧ b.toNat < h.next.toNat)
theorem GrZ.nil (sz lo : Nat) (h : Hp) : GrZ sz .l0 0 [] lo h := ⟨by simp, by simp, .inl ⟨rfl, rfl⟩⟩
theorem GrZ.appAt {sz n lo : Nat} {x : DV} {cells : List DV} {h : Hp} {q : Pos} (S : GrZ sz x n cells lo h) (hlo : lo ≤ q.toNat) (hq : q.toNat < h.next.toNat) (hxq : ∀ m, x ≠ .l q 0 m m) {zeros c : List DV} (hsz : 0 < sz) (hz : zeros.length = sz) (hc : c.length = sz) (ho : ∀ v ∈ c, v.one = true) {bytes : Nat} (hb : (n + 1) * bytes ≤ kM) :
  ∃ y g, bL q zeros 1 [(0, sz, .a c)] h = some (y, g) ∧ ∃ x' h', aY sz bytes x y g = some (x', h') ∧ GrZ sz x' (n + 1) (cells ++ c) lo h' ∧ h.next.toNat ≤ h'.next.toNat ∧
   (∀ p : Pos, p.toNat < h.next.toNat → p ≠ q → (∀ m, x ≠ .l p 0 m m) → h'.bl.get p = h.bl.get p) ∧ (∀ p m, x' = .l p 0 m m → h.next.toNat ≤ p.toNat) ∧ (x' = .l0 ∨ ∃ p, x' = .l p 0 (n + 1) (n + 1)) := by
 obtain ⟨s1, s2, S⟩ := S
 have l' : (cells ++ c).length = (n + 1) * sz := by rw [List.length_append, s1, hc, Nat.add_mul, Nat.one_mul]
 have o' : ∀ v ∈ cells ++ c, v.one = true := fun v hv => by
  rcases List.mem_append.1 hv with hv | hv
  ·exact s2 v hv
  ·exact ho v hv
 have fd : jK zeros [(0, sz, .a c)] = some c := by
  simp only [jK, dC, hc, Nat.zero_add, hz, Nat.le_refl, and_self, if_true, List.take_zero, List.nil_append]
  rw [List.drop_eq_nil_of_le (by omega), List.append_nil]
 refine ⟨.l q 0 1 1, ⟨h.next, Tr.set (.row .ex c) q h.bl⟩, ?_, ?_⟩
 ·simp only [bL, fd]
 ·have src : qK sz (.l q 0 1 1) ⟨h.next, Tr.set (.row .ex c) q h.bl⟩ = some (1, c) := by
   have : cellsAt q 0 (1 * sz) ⟨h.next, Tr.set (.row .ex c) q h.bl⟩ = some c := by
    simp only [cellsAt, rowOf, dNc, List.drop_zero, Nat.one_mul]
    rw [← hc]
    exact qW c ho
   simp only [qK, this]
  have ns := dNd h.next
  rcases S with ⟨rfl, rfl⟩ | ⟨b, rfl, hbg, h1, h2⟩
  ·have hn : cells = [] := by simpa using s1
   subst hn
   refine ⟨.l h.next 0 1 1, ⟨h.next.succ, Tr.set (.row (.gr sz) c) h.next (Tr.set (.row .ex c) q h.bl)⟩, ?_, ⟨l', o', ?_⟩, by show _ ≤ h.next.succ.toNat; omega, fun p hp hpq _ => ?_, fun p m e => by cases e; omega, .inr ⟨_, rfl⟩⟩
   ·unfold aY
    rw [src]
    dsimp only
    rw [if_neg (by simp), if_pos (by simpa using hb)]
   ·exact .inr ⟨h.next, rfl, dNc _ _ _, by omega, by show _ < h.next.succ.toNat; omega⟩
   ·show (Tr.set _ h.next (Tr.set _ q h.bl)).get p = _
    rw [dNb _ _ _ _ (fun e => by subst e; omega), dNb _ _ _ _ hpq]
  ·have hne : b ≠ q := fun e => by subst e; exact hxq n rfl
   have hget : (Tr.set (.row .ex c) q h.bl).get b = some (.row (.gr sz) cells) := by rw [dNb _ _ _ _ hne]; exact hbg
   have hcells : cellsAt b 0 (n * sz) ⟨h.next, Tr.set (.row .ex c) q h.bl⟩ = some cells := by
    simp only [cellsAt, rowOf, hget, List.drop_zero]
    rw [← s1]
    exact qW cells s2
   refine ⟨.l h.next 0 (n + 1) (n + 1), ⟨h.next.succ, Tr.set (.row (.gr sz) (cells ++ c)) h.next (Tr.set (.row .sp (bR 0 cells)) b (Tr.set (.row .ex c) q h.bl))⟩, ?_, ⟨l', o', ?_⟩, by show _ ≤ h.next.succ.toNat; omega, fun p hp hpq hx => ?_, fun p m e => by cases e; omega, .inr ⟨_, rfl⟩⟩
   ·unfold aY
    rw [src]
    dsimp only
    rw [if_neg (by omega), hget, hcells]
    dsimp only
    rw [if_pos hb, if_pos ⟨rfl, by rw [s1, Nat.zero_add]⟩]
   ·exact .inr ⟨h.next, rfl, dNc _ _ _, by omega, by show _ < h.next.succ.toNat; omega⟩
   ·show (Tr.set _ h.next (Tr.set _ b (Tr.set _ q h.bl))).get p = _
    rw [dNb _ _ _ _ (fun e => by subst e; omega), dNb _ _ _ _ (fun e => by subst e; exact hx n rfl), dNb _ _ _ _ hpq]
theorem LVL.app {q : Pos → Prop} {h : Hp} : ∀ {l : List Lt} {c : List DV} {t : Lt} {d : List DV}, c.length = l.length * 4 → LVL q h l c → LV q h t d → LVL q h (l ++ [t]) (c ++ d)
 | [], c, t, d, hc, _, H => by
  have : c = [] := by simpa using hc
  subst this
  unfold LVL
  exact ⟨d, [], by simp, H, by unfold LVL; trivial⟩
 | x :: l, _, t, d, hc, H0, H => by
  unfold LVL at H0
  obtain ⟨c, r, rfl, a, b⟩ := H0
  have hl := a.shape.1
  rw [List.cons_append, List.append_assoc]
  unfold LVL
  exact ⟨c, r ++ d, rfl, a, LVL.app (by rw [List.length_append, List.length_cons] at hc; omega) b H⟩
theorem Wd.lo' {h h' : Hp} {M : MemV} {R : List Int} {es : List (DV × DV)} (W : Wd h M R es) {lo : Nat} (hlo : 1031 ≤ lo) (L : Lo lo h h') : Wd h' M R es := by
 obtain ⟨m1, m2, m3, m4, m5, m6⟩ := iA W.mem
 have e : ∀ b : Pos, b.toNat < 1031 → h'.bl.get b = h.bl.get b := fun b hb => L.get b (by omega)
 refine ⟨by rw [e _ (by rw [pn7]; omega)]; exact W.w, by rw [e _ (by rw [pn4]; omega)]; exact W.r, W.rl, by rw [e _ (by rw [pn5]; omega)]; exact W.sy, ?_, Nat.le_trans W.nx L.next, W.wb, W.pb⟩
 exact jS (by rw [e _ (by rw [pn3]; omega)]; exact m1) (by rw [e _ (by rw [W.wb, pn1]; omega)]; exact m2) (by rw [e _ (by rw [W.pb, pn2]; omega)]; exact m3) m4 m5 m6
end Go.Dd

namespace Go.Dd
open Go.Proofs
theorem st3 {h : Hp} {b : Pos} {c0 c1 c2 c3 v : DV} (e : h.bl.get b = some (.row .ex [c0, c1, c2, c3])) (ho : c3.one = true) (hv : v.one = true) (hc : dC v = some [v]) : aI 1 (.p b (0 + 3)) v h = some (aU, ⟨h.next, Tr.set (.row .ex [c0, c1, c2, v]) b h.bl⟩) := by
 simp only [aI, hc, List.length_cons, List.length_nil, if_true, cU, e, Kind.writable, fL, jW, ho, hv, Bool.and_self, Option.map_some]
theorem st4 {h : Hp} {b : Pos} {c0 c1 c2 c3 d0 d1 d2 d3 : DV} (e : h.bl.get b = some (.row .ex [c0, c1, c2, c3])) (h0 : c0.one = true) (h1 : c1.one = true) (h2 : c2.one = true) (h3 : c3.one = true) (k0 : d0.one = true) (k1 : d1.one = true) (k2 : d2.one = true) (k3 : d3.one = true) :
  aI 4 (.p b 0) (.a [d0, d1, d2, d3]) h = some (aU, ⟨h.next, Tr.set (.row .ex [d0, d1, d2, d3]) b h.bl⟩) := by
 simp only [aI, dC, List.length_cons, List.length_nil, if_true, cU, e, Kind.writable, fL, jW, h0, h1, h2, h3, k0, k1, k2, k3, Bool.and_self, Option.map_some]
theorem la4 {h : Hp} {b : Pos} {kd : Kind} {d0 d1 d2 d3 : DV} (e : h.bl.get b = some (.row kd [d0, d1, d2, d3])) (k0 : d0.one = true) (k1 : d1.one = true) (k2 : d2.one = true) (k3 : d3.one = true) : aK 4 (.p b 0) h = some (.a [d0, d1, d2, d3], h) := by
 simp only [aK, cellsAt, rowOf, e, List.drop_zero, gR, k0, k1, k2, k3, if_true, Option.map_some]
theorem zT {M : MemV} {R : List Int} {x : Int} (ha : bV x M.pl ≠ 0) (hc : lK M x ≠ R.getD 10 0) : nZ M R x = none := by
 unfold nZ
 rw [if_neg (fun q => ha (aLz q)), if_neg (fun q => hc q.1.2)]
theorem aAl {M : MemV} {R : List Int} (I : GI M R CL0) {i j : Nat} (hi : i < 16) (hj : j < 16) (h : i ≠ j) : R.getD (2 + i) 0 ≠ R.getD (2 + j) 0 := by
 rw [I.rk i hi, I.rk j hj]
 intro e
 have := Int.ofNat.inj e
 omega
theorem aBq {M : MemV} {R : List Int} {x : Int} : ∀ {ts : List Lt} {j : Nat}, MlL M R x j ts → ∀ (i : Nat) t, ts[i]? = some t → Ml M R t (oN M x (j + i))
 | [], j, H, i, t, e => by simp at e
 | a :: ts, j, H, i, t, e => by
  unfold MlL at H
  cases i with
  | zero =>
   simp only [List.getElem?_cons_zero, bC] at e
   subst e
   exact H.1
  | succ i =>
   simp only [List.getElem?_cons_succ] at e
   have := aBq H.2 i t e
   rw [show j + (i + 1) = j + 1 + i by omega]
   exact this
section
variable {M : MemV} {R : List Int} {es : List (DV × DV)}
def Qk (lo : Nat) (b9 : Pos) (sl : DV) (p : Pos) : Prop := lo ≤ p.toNat ∧ p ≠ b9 ∧ ∀ m, sl ≠ .l p 0 m m
theorem aRt (G : Good M) (I : GI M R CL0) {N lo : Nat} {x : Int} {ks : List Lt} {b4 b9 : Pos} (hx : dG M x / 4 = ks.length) (hp : MlL M R x 0 ks) (hk : ks.length ≤ 60) (h31 : 1031 ≤ lo) (hN : 310 ≤ N) (h9 : lo ≤ b9.toNat) (hb4 : b4.toNat < lo) (h41 : 1031 ≤ b4.toNat)
  (IH : ∀ (t : Lt) (y : Int) (h : Hp), t ∈ ks → Ml M R t y → Wd h M R es → ∃ c h', cA N 29 [.p (aL 7) 0, iD y] h = some (.a c, h') ∧ Wd h' M R es ∧ Up h h' ∧ LV (fun p => h.next.toNat ≤ p.toNat) h' t c) :
  ∀ (r i m : Nat) (h : Hp) (sl : DV) (cells : List DV), i + r = ks.length → r < m → b9.toNat < h.next.toNat → Wd h M R es → h.bl.get b4 = some (.row .ex [iD 0, .s [], iD 0, .l0]) → h.bl.get b9 = some (.row .ex [iD 4, .s [], iD 0, sl]) → GrZ 4 sl i cells lo h → (∀ m, sl ≠ .l b9 0 m m) → LVL (Qk lo b9 sl) h (ks.take i) cells →
   ∃ c h', pD (cA N) N m (.p (aL 7) 0) (iD x) (.p b4 0) (.p b9 0) (.i .i64 (Int.ofNat i)) h = some (.a c, h') ∧ Wd h' M R es ∧ (h.next.toNat ≤ h'.next.toNat ∧ ∀ p : Pos, (p.toNat < 1024 ∨ 1029 ≤ p.toNat) → p.toNat < lo → p ≠ b4 → h'.bl.get p = h.bl.get p) ∧ LV (fun p => lo ≤ p.toNat) h' (.mk 4 0 [] ks) c := by
 intro r
 induction r with
 | zero =>
  intro i m h sl cells he hm hb W r4 r9 Z z9 K
  obtain ⟨m, rfl⟩ : ∃ m', m = m' + 1 := ⟨m - 1, by omega⟩
  have hi : i = ks.length := by omega
  subst hi
  rw [List.take_length] at K
  obtain ⟨N, rfl⟩ : ∃ n, N = n + 1 := ⟨N - 1, by omega⟩
  have so : sl.one = true := by
   rcases Z.2.2 with ⟨rfl, _⟩ | ⟨b, rfl, _⟩ <;> rfl
  have ef : eJ [.p (aL 3) 0, .i .i64 x] h = some (.i .i64 (.ofNat (dG M x / 4)), h) := W.fieldsA G I x
  have dl : decide (Int.ofNat ks.length < Int.ofNat ks.length) = false := decide_eq_false (by omega)
  have e1 := la4 r9 rfl rfl rfl so
  have e2 := st4 (d0 := iD 4) (d1 := .s []) (d2 := iD 0) (d3 := sl) r4 rfl rfl rfl rfl rfl rfl rfl so
  obtain ⟨h2, eh2⟩ : ∃ h2 : Hp, (⟨h.next, Tr.set (.row .ex [iD 4, .s [], iD 0, sl]) b4 h.bl⟩ : Hp) = h2 := ⟨_, rfl⟩
  rw [eh2] at e2
  have r4' : h2.bl.get b4 = some (.row .ex [iD 4, .s [], iD 0, sl]) := by rw [← eh2]; exact dNc _ _ _
  have e3 := la4 r4' rfl rfl rfl so
  have oth : ∀ p, p ≠ b4 → h2.bl.get p = h.bl.get p := fun p hp => by rw [← eh2]; exact dNb _ _ _ _ hp
  have nx2 : h2.next = h.next := by rw [← eh2]
  refine ⟨[iD 4, .s [], iD 0, sl], h2, ?_, ?_, ⟨by rw [nx2]; exact Nat.le_refl _, fun p _ _ hp => oth p hp⟩, ?_⟩
  ·show pF (cA (N + 1)) (N + 1) (pD (cA (N + 1)) (N + 1) m) _ _ _ _ _ h = _
   unfold pF fV
   simp only [iD] at e1 e2 e3 ⊢
   simp only [W.memory N, aO, ef, hx, cG, dl, bG, e1, e2, e3]
  ·exact W.lo' (lo := b4.toNat) h41 ⟨by rw [nx2]; exact Nat.le_refl _, fun p hp => oth p (fun e => by subst e; omega)⟩
  ·have mv : LVL (fun p => lo ≤ p.toNat) h2 ks cells := LVL.mv (q := Qk lo b9 sl) (by rw [nx2]; exact Nat.le_refl _) (fun p hq hp => ⟨fun kd l e => ⟨kd, by rw [oth p (fun e => by have := hq.1; subst e; omega)]; exact e⟩, hq.1⟩) ks cells K
   unfold LV
   refine ⟨sl, rfl, ?_⟩
   obtain ⟨z1, z2, Z⟩ := Z
   rcases Z with ⟨rfl, h0⟩ | ⟨b, rfl, g1, g2, g3⟩
   ·exact .inl ⟨List.length_eq_zero_iff.1 h0, rfl⟩
   ·exact .inr ⟨b, cells, ks.length, rfl, ⟨⟨_, by rw [oth b (fun e => by subst e; omega)]; exact g1⟩, g2, by rw [nx2]; exact g3⟩, mv⟩
 | succ r ih =>
  intro i m h sl cells he hm hb W r4 r9 Z z9 K
  obtain ⟨m, rfl⟩ : ∃ m', m = m' + 1 := ⟨m - 1, by omega⟩
  have hi : i < ks.length := by omega
  have hget : ks[i]? = some ks[i] := List.getElem?_eq_getElem hi
  have so : sl.one = true := by
   rcases Z.2.2 with ⟨rfl, _⟩ | ⟨b, rfl, _⟩ <;> rfl
  have nxw := W.nx
  have ef : eJ [.p (aL 3) 0, .i .i64 x] h = some (.i .i64 (.ofNat (dG M x / 4)), h) := W.fieldsA G I x
  have dl : decide (Int.ofNat i < Int.ofNat ks.length) = true := decide_eq_true (Int.ofNat_lt.2 hi)
  obtain ⟨e, eg, _⟩ := W.getA G I x i
  have hm := aBq hp i ks[i] hget
  rw [Nat.zero_add] at hm
  have ns := dNd h.next
  obtain ⟨h1, eh1⟩ : ∃ h1 : Hp, resv 1 h = h1 := ⟨_, rfl⟩
  have n1 : h1.next = h.next.succ := by rw [← eh1]; rfl
  have b1 : h1.bl = h.bl := by rw [← eh1]; rfl
  have W1 : Wd h1 M R es := W.lo' (lo := h.next.toNat) nxw ⟨by rw [n1]; omega, fun p _ => by rw [b1]⟩
  have l3 : aA (.p b9 (0 + 3)) h1 = some (sl, h1) := sY (i := 0 + 3) (by rw [b1]; exact r9) rfl so
  obtain ⟨c, h2, e2, W2, U2, L2⟩ := IH ks[i] (oN M x i) h1 (List.getElem_mem hi) hm W1
  have n2 := U2.next
  have r92 : h2.bl.get b9 = some (.row .ex [iD 4, .s [], iD 0, sl]) := by rw [U2.get b9 (.inr (by omega)) (by rw [n1]; omega), b1]; exact r9
  have r42 : h2.bl.get b4 = some (.row .ex [iD 0, .s [], iD 0, .l0]) := by rw [U2.get b4 (.inr (by omega)) (by rw [n1]; omega), b1]; exact r4
  have l32 : aA (.p b9 (0 + 3)) h2 = some (sl, h2) := sY (i := 0 + 3) r92 rfl so
  have Z2 : GrZ 4 sl i cells lo h2 := by
   obtain ⟨z1, z2, Z⟩ := Z
   refine ⟨z1, z2, ?_⟩
   rcases Z with Z | ⟨b, s1, s2, s3, s4⟩
   ·exact .inl Z
   ·exact .inr ⟨b, s1, by rw [U2.get b (.inr (by omega)) (by rw [n1]; omega), b1]; exact s2, s3, by rw [n1] at n2; omega⟩
  have slp : ∀ p m, sl = .l p 0 m m → p.toNat < h.next.toNat ∧ lo ≤ p.toNat := fun p m e => by
   rcases Z.2.2 with ⟨e0, _⟩ | ⟨b, s1, _, s3, s4⟩
   ·rw [e0] at e; cases e
   ·rw [s1] at e; cases e; exact ⟨s4, s3⟩
  obtain ⟨s1, s2⟩ := L2.shape
  have il : i ≤ 60 := by omega
  obtain ⟨y, g, e3, sl', h3, e4, Z3, n3, o3, p3, q3⟩ := Z2.appAt (q := h.next) (by omega) (by rw [n1] at n2; omega) (fun m e => by have := slp _ _ e; omega) (zeros := [(.i .i64 (Int.ofNat 0)), (.s []), (.i .i64 (Int.ofNat 0)), .l0]) (c := c) (by decide) rfl s1 s2 (bytes := 56) (by unfold kM; omega)
  have so' : sl'.one = true ∧ dC sl' = some [sl'] := by
   rcases q3 with rfl | ⟨p, rfl⟩ <;> exact ⟨rfl, rfl⟩
  have r93 : h3.bl.get b9 = some (.row .ex [iD 4, .s [], iD 0, sl]) := by rw [o3 b9 (by rw [n1] at n2; omega) (fun e => by subst e; omega) z9]; exact r92
  have e5 := st3 (v := sl') r93 so so'.1 so'.2
  obtain ⟨h4, eh4⟩ : ∃ h4 : Hp, (⟨h3.next, Tr.set (.row .ex [iD 4, .s [], iD 0, sl']) b9 h3.bl⟩ : Hp) = h4 := ⟨_, rfl⟩
  rw [eh4] at e5
  have nx4 : h4.next = h3.next := by rw [← eh4]
  have oth4 : ∀ p, p ≠ b9 → h4.bl.get p = h3.bl.get p := fun p hp => by rw [← eh4]; exact dNb _ _ _ _ hp
  have r94 : h4.bl.get b9 = some (.row .ex [iD 4, .s [], iD 0, sl']) := by rw [← eh4]; exact dNc _ _ _
  have lowp : ∀ p : Pos, (p.toNat < 1024 ∨ 1029 ≤ p.toNat) → p.toNat < lo → h4.bl.get p = h.bl.get p := fun p hp1 hp2 => by
   rw [oth4 p (fun e => by subst e; omega), o3 p (by rw [n1] at n2; omega) (fun e => by subst e; omega) (fun m e => by have := slp _ _ e; omega), U2.get p hp1 (by rw [n1]; omega), b1]
  have r44 : h4.bl.get b4 = some (.row .ex [iD 0, .s [], iD 0, .l0]) := by rw [lowp b4 (.inr (by omega)) hb4]; exact r4
  have W4 : Wd h4 M R es := W2.lo' (lo := lo) h31 ⟨by rw [nx4]; omega, fun p hp => by
   rw [oth4 p (fun e => by subst e; omega), o3 p (by rw [n1] at n2; omega) (fun e => by subst e; omega) (fun m e => by have := slp _ _ e; omega)]⟩
  have Z4 : GrZ 4 sl' (i + 1) (cells ++ c) lo h4 := by
   obtain ⟨z1, z2, Z⟩ := Z3
   refine ⟨z1, z2, ?_⟩
   rcases Z with Z | ⟨b, s1, s2, s3, s4⟩
   ·exact .inl Z
   ·have := p3 b _ s1
    exact .inr ⟨b, s1, by rw [oth4 b (fun e => by subst e; rw [n1] at n2; omega)]; exact s2, s3, by rw [nx4]; exact s4⟩
  have mvq : ∀ p : Pos, Qk lo b9 sl p → p.toNat < h2.next.toNat → p ≠ h.next → h4.bl.get p = h2.bl.get p ∧ Qk lo b9 sl' p := fun p hq hp1 hp2 => by
   refine ⟨by rw [oth4 p hq.2.1, o3 p hp1 hp2 hq.2.2], hq.1, hq.2.1, fun m e => ?_⟩
   have := p3 p m e
   omega
  have K4 : LVL (Qk lo b9 sl') h4 (ks.take (i + 1)) (cells ++ c) := by
   rw [List.take_succ_eq_append_getElem hi]
   refine LVL.app (by rw [Z.1, List.length_take]; omega) ?_ ?_
   ·have K2 : LVL (Qk lo b9 sl) h1 (ks.take i) cells := LVL.mv (by rw [n1]; omega) (fun p hq hp => ⟨fun kd l e => ⟨kd, by rw [b1]; exact e⟩, hq⟩) _ _ K
    refine LVL.mv (q := fun p => Qk lo b9 sl p ∧ p.toNat < h.next.toNat) (h := h) (by rw [nx4]; rw [n1] at n2; omega) (fun p hq hp => ?_) _ _ (LVL.mv (q := Qk lo b9 sl) (Nat.le_refl _) (fun p hq hp => ⟨fun kd l e => ⟨kd, e⟩, hq, hp⟩) _ _ K)
    obtain ⟨m1, m2⟩ := mvq p hq.1 (by rw [n1] at n2; omega) (fun e => by have := hq.2; subst e; omega)
    refine ⟨fun kd l e => ⟨kd, ?_⟩, m2⟩
    rw [m1, U2.get p (.inr (by have := hq.1.1; omega)) (by rw [n1]; omega), b1]
    exact e
   ·refine LV.mv (q := fun p => h1.next.toNat ≤ p.toNat) (h := h2) (by rw [nx4]; omega) (fun p hq hp => ?_) _ _ L2
    have hq : h1.next.toNat ≤ p.toNat := hq
    rw [n1] at hq
    obtain ⟨m1, m2⟩ := mvq p ⟨by omega, fun e => by subst e; omega, fun m e => by have := slp _ _ e; omega⟩ hp (fun e => by subst e; omega)
    exact ⟨fun kd l e => ⟨kd, by rw [m1]; exact e⟩, m2⟩
  obtain ⟨c', h', e6, W', ⟨n', o'⟩, L'⟩ := ih (i + 1) m h4 sl' (cells ++ c) (by omega) (by omega) (by rw [nx4]; rw [n1] at n2; omega) W4 r44 r94 Z4 (fun m e => by have := p3 _ _ e; rw [n1] at n2; omega) K4
  refine ⟨c', h', ?_, W', ⟨by rw [nx4] at n'; rw [n1] at n2; omega, fun p a b c => (o' p a b c).trans (lowp p a b)⟩, L'⟩
  obtain ⟨N, rfl⟩ : ∃ n, N = n + 1 := ⟨N - 1, by omega⟩
  show pF (cA (N + 1)) (N + 1) (pD (cA (N + 1)) (N + 1) m) _ _ _ _ _ h = _
  unfold pF
  have e7 : bM (aA (.p b9 (0 + 3)) h2) sl = true := by
   rw [l32]
   rcases Z.2.2 with ⟨rfl, _⟩ | ⟨b, rfl, _⟩
   ·rfl
   ·simp [bM, DV.beq]
  simp only [iD] at e2 e3 e4 e5 eg ⊢
  have np0 : cF 0 h.next = h.next := rfl
  simp only [W.memory N, aO, ef, hx, cG, dl, bN, eg, zF, xN, fR, eh1, l3, e2, e7, Bool.and_self, cnd, np0, e3, e4, e5, fZ (Int.ofNat i) (Int.ofNat 1) h4 (by show _ ≤ (i : Int) + 1 ∧ (i : Int) + 1 ≤ _; omega)]
  exact e6
end
end Go.Dd

namespace Go.Dd
open Go.Proofs
section
variable {M : MemV} {R : List Int} {es : List (DV × DV)}
theorem dEc (h : Hp) : ∃ h1, bY [(.i .i64 (Int.ofNat 0)), (.s []), (.i .i64 (Int.ofNat 0)), .l0] h = some (.p h.next 0, h1) ∧ h1.bl.get h.next = some (.row .ex [iD 0, .s [], iD 0, .l0]) ∧ h1.next = h.next.succ ∧ ∀ p, p ≠ h.next → h1.bl.get p = h.bl.get p :=
 ⟨_, rfl, dNc _ _ _, rfl, fun p hp => dNb _ _ _ _ hp⟩
theorem TxO.clo {c x : Int} {s : List Nat} (T : TxO M c x s) : lK M x = c := T.cls
theorem aBb (G : Good M) (I : GI M R CL0) : ∀ (N : Nat) (t : Lt) (d : Int) (x : Int) (h : Hp), t.sz ≤ 60 → t.ok d = true → Ml M R t x → Wd h M R es → 320 + t.sz ≤ N →
  ∃ c h', cA N 29 [.p (aL 7) 0, iD x] h = some (.a c, h') ∧ Wd h' M R es ∧ Up h h' ∧ LV (fun p => h.next.toNat ≤ p.toNat) h' t c
 | 0, t, d, x, h, h1, h2, h3, h4, h5 => by omega
 | N + 1, .mk kd n tx ks, d, x, h, hsz, hok, hm, W, hN => by
  have esz : (Lt.mk kd n tx ks).sz = 1 + dNf ks := by unfold Lt.sz; rfl
  rw [esz] at hsz hN
  have hkl := jR ks
  have nxw := W.nx
  have ns := dNd h.next
  rw [qH 29 rfl, cNr]
  obtain ⟨m, rfl⟩ : ∃ m, N = m + 4 := ⟨N - 4, by omega⟩
  obtain ⟨h1, e0, r4, n1, o1⟩ := dEc h
  have W1 : Wd h1 M R es := W.lo' (lo := h.next.toNat) nxw ⟨by rw [n1]; omega, fun p hp => o1 p (fun e => by subst e; omega)⟩
  have U1 : Up h h1 := ⟨by rw [n1]; omega, fun p _ hp => o1 p (fun e => by subst e; omega)⟩
  have ev := W1.value G I x (m + 2)
  unfold Ml at hm
  obtain ⟨may, hm⟩ := hm
  unfold Lt.ok at hok
  have fin : ∀ (h2 : Hp) (a b : DV) (k n : Int) (tx : List Nat), Wd h2 M R es → Up h1 h2 → ∃ h', aI 4 (.p h.next 0) (.a [iD k, .s tx, iD n, .l0]) h2 = some (aU, h') ∧ aK 4 (.p h.next 0) h' = some (.a [iD k, .s tx, iD n, .l0], h') ∧ Wd h' M R es ∧ Up h h' := fun h2 a b k n tx W2 U2 => by
   have r42 : h2.bl.get h.next = some (.row .ex [iD 0, .s [], iD 0, .l0]) := by rw [U2.get _ (.inr (by omega)) (by rw [n1]; omega)]; exact r4
   have := st4 (d0 := iD k) (d1 := .s tx) (d2 := iD n) (d3 := .l0) r42 rfl rfl rfl rfl rfl rfl rfl rfl
   have n2 := U2.next
   refine ⟨_, this, la4 (dNc _ _ _) rfl rfl rfl rfl, W2.lo' (lo := h.next.toNat) nxw ⟨Nat.le_refl _, fun p hp => dNb _ _ _ _ (fun e => by subst e; omega)⟩, ⟨by show _ ≤ h2.next.toNat; rw [n1] at n2; omega, fun p hp1 hp2 => ?_⟩⟩
   show (Tr.set _ h.next h2.bl).get p = _
   rw [dNb _ _ _ _ (fun e => by subst e; omega), U2.get p hp1 (by rw [n1]; omega), o1 p (fun e => by subst e; omega)]
  rcases hm with ⟨rfl, hv⟩ | ⟨rfl, hv⟩ | ⟨rfl, hv⟩ | ⟨rfl, q1, q2, q3, q4⟩
  ·rw [if_neg (by decide)] at hok
   unfold dNz at hok
   rw [if_pos rfl] at hok
   simp only [Bool.and_eq_true, decide_eq_true_eq, List.isEmpty_iff] at hok
   obtain ⟨⟨rfl, rfl⟩, _⟩ := hok
   obtain ⟨h', f1, f2, W', U'⟩ := fin h1 .u .u 1 n [] W1 (Up.refl h1)
   refine ⟨[iD 1, .s [], iD n, .l0], h', ?_, W', U', by unfold LV; exact ⟨.l0, rfl, .inl ⟨rfl, rfl⟩⟩⟩
   unfold s29 qJ sZ
   have b1 : bE [(.i .i64 (Int.ofNat 0)), (.s []), (.i .i64 (Int.ofNat 0)), .l0] [(0, 1, (.i .i64 (Int.ofNat 1))), (2, 1, iD n)] h1 = some (.a [iD 1, .s [], iD n, .l0], h1) := rfl
   simp only [iD] at ev b1 f1 f2 ⊢
   simp only [g0, g1, e0, aO, ev, zF, xN, hv, Option.isSome_some, Option.getD_some, bN, b1, f1, f2]
  ·rw [if_neg (by decide)] at hok
   unfold dNz at hok
   rw [if_neg (by decide)] at hok
   by_cases cn : n = 0
   ·rw [if_neg (by simpa using cn), if_pos rfl] at hok
    simp only [Bool.and_eq_true, decide_eq_true_eq, List.isEmpty_iff] at hok
    obtain ⟨rfl, _⟩ := hok
    subst cn
    have hn : nZ M R x = none := zT hv.at0 (by rw [hv.clo]; exact aAl I (i := 10) (j := 8) (by omega) (by omega) (by omega))
    obtain ⟨h2, et, W2, U2⟩ := W1.text G hv (.inl rfl) (k := m + 2) (by omega)
    have ec := W2.classOf G x (m + 2)
    have cw : bDd M R x = R.getD 12 0 := by unfold bDd; rw [if_pos hv.at0]; exact hv.clo
    have ek : cA (m + 4) 34 [.p (aL 7) 0, .i .i64 (Int.ofNat 11)] h2 = some (iD (R.getD 13 0), h2) := W2.known (show 11 < 16 by omega) (m + 3)
    have ne : (R.getD 12 0 == R.getD 13 0) = false := neI (aAl I (i := 10) (j := 11) (by omega) (by omega) (by omega))
    obtain ⟨h', f1, f2, W', U'⟩ := fin h2 .u .u 2 0 tx W2 U2
    refine ⟨[iD 2, .s tx, iD 0, .l0], h', ?_, W', U', by unfold LV; exact ⟨.l0, rfl, .inl ⟨rfl, rfl⟩⟩⟩
    unfold s29 qJ sZ tO yS
    have b1 : bE [(.i .i64 (Int.ofNat 0)), (.s []), (.i .i64 (Int.ofNat 0)), .l0] [(0, 1, (.i .i64 (Int.ofNat 2))), (1, 1, .s tx)] h2 = some (.a [iD 2, .s tx, iD 0, .l0], h2) := rfl
    simp only [iD] at ev b1 f1 f2 ec ek et ⊢
    simp only [g0, g1, e0, aO, ev, zF, xN, hn, Option.isSome_none, bG, et, bN, ec, cw, ek, cI, ne, b1, f1, f2]
   ·rw [if_pos cn] at hok; cases hok
  ·rw [if_neg (by decide)] at hok
   unfold dNz at hok
   rw [if_neg (by decide)] at hok
   by_cases cn : n = 0
   ·rw [if_neg (by simpa using cn), if_neg (by decide), if_pos rfl] at hok
    simp only [Bool.and_eq_true, decide_eq_true_eq, List.isEmpty_iff] at hok
    obtain ⟨rfl, _⟩ := hok
    subst cn
    have hn : nZ M R x = none := zT hv.at0 (by rw [hv.clo]; exact aAl I (i := 11) (j := 8) (by omega) (by omega) (by omega))
    obtain ⟨h2, et, W2, U2⟩ := W1.text G hv (.inr rfl) (k := m + 2) (by omega)
    have ec := W2.classOf G x (m + 2)
    have cw : bDd M R x = R.getD 13 0 := by unfold bDd; rw [if_pos hv.at0]; exact hv.clo
    have ek : cA (m + 4) 34 [.p (aL 7) 0, .i .i64 (Int.ofNat 11)] h2 = some (iD (R.getD 13 0), h2) := W2.known (show 11 < 16 by omega) (m + 3)
    have ne : (R.getD 13 0 == R.getD 13 0) = true := beq_self_eq_true _
    obtain ⟨h', f1, f2, W', U'⟩ := fin h2 .u .u 3 0 tx W2 U2
    refine ⟨[iD 3, .s tx, iD 0, .l0], h', ?_, W', U', by unfold LV; exact ⟨.l0, rfl, .inl ⟨rfl, rfl⟩⟩⟩
    unfold s29 qJ sZ tO yS
    have b1 : bE [(.i .i64 (Int.ofNat 0)), (.s []), (.i .i64 (Int.ofNat 0)), .l0] [(0, 1, (.i .i64 (Int.ofNat 3))), (1, 1, .s tx)] h2 = some (.a [iD 3, .s tx, iD 0, .l0], h2) := rfl
    simp only [iD] at ev b1 f1 f2 ec ek et ⊢
    simp only [g0, g1, e0, aO, ev, zF, xN, hn, Option.isSome_none, bG, et, bN, ec, cw, ek, cI, ne, b1, f1, f2]
   ·rw [if_pos cn] at hok; cases hok
  ·rw [if_pos rfl] at hok
   simp only [Bool.and_eq_true, decide_eq_true_eq, List.isEmpty_iff] at hok
   obtain ⟨⟨⟨⟨rfl, rfl⟩, _⟩, _⟩, oks⟩ := hok
   have hn : nZ M R x = none := zT q1 (by rw [q2]; exact aAl I (i := 9) (j := 8) (by omega) (by omega) (by omega))
   have nt : ¬ dGn M R x := fun q => by
    rcases q.2 with q | q
    ·exact aAl I (i := 9) (j := 10) (by omega) (by omega) (by omega) (q2.symm.trans q)
    ·exact aAl I (i := 9) (j := 11) (by omega) (by omega) (by omega) (q2.symm.trans q)
   have et := W1.textN G I nt (m + 2)
   obtain ⟨h2, e2, r2, n2, o2⟩ := dEc h1
   have ns1 := dNd h1.next
   have e3 := st4 (d0 := iD 4) (d1 := .s []) (d2 := iD 0) (d3 := .l0) r2 rfl rfl rfl rfl rfl rfl rfl rfl
   obtain ⟨h3, eh3⟩ : ∃ h3 : Hp, (⟨h2.next, Tr.set (.row .ex [iD 4, .s [], iD 0, .l0]) h1.next h2.bl⟩ : Hp) = h3 := ⟨_, rfl⟩
   rw [eh3] at e3
   have n3 : h3.next = h2.next := by rw [← eh3]
   have r9 : h3.bl.get h1.next = some (.row .ex [iD 4, .s [], iD 0, .l0]) := by rw [← eh3]; exact dNc _ _ _
   have o3 : ∀ p, p.toNat < h1.next.toNat → h3.bl.get p = h1.bl.get p := fun p hp => by
    rw [← eh3]
    show (Tr.set _ h1.next h2.bl).get p = _
    rw [dNb _ _ _ _ (fun e => by subst e; omega), o2 p (fun e => by subst e; omega)]
   have nn1 : h1.next.toNat = h.next.toNat + 1 := by rw [n1]; omega
   have nn3 : h3.next.toNat = h.next.toNat + 2 := by rw [n3, n2]; omega
   have W3 : Wd h3 M R es := W1.lo' (lo := h1.next.toNat) (by omega) ⟨by omega, o3⟩
   obtain ⟨c, h', e4, W', ⟨n', o'⟩, L'⟩ := aRt (R := R) (es := es) G I (N := m + 4) (lo := h1.next.toNat) (x := x) (ks := ks) (b4 := h.next) (b9 := h1.next) q3 q4 (by omega) (by omega) (by omega) (Nat.le_refl _) (by omega) (by omega)
    (fun t y hh ht Tt Wt => by
     have := aEu ht
     exact aBb G I (m + 4) t (d - 1) y hh (by omega) (aDj oks ht) Tt Wt (by omega)) ks.length 0 (m + 4) h3 .l0 [] (by omega) (by omega) (by omega) W3 (by rw [o3 _ (by omega)]; exact r4) r9 (GrZ.nil 4 _ _) (fun m e => by cases e) (by rw [List.take_zero]; unfold LVL; trivial)
   refine ⟨c, h', ?_, W', ⟨by omega, fun p hp1 hp2 => ?_⟩, LV.mv (Nat.le_refl _) (fun p hq hp => ⟨fun kd l e => ⟨kd, e⟩, by
    have hq : h1.next.toNat ≤ p.toNat := hq
    show h.next.toNat ≤ p.toNat
    omega⟩) _ _ L'⟩
   ·unfold s29 qJ sZ tO yS yI aAy aWu
    have b1 : bE [(.i .i64 (Int.ofNat 0)), (.s []), (.i .i64 (Int.ofNat 0)), .l0] [(0, 1, (.i .i64 (Int.ofNat 4)))] h1 = some (.a [iD 4, .s [], iD 0, .l0], h1) := rfl
    simp only [iD] at ev b1 e3 et e4 ⊢
    simp only [g0, g1, e0, aO, ev, zF, xN, hn, Option.isSome_none, bG, et, b1, e2, e3]
    exact e4
   ·rw [o' p hp1 (by omega) (fun e => by subst e; omega), o3 p (by omega), o1 p (fun e => by subst e; omega)]
end
end Go.Dd

namespace Go.Dd
open Go.Proofs
theorem LV.ks {q : Pos → Prop} {h : Hp} {k n : Int} {tx : List Nat} {ks : List Lt} {c : List DV} (H : LV q h (.mk k n tx ks) c) : ∃ s, c = [iD k, .s tx, iD n, s] ∧ KS q h ks s := by
 unfold LV at H
 exact H
section
variable {q1 q2 : Pos → Prop}
theorem aLh {M : Nat} {rec : FuncId → List DV → Hp → aH} {ks : List Lt} {k n k' n' : Int} {tx tx' : List Nat} {s s' : DV} {b b' : Pos} (hk : ks.length ≤ 1000)
  (ih : ∀ (t : Lt) (c c' : List DV) (h : Hp), t ∈ ks → LV q1 h t c → LV q2 h t c' → ∃ g, rec 28 [.a c, .a c'] h = some (.b true, g) ∧ Gw h g) :
  ∀ (m i : Nat) (h : Hp), ks.length < i + m → i ≤ ks.length → B4 h b k n tx s → B4 h b' k' n' tx' s' → KS q1 h ks s → KS q2 h ks s' → b.toNat < h.next.toNat → b'.toNat < h.next.toNat →
   ∃ g, sU rec M m (.p b 0) (.p b' 0) (iD (Int.ofNat i)) h = some (.b true, g) ∧ Gw h g
 | 0, i, h, hm, hi, B, B', K, K', hb, hb' => by omega
 | m + 1, i, h, hm, hi, B, B', K, K', hb, hb' => by
  have l3 := B.l3
  have l3' := B'.l3
  have hl := LV.len K h
  show ∃ g, aDw rec M (sU rec M m) (.p b 0) (.p b' 0) (iD (Int.ofNat i)) h = _ ∧ _
  unfold aDw
  simp only [iD] at hl ⊢
  simp only [fR, aO, l3, hl, cG]
  by_cases c : i < ks.length
  ·rw [show decide (Int.ofNat i < Int.ofNat ks.length) = true from decide_eq_true (Int.ofNat_lt.2 c)]
   obtain ⟨t, et⟩ : ∃ t, ks[i]? = some t := ⟨ks[i], by simp [c]⟩
   obtain ⟨cs, a, p1, p2, p3⟩ := dOk K et
   obtain ⟨cs', a', p1', p2', p3'⟩ := dOk K' et
   simp only [iD] at p1 p1'
   obtain ⟨g1, e1, u1⟩ := ih t cs cs' h (List.mem_of_getElem? et) p3 p3'
   obtain ⟨g, e2, u2⟩ := aLh (M := M) hk ih m (i + 1) g1 (by omega) (by omega) (B.gw u1 hb) (B'.gw u1 hb') (K.up u1) (K'.up u1) (Nat.lt_of_lt_of_le hb u1.next) (Nat.lt_of_lt_of_le hb' u1.next)
   refine ⟨g, ?_, u1.trans u2⟩
   simp only [iD] at e2
   simp only [bN, fR, aO, l3, l3', p1, p2, p1', p2', e1, iM, Bool.not_true, bG, fZ (Int.ofNat i) (Int.ofNat 1) g1 (by show _ ≤ (i : Int) + 1 ∧ (i : Int) + 1 ≤ _; omega)]
   exact e2
  ·rw [show decide (Int.ofNat i < Int.ofNat ks.length) = false from decide_eq_false (fun w => c (Int.ofNat_lt.1 w))]
   simp only [bG]
   exact ⟨h, rfl, Gw.refl h⟩
theorem aLm : ∀ (N : Nat) (t : Lt) (c c' : List DV) (h : Hp), t.sz ≤ 60 → LV q1 h t c → LV q2 h t c' → 100 + t.sz ≤ N → ∃ g, cA N 28 [.a c, .a c'] h = some (.b true, g) ∧ Gw h g
 | 0, t, c, c', h, h1, h2, h3, h4 => by omega
 | N + 1, .mk k n tx ks, c, c', h, hsz, H, H', hN => by
  have esz : (Lt.mk k n tx ks).sz = 1 + dNf ks := by unfold Lt.sz; rfl
  rw [esz] at hsz hN
  have hkl := jR ks
  rw [qH 28 rfl, cNv]
  obtain ⟨s, rfl, K⟩ := H.ks
  obtain ⟨s', rfl, K'⟩ := H'.ks
  obtain ⟨a1, a2⟩ := H.shape
  obtain ⟨b1, b2⟩ := H'.shape
  have e1 := (bEm a1 a2 h).1
  have u1 : Gw h ⟨h.next.succ, Tr.set (.row .ex [iD k, .s tx, iD n, s]) h.next h.bl⟩ := Gw.new h _
  have g1' : (⟨h.next.succ, Tr.set (.row .ex [iD k, .s tx, iD n, s]) h.next h.bl⟩ : Hp).bl.get h.next = some (.row .ex [iD k, .s tx, iD n, s]) := dNc _ _ _
  have n1 : (⟨h.next.succ, Tr.set (.row .ex [iD k, .s tx, iD n, s]) h.next h.bl⟩ : Hp).next = h.next.succ := rfl
  generalize (⟨h.next.succ, Tr.set (.row .ex [iD k, .s tx, iD n, s]) h.next h.bl⟩ : Hp) = h1 at e1 u1 g1' n1
  have e2 := (bEm b1 b2 h1).1
  have u2 : Gw h1 ⟨h1.next.succ, Tr.set (.row .ex [iD k, .s tx, iD n, s']) h1.next h1.bl⟩ := Gw.new h1 _
  have g2' : (⟨h1.next.succ, Tr.set (.row .ex [iD k, .s tx, iD n, s']) h1.next h1.bl⟩ : Hp).bl.get h1.next = some (.row .ex [iD k, .s tx, iD n, s']) := dNc _ _ _
  have n2 : (⟨h1.next.succ, Tr.set (.row .ex [iD k, .s tx, iD n, s']) h1.next h1.bl⟩ : Hp).next = h1.next.succ := rfl
  generalize (⟨h1.next.succ, Tr.set (.row .ex [iD k, .s tx, iD n, s']) h1.next h1.bl⟩ : Hp) = h2 at e2 u2 g2' n2
  have ns := dNd h.next
  have ns1 := dNd h1.next
  have hb : h.next.toNat < h1.next.toNat := by rw [n1]; omega
  have B : B4 h1 h.next k n tx s := ⟨⟨_, g1'⟩, K.one⟩
  have B2 : B4 h2 h.next k n tx s := B.gw u2 hb
  have B2' : B4 h2 h1.next k n tx s' := ⟨⟨_, g2'⟩, K'.one⟩
  have K2 := K.up (u1.trans u2)
  have K2' := K'.up (u1.trans u2)
  obtain ⟨g, e3, u3⟩ := aLh (M := N) (rec := cA N) (q1 := q1) (q2 := q2) (by omega) (fun t c c' h ht a b => by
   have := aEu ht
   exact aLm N t c c' h (by omega) a b (by omega)) N 0 h2 (by omega) (by omega) B2 B2' K2 K2' (by rw [n2]; omega) (by rw [n2]; omega)
  refine ⟨g, ?_, (u1.trans u2).trans u3⟩
  have l0 := B2.l0; have l1 := B2.l1; have l2 := B2.l2; have l3 := B2.l3
  have k0 := B2'.l0; have k1 := B2'.l1; have k2 := B2'.l2; have k3 := B2'.l3
  have hl := LV.len K2 h2
  have hl' := LV.len K2' h2
  have nek : (k != k) = false := by simp
  have nen : (n != n) = false := by simp
  have net : (!uI tx tx) = false := by rw [(lZ tx tx).2 rfl]; rfl
  have nel : ((Int.ofNat ks.length) != (Int.ofNat ks.length)) = false := by simp
  unfold s28 aBc aZg aZw
  simp only [iD] at l0 l1 l2 l3 k0 k1 k2 k3 hl hl' e1 e2 e3 ⊢
  simp only [g0, g1, e1, e2, aO, fR, l0, l1, l2, l3, k0, k1, k2, k3, eN, nek, gI, dAu, net, bK, nen, hl, hl', nel, bG]
  exact e3
end
end Go.Dd

namespace Go.Dd
open Go.Proofs
noncomputable def MZ : MemV := ⟨aL 1, 60000, 4321, 583, aL 2, bLh [] (mkW (wO wsF 4321) 0 .e), mkP (wO plF 583) .e⟩
theorem WZ : Wd hNZ MZ RN esN where
 w := by kernel_rfl
 r := by kernel_rfl
 rl := by kernel_rfl
 sy := by kernel_rfl
 mem := by kernel_rfl
 nx := by
  have : hNZ.next.toNat = 27878 := by kernel_rfl
  omega
 wb := rfl
 pb := rfl
theorem GZ : Good MZ := cCt (l := wO plF 583) rfl (by kernel_rfl) (by show 60000 ≤ 131072; omega) (by show 4321 ≤ 60000; omega) (by show 3 ≤ 4321; omega) (by show 583 < 900000; omega)
theorem cHa : giB MZ RN CL0 (wO plF 583) (aWb syF 80) = true := by kernel_rfl
theorem GIZ : GI MZ RN CL0 := cWl rfl (fun x hx => by have := jU cZb x hx; simpa [gK] using this) cHa
theorem bZr : cXb (bJy MZ (RN.getD 13 0)) (aWb syF 80) = true := by kernel_rfl
theorem RZb : aKb (fun i => !(Nat.beq (bV (RN.getD (2 + i) 0) MZ.pl) 0)) [0, 1, 2, 3, 4, 5, 6, 7, 8, 9, 10, 11, 12, 13, 14, 15] = true := by kernel_rfl
theorem dGh (i : Nat) (hi : i < 16) : bV (RN.getD (2 + i) 0) MZ.pl ≠ 0 := fun e => by
 have := jU RZb i (by simp only [List.mem_cons, List.not_mem_nil, or_false]; omega)
 rw [e] at this
 cases this
theorem KZ : Wk hNZ MZ RN esN := ⟨WZ, GZ, fun e he => by
 obtain ⟨x, h1, h2⟩ := aJz _ e he
 exact ⟨x.1, .ofNat x.2, h2, aTx (aLn bZr x h1)⟩, by kernel_rfl, dGh⟩
theorem aBm (T T' : Tr Ob) : ∀ (l : List (Pos × Ob)) (b : Pos), (∃ e ∈ l, e.1 = b) → (eT l T).get b = (eT l T').get b
 | [], b, h => by obtain ⟨e, he, _⟩ := h; cases he
 | x :: l, b, h => by
  show (Tr.set x.2 x.1 (eT l T)).get b = (Tr.set x.2 x.1 (eT l T')).get b
  by_cases e : b = x.1
  ·subst e
   rw [dNc, dNc]
  ·rw [dNb _ _ _ _ e, dNb _ _ _ _ e]
   obtain ⟨y, hy, hb⟩ := h
   simp only [List.mem_cons] at hy
   rcases hy with rfl | hy
   ·exact absurd hb.symm e
   ·exact aBm T T' l b ⟨y, hy, hb⟩
theorem aMh (T : Tr Ob) : ∀ (l : List (Pos × Ob)) (b : Pos), (∀ e ∈ l, e.1 ≠ b) → (eT l T).get b = T.get b
 | [], b, h => rfl
 | x :: l, b, h => by
  show (Tr.set x.2 x.1 (eT l T)).get b = _
  rw [dNb _ _ _ _ (fun e => h x (by simp) e.symm)]
  exact aMh T l b fun e he => h e (by simp [he])
noncomputable def hZo (h : Hp) : Hp := ⟨aL 26855, eT HLZ h.bl⟩
theorem dDj : hNZ.bl = eT HLZ .e := by kernel_rfl
theorem aKf : HLZ.map (·.1) = [aL 7, aL 6, aL 5, aL 4, aL 3, aL 2, aL 1, aL 431] := by kernel_rfl
theorem sH (h : Hp) (i : Nat) (hi : i = 1 ∨ i = 2 ∨ i = 3 ∨ i = 4 ∨ i = 5 ∨ i = 6 ∨ i = 7) : (hZo h).bl.get (aL i) = hNZ.bl.get (aL i) := by
 rw [dDj]
 show (eT HLZ h.bl).get (aL i) = _
 refine aBm h.bl .e HLZ (aL i) ?_
 have : aL i ∈ HLZ.map (·.1) := by
  rw [aKf]
  rcases hi with rfl | rfl | rfl | rfl | rfl | rfl | rfl <;> simp
 obtain ⟨e, he, h2⟩ := List.mem_map.1 this
 exact ⟨e, he, h2⟩
theorem dEp : (aL 431).toNat = 1454 := by kernel_rfl
theorem cVx (h : Hp) (b : Pos) (hb : b.toNat < 1024) : (hZo h).bl.get b = h.bl.get b := by
 show (eT HLZ h.bl).get b = _
 refine aMh h.bl HLZ b fun e he q => ?_
 have : e.1 ∈ HLZ.map (·.1) := List.mem_map.2 ⟨e, he, rfl⟩
 rw [aKf, q] at this
 simp only [List.mem_cons, List.not_mem_nil, or_false] at this
 rcases this with e | e | e | e | e | e | e | e <;> subst e
 ·rw [pn7] at hb; omega
 ·rw [pn6] at hb; omega
 ·rw [pn5] at hb; omega
 ·rw [pn4] at hb; omega
 ·rw [pn3] at hb; omega
 ·rw [pn2] at hb; omega
 ·rw [pn1] at hb; omega
 ·rw [dEp] at hb; omega
theorem WZo (h : Hp) : Wd (hZo h) MZ RN esN := by
 have W := WZ
 obtain ⟨m1, m2, m3, m4, m5, m6⟩ := iA W.mem
 refine ⟨by rw [sH h 7 (by simp)]; exact W.w, by rw [sH h 4 (by simp)]; exact W.r, W.rl, by rw [sH h 5 (by simp)]; exact W.sy, ?_, W.nx, W.wb, W.pb⟩
 refine jS (by rw [sH h 3 (by simp)]; exact m1) ?_ ?_ m4 m5 m6
 ·rw [W.wb] at m2 ⊢
  rw [sH h 1 (by simp)]; exact m2
 ·rw [W.pb] at m3 ⊢
  rw [sH h 2 (by simp)]; exact m3
theorem WlZ (h : Hp) : Wl 20000 (hZo h) MZ RN esN where
 K := ⟨WZo h, GZ, KZ.sy, KZ.r0, KZ.rk⟩
 I := GIZ
 n := rfl
 fin := by show 4321 + 20000 ≤ 60000; omega
 md := by show 583 + 20000 ≤ 700000; omega
theorem bZm (h : Hp) (hn : mV h.next (aL 1) = true) : aHy 7 [.i .i64 (.ofNat 60000)] h = some (.t [.p (aL 7) 0, iD 0], hZo h) := by
 have e1 : Nat.beq 7 25 = false := rfl
 have e2 : Nat.beq 7 7 = true := rfl
 have e3 : aKs [.i .i64 (.ofNat 60000)] = true := rfl
 unfold aHy tM aWa wY hZo
 rw [e1, cond_false, e2, cond_true, e3, hn, Bool.and_self, cond_true]
 rfl
theorem cFg {g : FuncId} (h1 : Nat.beq g 25 = false) (h2 : Nat.beq g 7 = false) (args : List DV) (h : Hp) : aHy g args h = cA 900 g args h := by
 unfold aHy
 rw [h1, cond_false, aMz, h2, cond_false]
def InOk (h : Hp) : Prop := ∀ p : Pos, p.toNat < 1024 → ∀ kd l, h.bl.get p = some (.row kd l) → (kd = .ro ∨ kd = .ex) ∧ ∀ v ∈ l, v.one = true ∧ gV 1024 v = true
theorem InOk.up {h h' : Hp} (O : InOk h) (u : Up h h') (hn : 1024 ≤ h.next.toNat) : InOk h' := fun p hp kd l e => by
 rw [u.get p (.inl hp) (by omega)] at e
 exact O p hp kd l e
theorem InOk.ro {h : Hp} (O : InOk h) {p : Pos} (hp : p.toNat < 1024) {kd : Kind} {l : List DV} (e : h.bl.get p = some (.row kd l)) : (h.bl.get p).bind dM = some (.row .ro l) := by
 obtain ⟨h1, h2⟩ := O p hp kd l e
 have hc : l.all DV.one = true := List.all_eq_true.2 fun v hv => (h2 v hv).1
 rw [e]
 rcases h1 with rfl | rfl
 ·show (if l.all DV.one = true then some (Ob.row .ro l) else none) = _
  rw [if_pos hc]
 ·show (if l.all DV.one = true then some (Ob.row .ro l) else none) = _
  rw [if_pos hc]
theorem aIp (f : Pos → Option Ob) : ∀ (vs : List (Pos × Option Ob)) (p : Pos), (∀ x ∈ vs, 1024 ≤ x.1.toNat) → p.toNat < 1024 → (skV f vs).get p = f p
 | [], p, h, hp => by
  show (aNg 10 f).get p = _
  rw [pQ, if_pos (by simpa using hp)]
 | x :: vs, p, h, hp => by
  show (Tr.setO x.2 x.1 (skV f vs)).get p = _
  rw [jD, if_neg (fun e => by have := h x (by simp); rw [← e] at this; omega)]
  exact aIp f vs p (fun y hy => h y (by simp [hy])) hp
theorem aLv (f : Pos → Option Ob) (x : Pos × Option Ob) (vs : List (Pos × Option Ob)) : skV f (x :: vs) = Tr.setO x.2 x.1 (skV f vs) := rfl
theorem iX : (aL 26855).toNat = 27878 := by kernel_rfl
theorem mA : (aL 26856).toNat = 27879 := by kernel_rfl
theorem aXu : (aL 26857).toNat = 27880 := by kernel_rfl
theorem uO : (aL 26858).toNat = 27881 := by kernel_rfl
theorem vL : (aL 26859).toNat = 27882 := by kernel_rfl
theorem aFe : (aL 26860).toNat = 27883 := by kernel_rfl
theorem aUd : (aL 26861).toNat = 27884 := by kernel_rfl
theorem cIi : (aL 26855).succ = aL 26856 := by kernel_rfl
theorem bVp : (aL 26856).succ = aL 26857 := by kernel_rfl
theorem cTx : (aL 26857).succ = aL 26858 := by kernel_rfl
theorem dIs : (aL 26858).succ = aL 26859 := by kernel_rfl
def Lp (b : Pos) (p : Pos) : Prop := p.toNat < 1024 ∨ p = b
theorem bCf {h : Hp} {k n : Int} {tx : List Nat} {ks : List Lt} {s : DV} (hn : h.next = aL 26859) (O : InOk h) (K : KS Lw h ks s) (hsz : (Lt.mk k n tx ks).sz ≤ 60)
  (h1 : h.bl.get (aL 26856) = some (.row .ex [iD k, .s tx, iD n, s])) (h2 : h.bl.get (aL 26857) = some (.row .ex kN)) :
  p63.f2 [.a (gE (aL 26856) (aL 26857)), iD 0] h = some (iD (if (Lt.mk k n tx ks).ok 20 then 0 else 19), h) := by
 obtain ⟨hv, ehv⟩ : ∃ hv : Hp, roify (HB (fun p => (h.bl.get p).bind dM) k n tx s ((h.bl.get (aL 26855)).bind dM) ((h.bl.get (aL 26858)).bind dM)) = hv := ⟨_, rfl⟩
 have low : ∀ p : Pos, p.toNat < 1024 → hv.bl.get p = ((h.bl.get p).bind dM).bind dM := fun p hp => by
  rw [← ehv, sT]
  congr 1
  unfold HB HA
  dsimp only
  rw [dNb _ _ _ _ (fun e => by rw [e, aFe] at hp; omega), dNb _ _ _ _ (fun e => by rw [e, vL] at hp; omega)]
  unfold KA
  refine aIp _ _ p (fun x hx => ?_) hp
  simp only [List.mem_cons, List.not_mem_nil, or_false] at hx
  rcases hx with rfl | rfl | rfl | rfl
  ·show 1024 ≤ (aL 26855).toNat; rw [iX]; omega
  ·show 1024 ≤ (aL 26856).toNat; rw [mA]; omega
  ·show 1024 ≤ (aL 26857).toNat; rw [aXu]; omega
  ·show 1024 ≤ (aL 26858).toNat; rw [uO]; omega
 have nx : hv.next = aL 26861 := by rw [← ehv]; rfl
 have rr : ∀ l : List DV, (∀ v ∈ l, v.one = true) → dM (.row .ro l) = some (.row .ro l) := fun l hl => by
  show (if l.all DV.one = true then some (Ob.row .ro l) else none) = _
  rw [if_pos (List.all_eq_true.2 hl)]
 have mv : ∀ p : Pos, Lw p → p.toNat < h.next.toNat → (∀ kd l, h.bl.get p = some (.row kd l) → ∃ kd', hv.bl.get p = some (.row kd' l)) ∧ Lp (aL 26856) p := fun p hp _ => ⟨fun kd l e => ⟨.ro, by
  rw [low p hp, O.ro hp e]
  exact rr l fun v hv => ((O p hp kd l e).2 v hv).1⟩, .inl hp⟩
 have H : LV Lw h (.mk k n tx ks) [iD k, .s tx, iD n, s] := by
  unfold LV
  exact ⟨s, rfl, K⟩
 have H' := LV.mv (h' := hv) (by rw [nx, hn, aUd, vL]; omega) mv _ _ H
 have hb : ∃ kd, hv.bl.get (aL 26856) = some (.row kd [iD k, .s tx, iD n, s]) := by
  refine ⟨.ro, ?_⟩
  rw [← ehv, sT]
  have : (HB (fun p => (h.bl.get p).bind dM) k n tx s ((h.bl.get (aL 26855)).bind dM) ((h.bl.get (aL 26858)).bind dM)).bl.get (aL 26856) = some (.row .ro [iD k, .s tx, iD n, s]) := by
   unfold HB HA
   dsimp only
   rw [dNb _ _ _ _ (fun e => by have := congrArg Pos.toNat e; rw [mA, aFe] at this; omega), dNb _ _ _ _ (fun e => by have := congrArg Pos.toNat e; rw [mA, vL] at this; omega)]
   unfold KA
   rw [aLv, aLv]
   dsimp only
   rw [jD, if_neg (fun e => by have := congrArg Pos.toNat e; rw [mA, iX] at this; omega), jD, if_pos rfl]
  rw [this]
  exact rr _ H.shape.2
 obtain ⟨g, e, _⟩ := bXm (N := 896) (b := aL 26856) H' (.inr rfl) hb (by rw [nx, aUd, mA]; omega) (by omega) (by omega)
 rw [← ehv] at e
 have := cEw k n tx s hn h1 K.one h2 e
 rw [this]
 cases (Lt.mk k n tx ks).ok 20 <;> rfl
end Go.Dd

namespace Go.Dd
open Go.Proofs
theorem bCl {a b : Nat} (hab : a ≤ b) {v : DV} (h : gV a v = true) : gV b v = true := by
 have key : ∀ x : Nat, Nat.blt x a = true → Nat.blt x b = true := fun x hx => by
  rw [Nat.blt_eq] at hx ⊢
  omega
 cases v <;> first | rfl | exact key _ h | exact h
theorem aXr {p : Pos} {h : Hp} (O : InOk h) (hp : 1024 ≤ p.toNat) {b : Pos} (hb : b.toNat < 1024) {kd : Kind} {l : List DV} (e : h.bl.get b = some (.row kd l)) : (cut p h).bl.get b = some (.row kd l) :=
 uX e (by omega) fun v hv => bCl hp ((O b hb kd l e).2 v hv).2
theorem aMe {p : Pos} {h : Hp} (O : InOk h) : InOk (cut p h) := fun b hb kd l e => by
 obtain ⟨_, o, e1, e2⟩ := nX e
 obtain ⟨rfl, _⟩ := xQ e2
 exact O b hb kd l e1
theorem cPy {h : Hp} {M : MemV} {R : List Int} {es : List (DV × DV)} (W : Wd h M R es) (sy : dAq M R es) {p : Pos} (hp : 2000 ≤ p.toNat) : Wd (cut p h) M R es := by
 have bl : ∀ x : Nat, x < p.toNat → Nat.blt x p.toNat = true := fun x hx => by rw [Nat.blt_eq]; exact hx
 obtain ⟨m1, m2, m3, m4, m5, m6⟩ := iA W.mem
 have get : ∀ (b : Pos) o, h.bl.get b = some o → (cut p h).bl.get b = jG p.toNat b o := fun b o e => by
  show (h.bl.mapP (jG p.toNat)).get b = _
  rw [dNv, e]
  rfl
 refine ⟨uX W.w (by rw [pn7]; omega) (fun v hv => ?_), uX W.r (by rw [pn4]; omega) (fun v hv => ?_), W.rl, ?_, jS (uX m1 (by rw [pn3]; omega) fun v hv => ?_) ?_ ?_ m4 m5 m6, by show 1031 ≤ p.toNat; omega, W.wb, W.pb⟩
 ·simp only [List.mem_cons, List.not_mem_nil, or_false] at hv
  rcases hv with rfl | rfl | rfl | rfl
  ·exact bl _ (by rw [pn3]; omega)
  ·exact bl _ (by rw [pn4]; omega)
  ·exact bl _ (by rw [pn5]; omega)
  ·exact bl _ (by rw [pn6]; omega)
 ·obtain ⟨x, _, rfl⟩ := List.mem_map.1 hv
  rfl
 ·rw [get _ _ W.sy]
  unfold jG
  rw [bl _ (by rw [pn5]; omega), cond_true]
  show some (Ob.mp (es.map fun e => (clV p.toNat e.1, clV p.toNat e.2))) = _
  congr 2
  rw [List.map_congr_left (g := id) (fun e he => by
   obtain ⟨s, x, rfl, _⟩ := sy e he
   rfl), List.map_id]
 ·simp only [List.mem_cons, List.not_mem_nil, or_false] at hv
  rcases hv with rfl | rfl | rfl | rfl
  ·exact bl _ (by rw [W.wb, pn1]; omega)
  ·rfl
  ·rfl
  ·exact bl _ (by rw [W.pb, pn2]; omega)
 ·rw [get _ _ m2]
  unfold jG
  rw [bl _ (by rw [W.wb, pn1]; omega), cond_true]
 ·rw [get _ _ m3]
  unfold jG
  rw [bl _ (by rw [W.pb, pn2]; omega), cond_true]
abbrev zq4 : List DV := [(.i .i64 (Int.ofNat 0)), (.s []), (.i .i64 (Int.ofNat 0)), .l0]
abbrev zq6 : List DV := [(.i .i64 (Int.ofNat 0)), (.i .i64 (Int.ofNat 0)), (.i .i64 (Int.ofNat 0)), (.i .i64 (Int.ofNat 0)), (.i .i64 (Int.ofNat 0)), (.i .i64 (Int.ofNat 0))]
abbrev zqp : List DV := [(.s []), (.i .i64 (Int.ofNat 0)), (.i .i64 (Int.ofNat 0)), (.i .i64 (Int.ofNat 0)), .l0, .l0]
theorem tJ {k n : Int} {tx : List Nat} {s : DV} (so : s.one = true) (h : Hp) : ∃ hb hc hd he,
  aN zq4 1 [(0, 4, .a [iD k, .s tx, iD n, s])] h = some (.l h.next 0 1 1, hb) ∧
  aN zq6 2 [(0, 3, .a [iD 2, iD 0, iD 0]), (3, 3, .a [iD 20, iD 0, iD 0])] hb = some (.l h.next.succ 0 2 2, hc) ∧
  bY zqp hc = some (.p h.next.succ.succ 0, hd) ∧ aI 6 (.p h.next.succ.succ 0) (.a (gE h.next h.next.succ)) hd = some (aU, he) ∧ aK 6 (.p h.next.succ.succ 0) he = some (.a (gE h.next h.next.succ), he) ∧
  he.next = h.next.succ.succ.succ ∧ he.bl.get h.next = some (.row .ex [iD k, .s tx, iD n, s]) ∧ he.bl.get h.next.succ = some (.row .ex kN) ∧ Gw h he := by
 have n1 := dNd h.next
 have n2 := dNd h.next.succ
 have n3 := dNd h.next.succ.succ
 refine ⟨⟨h.next.succ, Tr.set (.row .ex [iD k, .s tx, iD n, s]) h.next h.bl⟩, ⟨h.next.succ.succ, Tr.set (.row .ex kN) h.next.succ (Tr.set (.row .ex [iD k, .s tx, iD n, s]) h.next h.bl)⟩,
  ⟨h.next.succ.succ.succ, Tr.set (.row .ex zqp) h.next.succ.succ (Tr.set (.row .ex kN) h.next.succ (Tr.set (.row .ex [iD k, .s tx, iD n, s]) h.next h.bl))⟩,
  ⟨h.next.succ.succ.succ, Tr.set (.row .ex (gE h.next h.next.succ)) h.next.succ.succ (Tr.set (.row .ex zqp) h.next.succ.succ (Tr.set (.row .ex kN) h.next.succ (Tr.set (.row .ex [iD k, .s tx, iD n, s]) h.next h.bl)))⟩, rfl, rfl, rfl, ?_, ?_, rfl, ?_, ?_, ?_⟩
 ·simp only [aI, dC, gE, List.length_cons, List.length_nil, if_true, cU, dNc, Kind.writable, fL, jW, DV.one, Bool.and_self, Option.map_some]
 ·simp only [aK, cellsAt, rowOf, dNc, List.drop_zero, gE, gR, DV.one, if_true, Option.map_some]
 ·show (Tr.set _ _ (Tr.set _ _ (Tr.set _ _ (Tr.set _ _ h.bl)))).get h.next = _
  rw [dNb _ _ _ _ (fun e => by have := congrArg Pos.toNat e; omega), dNb _ _ _ _ (fun e => by have := congrArg Pos.toNat e; omega), dNb _ _ _ _ (fun e => by have := congrArg Pos.toNat e; omega), dNc]
 ·show (Tr.set _ _ (Tr.set _ _ (Tr.set _ _ (Tr.set _ _ h.bl)))).get h.next.succ = _
  rw [dNb _ _ _ _ (fun e => by have := congrArg Pos.toNat e; omega), dNb _ _ _ _ (fun e => by have := congrArg Pos.toNat e; omega), dNc]
 ·refine ⟨by show _ ≤ h.next.succ.succ.succ.toNat; omega, fun b hb => ?_⟩
  show (Tr.set _ _ (Tr.set _ _ (Tr.set _ _ (Tr.set _ _ h.bl)))).get b = _
  rw [dNb _ _ _ _ (fun e => by subst e; omega), dNb _ _ _ _ (fun e => by subst e; omega), dNb _ _ _ _ (fun e => by subst e; omega), dNb _ _ _ _ (fun e => by subst e; omega)]
theorem Gw.upw {h h' : Hp} (u : Gw h h') : Up h h' := ⟨u.next, fun b _ hb => u.get b hb⟩
theorem dEj {h : Hp} {k n : Int} {tx : List Nat} {ks : List Lt} {s : DV} {M : MemV} {R : List Int} {es : List (DV × DV)} (hn : h.next = aL 26855) (O : InOk h) (K : KS Lw h ks s) (hsz : (Lt.mk k n tx ks).sz ≤ 60) (hby : (Lt.mk k n tx ks).byt)
  (V : Wl 20000 h M R es) : ∃ v e h3, p26.f2 [.p (aL 7) 0, .a [iD k, .s tx, iD n, s]] h = some (.t [iD v, iD e], h3) ∧ h3.next = aL 26855 ∧ InOk h3 ∧ (∀ b : Pos, b.toNat < 1024 → ∀ kd l, h.bl.get b = some (.row kd l) → h3.bl.get b = some (.row kd l)) ∧
   (((Lt.mk k n tx ks).ok 20 = true ∧ e = 0 ∧ ∃ M' R' es', Wl 0 h3 M' R' es' ∧ Ml M' R' (.mk k n tx ks) v) ∨ ((Lt.mk k n tx ks).ok 20 = false ∧ e = 1 ∧ v = 0)) := by
 have so := K.one
 have H : LV Lw h (.mk k n tx ks) [iD k, .s tx, iD n, s] := by
  unfold LV
  exact ⟨s, rfl, K⟩
 have n1024 : 1024 ≤ h.next.toNat := by rw [hn, iX]; omega
 obtain ⟨h1, eh1⟩ : ∃ h1 : Hp, (⟨h.next.succ, Tr.set (.row .ex [iD k, .s tx, iD n, s]) h.next h.bl⟩ : Hp) = h1 := ⟨_, rfl⟩
 obtain ⟨x1, x2⟩ := bEm H.shape.1 H.shape.2 h
 have u1 : Gw h h1 := by rw [← eh1]; exact Gw.new h _
 have r1 : h1.bl.get h.next = some (.row .ex [iD k, .s tx, iD n, s]) := by rw [← eh1]; exact dNc _ _ _
 rw [eh1] at x1 x2
 have nx1 : h1.next = aL 26856 := by rw [← eh1]; show h.next.succ = _; rw [hn, cIi]
 obtain ⟨hb, hc, hd, he, p1, p2, p3, p4, p5, p6, p7, p8, p9⟩ := tJ (k := k) (n := n) (tx := tx) so h1
 rw [nx1, bVp] at p2 p8
 rw [nx1, bVp, cTx] at p3 p4 p5
 rw [nx1, bVp, cTx, dIs] at p6
 rw [nx1] at p1 p7
 have U : Gw h he := u1.trans p9
 have Oe : InOk he := O.up U.upw n1024
 have Ke : KS Lw he ks s := K.upw U.upw
 have ck : p63.f2 [.a (gE (aL 26856) (aL 26857)), .i .i64 (Int.ofNat 0)] he = some (iD (if (Lt.mk k n tx ks).ok 20 then 0 else 19), he) := bCf p6 Oe Ke hsz p7 p8
 have re : he.bl.get h.next = some (.row .ex [iD k, .s tx, iD n, s]) := by rw [p9.get _ (by rw [nx1, hn, iX, mA]; omega)]; exact r1
 have le : aK 4 (.p h.next 0) he = some (.a [iD k, .s tx, iD n, s], he) := la4 re rfl rfl rfl so
 have r63 : (prB.ovr 63 p63 rfl rfl).r2 63 = p63.f2 := rfl
 have r64 : (prB.ovr 63 p63 rfl rfl).r2 64 = cA 900 64 := rfl
 have b4 : bE [(.i .i64 (Int.ofNat 0)), (.i .i64 (Int.ofNat 0)), (.i .i64 (Int.ofNat 0))] [(0, 1, (.i .i64 (Int.ofNat 2)))] hb = some (.a [iD 2, iD 0, iD 0], hb) := rfl
 have b5 : bE [(.i .i64 (Int.ofNat 0)), (.i .i64 (Int.ofNat 0)), (.i .i64 (Int.ofNat 0))] [(0, 1, (.i .i64 (Int.ofNat 20)))] hb = some (.a [iD 20, iD 0, iD 0], hb) := rfl
 have b7 : bE zqp [(0, 1, (.s [120])), (4, 1, .l (aL 26856) 0 1 1), (5, 1, .l (aL 26857) 0 2 2)] hc = some (.a (gE (aL 26856) (aL 26857)), hc) := rfl
 have body : ∀ r, aF CF (prB.ovr 63 p63 rfl rfl).r2 900 26 [.p (aL 7) 0, .a [iD k, .s tx, iD n, s]] h = r ↔ aX (.b ((if (Lt.mk k n tx ks).ok 20 then (0 : Int) else 19) != 0)) (
   some (.t [(.i .i64 (Int.ofNat 0)), (.i .i64 (Int.ofNat 1))], he)) (
   bnd (cA 900 64 [.p (aL 7) 0, .a [iD k, .s tx, iD n, s]] he) fun v14 h14 =>
   bnd (aC 0 v14 h14) fun v15 h15 =>
   bnd (aC 1 v14 h15) fun v16 h16 =>
   some (.t [v15, v16], h16)) = r := fun r => by
  rw [cMp]
  show s26 _ 900 (.p (aL 7) 0) (.a [iD k, .s tx, iD n, s]) h = r ↔ _
  unfold s26
  simp only [iD] at x1 x2 p1 p2 p4 p5 le ck b4 b5 b7 ⊢
  simp only [x1, aO, x2, p1, b4, b5, p2, b7, p3, p4, p5, r63, ck, eN, le, r64]
  exact Iff.rfl
 have body' := (body _).2 rfl
 cases hok : (Lt.mk k n tx ks).ok 20 with
 | false =>
  rw [hok] at body'
  have body2 : aF CF (prB.ovr 63 p63 rfl rfl).r2 900 26 [.p (aL 7) 0, .a [iD k, .s tx, iD n, s]] h = some (.t [iD 0, iD 1], he) := body'
  refine ⟨0, 1, cut h.next he, xZ body2 rfl, hn, aMe Oe, fun b hb kd l e => aXr Oe n1024 hb (by rw [U.get b (by omega)]; exact e), .inr ⟨rfl, rfl, rfl⟩⟩
 | true =>
  rw [hok] at body'
  have Ve : Wl (260 * (Lt.mk k n tx ks).sz + 0) he M R es := (V.less (by omega)).lo (lo := h.next.toNat) (by rw [hn, iX]; omega) ⟨U.next, fun b hb => U.get b hb⟩
  obtain ⟨v, h', M', R', es', e1, V', U', S', L'⟩ := bAt 900 (.mk k n tx ks) 20 _ he M R es 0 hsz hby hok (H.upw U.upw) Ve (by omega)
  have body2 : aF CF (prB.ovr 63 p63 rfl rfl).r2 900 26 [.p (aL 7) 0, .a [iD k, .s tx, iD n, s]] h = some (.t [iD v, iD 0], h') := by
   rw [body', e1]
   rfl
  have O' : InOk h' := Oe.up U' (Nat.le_trans n1024 U.next)
  refine ⟨v, 0, cut h.next h', xZ body2 rfl, hn, aMe O', fun b hb kd l e => aXr O' n1024 hb (by rw [U'.get b (.inl hb) (by have := U.next; omega), U.get b (by omega)]; exact e), .inl ⟨rfl, rfl, M', R', es', V'.up (cPy V'.K.W V'.K.sy (by rw [hn, iX]; omega)), L'⟩⟩
end Go.Dd

namespace Go.Dd
open Go.Proofs
theorem aNb {h : Hp} {k n : Int} {tx : List Nat} {ks : List Lt} {s : DV} (hn : h.next = aL 26858) (O : InOk h) (K : KS Lw h ks s) (hsz : (Lt.mk k n tx ks).sz ≤ 60)
  (h1 : h.bl.get (aL 26855) = some (.row .ex [iD k, .s tx, iD n, s])) (h2 : h.bl.get (aL 26856) = some (.row .ex kN)) :
  ∃ x, p27.f2 [.a (gE (aL 26855) (aL 26856)), iD 0] h = some (.t [x, iD (if (Lt.mk k n tx ks).ok 20 then 0 else 19)], h) := by
 obtain ⟨hv, ehv⟩ : ∃ hv : Hp, roify (zX (fun p => (h.bl.get p).bind dM) k n tx s ((h.bl.get (aL 26857)).bind dM) ((h.bl.get (aL 26858)).bind dM)) = hv := ⟨_, rfl⟩
 have hs : Sl0 s := by
  rcases K with ⟨_, rfl⟩ | ⟨b, row, cap, rfl, _⟩
  ·exact .inl rfl
  ·exact .inr ⟨b, _, cap, rfl⟩
 have rr : ∀ l : List DV, (∀ v ∈ l, v.one = true) → dM (.row .ro l) = some (.row .ro l) := fun l hl => by
  show (if l.all DV.one = true then some (Ob.row .ro l) else none) = _
  rw [if_pos (List.all_eq_true.2 hl)]
 have low : ∀ p : Pos, p.toNat < 1024 → hv.bl.get p = (((h.bl.get p).bind dM).bind dM).bind dM := fun p hp => by
  rw [← ehv, sT]
  congr 1
  unfold zX
  dsimp only
  rw [dNb _ _ _ _ (fun e => by rw [e, vL] at hp; omega), sT]
  congr 1
  unfold aAd
  dsimp only
  rw [dNb _ _ _ _ (fun e => by rw [e, uO] at hp; omega)]
  unfold KC
  refine aIp _ _ p (fun x hx => ?_) hp
  simp only [List.mem_cons, List.not_mem_nil, or_false] at hx
  rcases hx with rfl | rfl | rfl | rfl
  ·show 1024 ≤ (aL 26855).toNat; rw [iX]; omega
  ·show 1024 ≤ (aL 26856).toNat; rw [mA]; omega
  ·show 1024 ≤ (aL 26857).toNat; rw [aXu]; omega
  ·show 1024 ≤ (aL 26858).toNat; rw [uO]; omega
 have nx : hv.next = aL 26860 := by rw [← ehv]; rfl
 have mv : ∀ p : Pos, Lw p → p.toNat < h.next.toNat → (∀ kd l, h.bl.get p = some (.row kd l) → ∃ kd', hv.bl.get p = some (.row kd' l)) ∧ Lw p := fun p hp _ => ⟨fun kd l e => ⟨.ro, by
  have := rr l fun v hv => ((O p hp kd l e).2 v hv).1
  rw [low p hp, O.ro hp e]
  show (dM (.row .ro l)).bind dM = _
  rw [this]
  exact this⟩, hp⟩
 have H : LV Lw h (.mk k n tx ks) [iD k, .s tx, iD n, s] := by
  unfold LV
  exact ⟨s, rfl, K⟩
 have H' := LV.mv (h' := hv) (by rw [nx, hn, aFe, uO]; omega) mv _ _ H
 obtain ⟨g, e, _⟩ := cOs 900 (.mk k n tx ks) 20 _ hv (by omega) H' (by omega) (by omega)
 rw [← ehv] at e
 obtain ⟨x, e2⟩ := cAu k n tx s hn hs h1 h2 e
 refine ⟨x, ?_⟩
 rw [e2]
 cases (Lt.mk k n tx ks).ok (Int.ofNat 20) <;> rfl
theorem LV.beq {q : Pos → Prop} {h : Hp} {t : Lt} {ds : List DV} (H : LV q h t ds) : DV.beq (.a ds) (.a ds) = true := by
 obtain ⟨k, n, tx, ks⟩ := t
 unfold LV at H
 obtain ⟨s, rfl, ⟨_, rfl⟩ | ⟨b, row, cap, rfl, _⟩⟩ := H
 ·simp [DV.beq, dNw, aXx]
 ·simp [DV.beq, dNw, aXx]
theorem sE : (kK 24 1023).toNat = 1023 := by kernel_rfl
theorem cXf : (kK 24 1023).succ = aL 1 := by kernel_rfl
theorem eqB (a b : Bool) (h : Hp) : pEq .bool false (.b a) (.b b) h = some (.b (a != b), h) := by cases a <;> cases b <;> rfl
theorem PN.mv {q q' : Pos → Prop} {h h' : Hp} (hn : h.next.toNat ≤ h'.next.toNat) (hk : ∀ p, q p → p.toNat < h.next.toNat → (∀ kd l, h.bl.get p = some (.row kd l) → ∃ kd', h'.bl.get p = some (.row kd' l)) ∧ q' p) {most : Nat} {ds : List DV} (H : PN q h most ds) : PN q' h' most ds := by
 have qn : ∀ {b row}, Qn q h b row → Qn q' h' b row := fun {b row} ⟨⟨kd, e⟩, e2, e3⟩ => by
  obtain ⟨m1, m2⟩ := hk b e2 e3
  exact ⟨m1 kd row e, m2, Nat.lt_of_lt_of_le e3 hn⟩
 induction H with
 | full most len cap k n tx b row ts a b' c d => exact .full most len cap k n tx b row ts (qn a) (LVL.mv hn hk _ _ b') c d
 | deep most len cap k n tx b row ts c a b' c' d e f ih => exact .deep most len cap k n tx b row ts c (qn a) (LVL.mv hn hk _ _ b') c' d e ih
theorem bPd {h : Hp} (O : InOk h) : ∀ p : Pos, Lw p → p.toNat < h.next.toNat → (∀ kd l, h.bl.get p = some (.row kd l) → ∃ kd', (roify h).bl.get p = some (.row kd' l)) ∧ Lw p :=
 fun p hp _ => ⟨fun kd l e => ⟨.ro, by rw [sT, O.ro hp e]⟩, hp⟩
theorem bGn {h0 : Hp} {ds : List DV} (hn : h0.next = kK 24 1023) (O : InOk h0) (h4 : ds.length = 4) (h1 : ∀ v ∈ ds, v.one = true) (hl : ∀ v ∈ ds, gV 1024 v = true) :
  ∃ g, bU (.a ds) h0 = some (.p (kK 24 1023) 0, g) ∧ aK 4 (.p (kK 24 1023) 0) g = some (.a ds, g) ∧ g.next = aL 1 ∧ InOk g ∧ g.bl.get (kK 24 1023) = some (.row .ex ds) ∧ Gw h0 g := by
 obtain ⟨x1, x2⟩ := bEm h4 h1 h0
 have u := Gw.new h0 (.row .ex ds)
 have r : (⟨h0.next.succ, Tr.set (.row .ex ds) h0.next h0.bl⟩ : Hp).bl.get h0.next = some (.row .ex ds) := dNc _ _ _
 rw [hn] at x1 x2 u r
 refine ⟨_, x1, x2, cXf, fun p hp kd l e => ?_, r, u⟩
 by_cases c : p = kK 24 1023
 ·subst c
  rw [r] at e
  cases e
  exact ⟨.inr rfl, fun v hv => ⟨h1 v hv, hl v hv⟩⟩
 ·have e : (Tr.set (.row .ex ds) (kK 24 1023) h0.bl).get p = some (.row kd l) := e
  rw [dNb _ _ _ _ c] at e
  exact O p hp kd l e
theorem bBz {h0 : Hp} {ds : List DV} (hn : h0.next = kK 24 1023) (O : InOk h0) (H : PN Lw h0 60 ds) (hl : ∀ v ∈ ds, gV 1024 v = true) : ∃ k, aF CF prL.r2 900 5 [.a ds] h0 = some (.b true, k) := by
 obtain ⟨h1, x1, x2, n1, O1, r1, u1⟩ := bGn hn O H.shape.1 H.shape.2 hl
 have H1 := H.up u1
 obtain ⟨g, e, _⟩ := n24 900 60 ds (roify h1) (PN.mv (h := h1) (h' := roify h1) (Nat.le_refl _) (bPd O1) H1) (by omega) (by omega) (by omega)
 have e24 : prL.r2 24 [.a ds, .i .i64 (Int.ofNat 60)] h1 = some (iD (Int.negSucc 0), h1) := lG (F := cA 900 24) e rfl
 have e25 : ∀ h, prL.r2 25 [] h = some (.b true, h) := fun h => rfl
 rw [dEd]
 show ∃ k, s5 prL.r2 900 (.a ds) h0 = some (.b true, k)
 unfold s5
 simp only [iD] at e24
 simp only [x1, aO, x2, e24, cG, show decide (Int.negSucc 0 < Int.ofNat 0) = true from rfl, bN, e25]
 exact ⟨_, rfl⟩
theorem bIi {g : FuncId} (h27 : Nat.beq g 27 = false) (h26 : Nat.beq g 26 = false) (h24 : Nat.beq g 24 = false) (h25 : Nat.beq g 25 = false) (h7 : Nat.beq g 7 = false) (args : List DV) (h : Hp) : prL.r2 g args h = cA 900 g args h := by
 have e : prL.r2 g = bif Nat.beq g 27 then p27.f2 else bif Nat.beq g 26 then p26.f2 else bif Nat.beq g 24 then fgt (cA 900 24) else aHy g := rfl
 rw [e, h27, cond_false, h26, cond_false, h24, cond_false, cFg h25 h7]
theorem cZe (args : List DV) (h : Hp) : prL.r2 26 args h = p26.f2 args h := rfl
theorem cXr (args : List DV) (h : Hp) : prL.r2 27 args h = p27.f2 args h := rfl
theorem dFy (args : List DV) (h : Hp) : prL.r2 7 args h = aHy 7 args h := rfl
theorem bJh {h0 : Hp} {ds : List DV} {t : Lt} (hn : h0.next = kK 24 1023) (O : InOk h0) (H : LV Lw h0 t ds) (hsz : t.sz ≤ 60) (hby : t.byt) (hl : ∀ v ∈ ds, gV 1024 v = true) : ∃ k, aF CF prL.r2 900 5 [.a ds] h0 = some (.b true, k) := by
 obtain ⟨h1, x1, x2, n1, O1, r1, u1⟩ := bGn hn O H.shape.1 H.shape.2 hl
 have H1 := H.up u1
 obtain ⟨g, e, _⟩ := dAg 900 t 60 ds (roify h1) (LV.mv (h := h1) (h' := roify h1) (Nat.le_refl _) (bPd O1) _ _ H1) (by omega) (by omega) (by omega) (by omega)
 have e24 : prL.r2 24 [.a ds, .i .i64 (Int.ofNat 60)] h1 = some (iD (Int.ofNat t.sz), h1) := lG (F := cA 900 24) e rfl
 have e25 : ∀ h, prL.r2 25 [] h = some (.b true, h) := fun h => rfl
 have e7 : prL.r2 7 [.i .i64 (Int.ofNat 60000)] h1 = some (.t [.p (aL 7) 0, iD 0], hZo h1) := (dFy _ _).trans <| bZm h1 (by rw [n1]; kernel_rfl)
 have V := WlZ h1
 have low2 : ∀ b : Pos, b.toNat < 1024 → (hZo h1).bl.get b = h1.bl.get b := fun b hb => cVx h1 b hb
 have nx2 : (hZo h1).next = aL 26855 := rfl
 have O2 : InOk (hZo h1) := fun p hp kd l e => by rw [low2 p hp] at e; exact O1 p hp kd l e
 have H2 : LV Lw (hZo h1) t ds := LV.mv (by rw [nx2, n1, iX, pn1]; omega) (fun p hp _ => ⟨fun kd l e => ⟨kd, by rw [low2 p hp]; exact e⟩, hp⟩) _ _ H1
 have r2 : (hZo h1).bl.get (kK 24 1023) = some (.row .ex ds) := by rw [low2 _ (by rw [sE]; omega)]; exact r1
 generalize hZo h1 = h2 at e7 V nx2 O2 H2 r2
 obtain ⟨k, n, tx, ks⟩ := t
 obtain ⟨s, rfl, K2⟩ := H2.ks
 have so := K2.one
 have x3 : aK 4 (.p (kK 24 1023) 0) h2 = some (.a [iD k, .s tx, iD n, s], h2) := la4 r2 rfl rfl rfl so
 obtain ⟨v, ee, h3, e26, nx3, O3, keep3, R⟩ := dEj nx2 O2 K2 hsz hby V
 have e26' : prL.r2 26 [.p (aL 7) 0, .a [iD k, .s tx, iD n, s]] h2 = some (.t [iD v, iD ee], h3) := (cZe _ _).trans e26
 have r3 := keep3 _ (by rw [sE]; omega) _ _ r2
 have x4 : aK 4 (.p (kK 24 1023) 0) h3 = some (.a [iD k, .s tx, iD n, s], h3) := la4 r3 rfl rfl rfl so
 have H3 : LV Lw h3 (.mk k n tx ks) [iD k, .s tx, iD n, s] := LV.mv (by rw [nx3, nx2]; omega) (fun p hp _ => ⟨fun kd l e => ⟨kd, keep3 p hp kd l e⟩, hp⟩) _ _ H2
 obtain ⟨s', es, K3⟩ := H3.ks
 cases es
 obtain ⟨hb, hc, hd, he, p1, p2, p3, p4, p5, p6, p7, p8, p9⟩ := tJ (k := k) (n := n) (tx := tx) so h3
 rw [nx3, cIi] at p2 p8
 rw [nx3, cIi, bVp] at p3 p4 p5
 rw [nx3, cIi, bVp, cTx] at p6
 rw [nx3] at p1 p7
 have n3 : 1024 ≤ h3.next.toNat := by rw [nx3, iX]; omega
 have Oe : InOk he := O3.up p9.upw n3
 have Ke : KS Lw he ks s := K3.upw p9.upw
 obtain ⟨x, e27⟩ := aNb p6 Oe Ke hsz p7 p8
 have e27' : prL.r2 27 [.a (gE (aL 26855) (aL 26856)), .i .i64 (Int.ofNat 0)] he = some (.t [x, iD (if (Lt.mk k n tx ks).ok 20 then 0 else 19)], he) := (cXr _ _).trans e27
 have re : he.bl.get (kK 24 1023) = some (.row .ex [iD k, .s tx, iD n, s]) := by rw [p9.get _ (by rw [sE]; omega)]; exact r3
 have x5 : aK 4 (.p (kK 24 1023) 0) he = some (.a [iD k, .s tx, iD n, s], he) := la4 re rfl rfl rfl so
 have b4 : bE [(.i .i64 (Int.ofNat 0)), (.i .i64 (Int.ofNat 0)), (.i .i64 (Int.ofNat 0))] [(0, 1, (.i .i64 (Int.ofNat 2)))] hb = some (.a [iD 2, iD 0, iD 0], hb) := rfl
 have b5 : bE [(.i .i64 (Int.ofNat 0)), (.i .i64 (Int.ofNat 0)), (.i .i64 (Int.ofNat 0))] [(0, 1, (.i .i64 (Int.ofNat 20)))] hb = some (.a [iD 20, iD 0, iD 0], hb) := rfl
 have b7 : bE zqp [(0, 1, (.s [120])), (4, 1, .l (aL 26855) 0 1 1), (5, 1, .l (aL 26856) 0 2 2)] hc = some (.a (gE (aL 26855) (aL 26856)), hc) := rfl
 have pe : ∀ h, pEq (.pointer 77) true (.p (aL 7) 0) .p0 h = some (.b false, h) := fun h => rfl
 have hz0 : ((0 : Int) != Int.ofNat 0) = false := rfl
 have hz1 : ((0 : Int) == Int.ofNat 0) = true := rfl
 have hz2 : ((1 : Int) == Int.ofNat 0) = false := rfl
 have hz3 : ((19 : Int) == Int.ofNat 0) = false := rfl
 have hz4 : ((1 : Int) != Int.ofNat 0) = true := rfl
 have hz5 : ((1 : Int) != Int.ofNat 1) = false := rfl
 have dsz : decide (Int.ofNat (Lt.mk k n tx ks).sz < Int.ofNat 0) = false := decide_eq_false (by show ¬ (((Lt.mk k n tx ks).sz : Int) < 0); omega)
 rw [dEd]
 show ∃ k', s5 prL.r2 900 (.a [iD k, .s tx, iD n, s]) h0 = some (.b true, k')
 unfold s5
 simp only [iD] at x1 x2 e24 e7 x3 e26' x4 p1 p2 p4 p5 e27' x5 b4 b5 b7 ⊢
 simp only [x1, aO, x2, e24, cG, dsz, bG, e7, zF, xN, pe, gI, eN, hz0, bK, x3, e26', x4, p1, b4, b5, p2, b7, p3, p4, p5, e27', cI]
 rcases R with ⟨ok, rfl, M', R', es', V3, ml⟩ | ⟨ok, rfl, rfl⟩
 ·simp only [ok, if_true, hz1, aO, eqB, bne_self_eq_false, gI, eN, hz0, fE, iK, bK, bG]
  have We : Wd he M' R' es' := V3.K.W.lo' (lo := h3.next.toNat) (by rw [nx3, iX]; omega) ⟨p9.next, p9.get⟩
  obtain ⟨c, h4, e29, W4, U4, L4⟩ := aBb V3.K.G V3.I 900 (.mk k n tx ks) 20 v he hsz ok ml We (by omega)
  have e29' : prL.r2 29 [.p (aL 7) 0, .i .i64 v] he = some (.a c, h4) := (bIi rfl rfl rfl rfl rfl _ _).trans e29
  have ne : 1024 ≤ he.next.toNat := Nat.le_trans n3 p9.next
  have r4 : h4.bl.get (kK 24 1023) = some (.row .ex [iD k, .s tx, iD n, s]) := by rw [U4.get _ (.inl (by rw [sE]; omega)) (by rw [sE]; omega)]; exact re
  have x6 : aK 4 (.p (kK 24 1023) 0) h4 = some (.a [iD k, .s tx, iD n, s], h4) := la4 r4 rfl rfl rfl so
  have H4 : LV Lw h4 (.mk k n tx ks) [iD k, .s tx, iD n, s] := (H3.upw p9.upw).upw U4
  obtain ⟨g5, e28, _⟩ := aLm 900 (.mk k n tx ks) c [iD k, .s tx, iD n, s] h4 hsz L4 H4 (by omega)
  have e28' : prL.r2 28 [.a c, .a [iD k, .s tx, iD n, s]] h4 = some (.b true, g5) := (bIi rfl rfl rfl rfl rfl _ _).trans e28
  have sm : bM (some (.a [iD k, .s tx, iD n, s], he)) (.a [iD k, .s tx, iD n, s]) = true := H4.beq
  simp only [iD] at x6 e28' sm
  simp only [e29', aO, x6, x5, sm, Bool.and_self, cnd, e28', iG, e25, bQ]
  exact ⟨_, rfl⟩
 ·simp only [ok, Bool.false_eq_true, if_false, hz2, hz3, aO, eqB, bne_self_eq_false, gI, eN, cI, hz4, iG, hz5, bQ, bK, bG, bN, hz1, e25]
  exact ⟨_, rfl⟩
end Go.Dd

namespace Go.Dd
open Go.Proofs Go.RowKit
section
variable {w : World} {ρ : cM} {h : Hp}
mutual
theorem LV.byt (R : Ro w ρ h) : ∀ (t : Lt) (ds : List DV), LV Lw h t ds → (∀ v ∈ ds, ∃ v', VR ρ v v') → t.byt
 | .mk k n tx ks, ds, H, V => by
  unfold LV at H
  obtain ⟨s, rfl, K⟩ := H
  unfold Lt.byt
  refine ⟨?_, ?_⟩
  ·obtain ⟨v', hv⟩ := V (.s tx) (by simp)
   cases hv with
   | s l bs hb =>
    intro c hc
    rw [← hb] at hc
    obtain ⟨u, _, rfl⟩ := List.mem_map.1 hc
    exact u.toNat_lt
  ·rcases K with ⟨rfl, _⟩ | ⟨b, row, cap, rfl, ⟨⟨kd, e⟩, _, _⟩, L⟩
   ·unfold dOc; trivial
   ·refine LVL.byt R ks row L fun v hv => ?_
    obtain ⟨l', e2⟩ := R.row b _ e
    cases e2
    obtain ⟨L0, hL⟩ := R.dom b _ e
    obtain ⟨i, hi⟩ := List.getElem?_of_mem hv
    obtain ⟨v', _, q⟩ := R.cell b _ L0 i v e hL hi
    exact ⟨v', q⟩
theorem LVL.byt (R : Ro w ρ h) : ∀ (ts : List Lt) (row : List DV), LVL Lw h ts row → (∀ v ∈ row, ∃ v', VR ρ v v') → dOc ts
 | [], row, H, V => by unfold dOc; trivial
 | t :: ts, row, H, V => by
  unfold LVL at H
  obtain ⟨c, r, rfl, a, b⟩ := H
  unfold dOc
  exact ⟨LV.byt R t c a fun v hv => V v (by simp [hv]), LVL.byt R ts r b fun v hv => V v (by simp [hv])⟩
end
theorem aYg : ∀ {ds : List DV} {vs : List Value}, VRs ρ ds vs → ∀ v ∈ ds, ∃ v', VR ρ v v'
 | [], _, _, v, hv => by cases hv
 | x :: ds, _, .cons _ x' _ l' hx hs, v, hv => by
  rcases List.mem_cons.1 hv with rfl | hv
  ·exact ⟨_, hx⟩
  ·exact aYg hs v hv
end
section
variable {H : Type} {enc : TypeId × Value → H} {w : World}
theorem bRe {P : Program} {W : World} {base : Nat} {t : TypeId} {v : Value} {fs : Array Field} (ht : P.underlying t = some (.struct fs)) (h : Value.okWide P W .any base t v) : ∃ cs, v = .agg cs := by
 unfold Value.okWide at h
 rw [ht] at h
 obtain ⟨cs, e, _⟩ := h
 exact ⟨cs, e⟩
theorem bNk {n : Nat} {cs : Array Value} {x : DataW H × List MemPlace} (hx : DataW.trod enc Tryz.prog w 0 (fun _ => true) true n 58 cs.toList = some x) :
  Calls Tryz.prog 5 #[.agg cs] w fun e w' => e = .returned (.bool true) ∧ Below w.heap.size w w' := by
 obtain ⟨ρ, h', ds, ⟨R, A, lw⟩, U, E, S, V, O⟩ := aKw (w := w) 60 60 (Nat.le_refl _) n cs.toList x hx ⟨Ro.none w .h, fun b kd l e => by cases b <;> cases e⟩ (by omega) (by show Pos.h.toNat + 60 ≤ 1000; show 1 + 60 ≤ 1000; omega)
 have e1 : (⟨Pos.h, Tr.e⟩ : Hp).next.toNat = 1 := rfl
 have hn : h'.next.toNat ≤ 1000 := by
  rcases O with ⟨t, _, a, b⟩ | ⟨_, b⟩ <;> omega
 obtain ⟨p, bl⟩ := h'
 have hn : p.toNat ≤ 1000 := hn
 have hp : p.toNat ≤ (kK 24 1023).toNat := by rw [sE]; omega
 have u : Gw (⟨p, bl⟩ : Hp) ⟨kK 24 1023, bl⟩ := ⟨hp, fun _ _ => rfl⟩
 have O1 : InOk ⟨kK 24 1023, bl⟩ := fun b hb kd l e => by
  refine ⟨.inl ?_, A b kd l e⟩
  obtain ⟨l', e2⟩ := R.row b _ e
  cases e2
  rfl
 have run : ∃ k, aF CF prL.r2 900 5 [.a ds] ⟨kK 24 1023, bl⟩ = some (.b true, k) := by
  rcases O with ⟨t, L, a, b⟩ | ⟨L, b⟩
  ·exact bJh rfl O1 (L.up u) a (LV.byt R t ds L (aYg V)) lw
  ·exact bBz rfl O1 (L.up u) lw
 exact prL.law_at run Tryz.f5 Tryz.func5 (by kernel_rfl) w (R.skip (kK 24 1023) hp) _ (.cons _ _ _ _ (.a _ _ V) .nil)
end
end Go.Dd

