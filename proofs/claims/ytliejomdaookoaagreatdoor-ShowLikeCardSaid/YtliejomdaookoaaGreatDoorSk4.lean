/- A part of the proof: P50: each text has a comment of its own. -/
import Derived.Test.YtliejomdaookoaaGreatDoorSk3
set_option linter.unusedVariables false
set_option linter.unusedSimpArgs false
set_option linter.constructorNameAsVariable false
set_option maxRecDepth 100000
namespace Go.Dd
open Go.Proofs
section
variable {I : Im} {A L : Ls} {h : Hp}
theorem aCs {u : List Nat} (hu : u.length ≤ 300) (hb : AB u) (S : Sy I A [] L h) : Ev (fun n => bAl (qX 10 true n) n (.s u) h) (fun v h' => v = .b true) := by
 have e11 : ∀ n, qX 10 true n 11 = aK n 11 := fun n => nB true n rfl
 have e13 : ∀ n, qX 10 true n 13 = aK n 13 := fun n => nB true n rfl
 have e14 : ∀ n, qX 10 true n 14 = aK n 14 := fun n => nB true n rfl
 unfold bAl
 simp only [e11, e13, e14, aMt]
 refine bVq (aHu S (by simp [bV]; omega) hb 2001 2001 2004 (by simp [bV]) (by simp [bV]) _ (oP u) _ (lI u)) ?_
 rintro _ h2 ⟨J, cs, rfl, g1, S2, N1⟩
 have N0 := N1
 obtain ⟨c1, o1, b1⟩ := N1.shape
 refine wx ?_; refine wx ?_; refine wx ?_; refine wa fun _ _ _ => ?_; refine wt fun _ _ => ?_
 refine bWu (fun e1 => ?_) (fun e1 => ?_)
 ·refine yt (wm ?_)
  exact bVs rfl
 ·have he : (cA u).2.2 = 0 := e1
  obtain ⟨W1, W2⟩ := aFi (by omega) hb he
  obtain ⟨V1, V2⟩ := aUd (by omega) hb he
  obtain ⟨ts, l, ed, _⟩ := sE (by omega) hb he
  rw [ed] at N0 V1 V2 W1 W2
  obtain ⟨s1, s2, s3, rfl, rest⟩ := N0
  have N9 : NV J (.mk 11 fooX 0 [] ts (l.map Prod.fst)) [.i .i64 11, .s fooX, .i .i64 0, s1, s2, s3] := ⟨s1, s2, s3, rfl, rest⟩
  have N8 : NV J (.mk 11 [100, 111, 73, 116] 0 [] ts (l.map Prod.fst)) [.i .i64 11, .s [100, 111, 73, 116], .i .i64 0, s1, s2, s3] := ⟨s1, s2, s3, rfl, rest⟩
  have p1 : s1.one = true := o1 s1 (by simp)
  have p2 : s2.one = true := o1 s2 (by simp)
  have p3 : s3.one = true := o1 s3 (by simp)
  generalize hB : aQ ts (fU (l.map Prod.fst)) = B at *
  have w2 : aBz (.mk 11 [100, 111, 73, 116] 0 [] ts (l.map Prod.fst)) = (B, 0) := by rw [W2]; exact congrArg (·, (0 : Int)) hB
  have v2 : wU (.mk 11 fooX 0 [] ts (l.map Prod.fst)) = (fooX ++ 32 :: B, 0) := V2.trans (by rw [← hB]; rfl)
  have hBl : B.length ≤ 1000000000 := by rw [← hB]; exact V1.b0
  refine yj ?_; refine ws ?_; refine wa fun _ _ _ => ?_; refine wt fun _ _ => ?_; refine wf ?_; refine wu fun _ _ => ?_; refine ws ?_
  refine bVq (aNa (by assumption) N8 W1.kids W1.len W1.by') ?_
  rintro _ h3 ⟨rfl, S3⟩
  rw [w2]
  refine wx ?_; refine wx ?_; refine ws ?_
  refine bVq (aBl (by assumption) N9 V1.kids V1.t0 V1.n0 V1.m0 V1.m1 V1.b0 V1.a0) ?_
  rintro _ h5 ⟨rfl, S5⟩
  rw [v2]
  refine wx ?_; refine wx ?_
  refine bVv (fun e4 => ?_) (fun e4 => absurd rfl e4)
  refine zt (wm (zt ?_))
  refine bVv (fun e4 => ?_) (fun e4 => absurd rfl e4)
  refine ap (zt (wm (zt (wm (zt ?_)))))
  refine bXa (by simp; omega) ?_
  refine zt ?_
  refine Ev.op (aZh _ _ _) ?_
  rw [show decide (fooX ++ 32 :: B = [102, 111, 111, 32] ++ B) = true by simp [fooX]]
  refine ap (zt (wm (ap ?_)))
  exact bVs rfl
theorem bCj {s : List Nat} (hs : AB s) (S : Sy I A [] L h) : Ev (fun n => s8 (qX 10 true n) n (.s s) h) (fun v h' => v = .b true) := by
 unfold s8 bPd
 refine bWs ?_
 refine bXi (fun e1 => ?_) (fun e1 => ?_)
 ·refine yt ?_
  have hl : 300 ≤ s.length := by have : (s.length : Int) > Int.ofNat 300 := e1; simp at this; omega
  refine Ev.op (bUh (b := 300) hl _) ?_
  exact aCs (by rw [List.length_take]; omega) (fun c hc => hs c (List.mem_of_mem_take hc)) S
 ·refine yj ?_
  exact aCs (by have : ¬ ((s.length : Int) > Int.ofNat 300) := e1; simp at this; omega) hs S
end
end Go.Dd

