/- A part of the proof: P10 P11 P12 P13 P14 P15 P16 Z2 B1 B2 B3 Y1 Y2 Y3 Y4 B4 B5 Z5 B6 P17 P18 P19 RW P20: each text has a comment of its own. -/
import Derived.Test.YtliejomdaookoaaGreatDoorSa3
import Derived.Test.YtliejomdaookoaaGreatDoorRows
import Derived.Test.YtliejomdaookoaaGreatDoorCards
import Derived.Test.YtliejomdaookoaaGreatDoorTie
import Derived.WalkKit
import Derived.ProofKit
import Derived.OpenShut
import Derived.Carry
import Derived.Lib.LaidU8
import Derived.Lay
import Derived.LaidOnce
import Derived.SevenTiedAt
import Derived.ChangeMaps5
/- Dd, part P10: show's text of a node, over the texts of its kids (the block's in P11). -/
set_option linter.unusedVariables false
set_option linter.unusedSimpArgs false
set_option maxRecDepth 100000
namespace Go.Dd
open Go.Proofs

theorem itoa_op {m : Int} (h0 : -9223372036854775808 ≤ m) (h1 : m ≤ 9223372036854775807) (h : Hp) : itoaF [.i .i64 m] h = some (.s (itoaN m), h) := by
  show (bif decide (-9223372036854775808 ≤ m) && decide (m ≤ 9223372036854775807) then some (DV.s (itoaN m), h) else none) = _
  simp [h0, h1]

theorem repl_op {t : List Nat} (ht : t.length ≤ 1000000000) (h : Hp) : replF [.s t, .s [39], .s [39, 39]] h = some (.s (replN 39 [39, 39] t), h) := by
  have e1 : Nat.ble t.length 4000000000 = true := Nat.ble_eq_true_of_le (by omega)
  show (bif Nat.blt 39 256 then (bif Nat.ble t.length 4000000000 then (bif Nat.ble [39, 39].length 1000 then some (DV.s (replN 39 [39, 39] t), h) else none) else none) else none) = _
  rw [e1]
  rfl

theorem map_tx (ks : List Node) : (nfL ks).map Nf.tx = txs ks ∧ (nfL ks).map Nf.ht = infs ks := by
  rw [nfL_eq]
  simp [txs, infs]

end Go.Dd

/- Dd, part P11: show's text of a block. -/
set_option linter.unusedVariables false
set_option linter.unusedSimpArgs false
set_option maxRecDepth 100000
namespace Go.Dd
open Go.Proofs

section
variable {I : Im} {A Q L : Ls} {s1 y : DV} {ns : List (List Nat)} {P : DV → Hp → Prop}
theorem names36 (N : SS I s1 ns) : ∀ (r : List (List Nat)) (i j : Nat) (h : Hp) (acc : List Nat), ns.drop i = r → Sy I A Q L h → (acc ++ namesTx r).length ≤ 100000000000 →
    (∀ h, Sy I A Q L h → Ev (fun n => s36a23 (shD n) n y (.s (acc ++ namesTx r)) h) P) →
    Ev (fun n => s36a26l (shD n) n (n - j) y (.s acc) s1 (.i .i64 (ns.length : Int)) (.i .i64 (i : Int)) h) P
  | [], i, j, h, acc, hr, S, hl, fin => by
    refine Ev.loop j (ll := fun n m => s36a26l (shD n) n m y (.s acc) s1 (.i .i64 (ns.length : Int)) (.i .i64 (i : Int)) h) (bb := fun n m => s36a26b (shD n) n (s36a26l (shD n) n m) y (.s acc) s1 (.i .i64 (ns.length : Int)) (.i .i64 (i : Int)) h) (fun _ _ => rfl) ?_
    unfold s36a26b
    have hle : ns.length ≤ i := List.drop_eq_nil_iff.1 hr
    refine Ev.ilt (fun e1 => absurd e1 (by omega)) (fun e1 => ?_)
    refine Ev.iff ?_
    have := fin h S
    simpa [namesTx] using this
  | p :: r, i, j, h, acc, hr, S, hl, fin => by
    refine Ev.loop j (ll := fun n m => s36a26l (shD n) n m y (.s acc) s1 (.i .i64 (ns.length : Int)) (.i .i64 (i : Int)) h) (bb := fun n m => s36a26b (shD n) n (s36a26l (shD n) n m) y (.s acc) s1 (.i .i64 (ns.length : Int)) (.i .i64 (i : Int)) h) (fun _ _ => rfl) ?_
    unfold s36a26b
    have hlim : ns.length ≤ lim := N.1
    have hi' : i < ns.length := by
      rcases Nat.lt_or_ge i ns.length with h | h
      · exact h
      · rw [List.drop_eq_nil_of_le h] at hr; cases hr
    have hx : ns[i]? = some p := by
      have : (ns.drop i)[0]? = some p := by rw [hr]; rfl
      simpa using this
    have hr2 : ns.drop (i + 1) = r := by
      have := drop_cons hx
      rw [hr] at this
      simpa using this.symm
    refine Ev.ilt (fun e1 => ?_) (fun e1 => absurd (show (i : Int) < ns.length by omega) e1)
    refine Ev.ift ?_
    obtain ⟨b, o, ei, el⟩ := N.at S hx
    refine Ev.op (ei _) ?_
    refine Ev.op el ?_
    refine Ev.bs S (cs := [.s acc, .s [58], .s p, .s [32]]) (by simp [fillD, cellsD]) ?_
    intro b1 h7 S7
    have hl' : acc.length + (p.length + (namesTx r).length) ≤ 100000000000 - 2 := by simp [namesTx] at hl; omega
    refine Ev.call (put_ok [acc, [58], p, [32]] S7 (List.Mem.head _) rfl (by simp [joinN]; omega) (by simp)) ?_
    rintro _ _ ⟨rfl, rfl⟩
    have ej : joinN [] [acc, [58], p, [32]] = acc ++ (58 :: (p ++ [32])) := by simp [joinN]
    rw [ej]
    refine Ev.iadd ?_
    rw [wadd1 (by omega)]
    have ea : (acc ++ (58 :: (p ++ [32]))) ++ namesTx r = acc ++ namesTx (p :: r) := by simp [namesTx]
    exact names36 N r (i + 1) (j + 1) _ (acc ++ (58 :: (p ++ [32]))) hr2 S7.dropL (by rw [ea]; exact hl) (fun h S => by rw [ea]; exact fin h S)
end

end Go.Dd

/- Dd, part P12: show's text. -/
set_option linter.unusedVariables false
set_option linter.unusedSimpArgs false
set_option maxRecDepth 100000
namespace Go.Dd
open Go.Proofs

theorem text_node {k m : Int} {t : List Nat} {ns ts : List (List Nat)} {ks : List Node} (T : ∀ y ∈ ks, TxOk y) (K : ∀ z ∈ ks, (∀ y ∈ z.kids, TxOk y) ∧ z.text.length ≤ 1000000000 ∧ z.kids.length + 1 ≤ lim)
    (hs : t.length ≤ 1000000000) (hm0 : -9223372036854775808 ≤ m) (hm1 : m ≤ 9223372036854775807) : TxOk (.mk k t m ns ts ks) := by
  intro I A Q L h cs S N hl
  have N0 := N
  obtain ⟨etx, eht⟩ := map_tx ks
  have ex : (nf (.mk k t m ns ts ks)).tx = txTx k t m ns ts (nfL ks) := by simp [nf]
  rw [ex] at hl ⊢
  refine Ev.enter (fun n => enter36 n _ h) ?_
  unfold s36
  obtain ⟨s1, s2, s3, rfl, a, b, c, cells, F, NL⟩ := N
  have N3 : NS I s3 ks := ⟨c, cells, F, NL⟩
  have o1 := a.2.one
  have o2 := b.2.one
  have o3 := F.one
  refine Ev.box S rfl ?_
  intro b1 h1 S1
  unfold s36a1
  refine wf ?_; refine wl ?_
  unfold s36a3
  unfold txTx at hl ⊢
  refine Ev.ieq (fun e1 => ?_) (fun e1 => ?_)
  · replace e1 : k = 1 := e1
    rw [if_pos e1] at hl ⊢
    unfold s36a4
    refine yt ?_; refine wf ?_; refine wl ?_
    refine Ev.op (itoa_op hm0 hm1 _) ?_
    exact Ev.ret ⟨rfl, S1.dropL⟩
  replace e1 : ¬ k = 1 := e1
  rw [if_neg e1] at hl ⊢
  unfold s36a4 s36a5
  refine Ev.iff ?_
  refine Ev.ieq (fun e2 => ?_) (fun e2 => ?_)
  · replace e2 : k = 2 := e2
    rw [if_pos e2] at hl ⊢
    unfold s36a6
    refine yt ?_; refine wf ?_; refine wl ?_
    refine Ev.op (repl_op hs _) ?_
    refine Ev.bs S1 (cs := [.s [39], .s (replN 39 [39, 39] t), .s [39]]) (by simp [fillD, cellsD]) ?_
    intro b2 h2 S2
    refine Ev.call (put_ok [[39], replN 39 [39, 39] t, [39]] S2 (List.Mem.head _) rfl (by simp [joinN] at hl ⊢; omega) (by simp)) ?_
    rintro _ _ ⟨rfl, rfl⟩
    refine Ev.ret ⟨?_, S2.dropL.dropL⟩
    simp [joinN]
  replace e2 : ¬ k = 2 := e2
  rw [if_neg e2] at hl ⊢
  unfold s36a6 s36a7
  refine Ev.iff ?_
  refine Ev.ieq (fun e3 => ?_) (fun e3 => ?_)
  · replace e3 : k = 3 := e3
    rw [if_pos e3] at hl ⊢
    unfold s36a8
    refine yt ?_; refine wf ?_; refine wl ?_
    refine Ev.bs S1 (cs := [.s [35], .s t]) (by simp [fillD, cellsD]) ?_
    intro b2 h2 S2
    refine Ev.call (put_ok [[35], t] S2 (List.Mem.head _) rfl (by simp [joinN] at hl ⊢; omega) (by simp)) ?_
    rintro _ _ ⟨rfl, rfl⟩
    refine Ev.ret ⟨?_, S2.dropL.dropL⟩
    simp [joinN]
  replace e3 : ¬ k = 3 := e3
  rw [if_neg e3] at hl ⊢
  unfold s36a8 s36a9
  refine Ev.iff ?_
  refine Ev.ieq (fun e4 => ?_) (fun e4 => ?_)
  · replace e4 : k = 4 := e4
    rw [if_pos e4, etx] at hl ⊢
    unfold s36a10
    refine yt ?_; refine wf ?_; refine wl ?_
    refine Ev.call (all_ok (sep := [32]) S1 N3 (fun x hx => HowOk.text (T x hx)) (by simp only [txs] at hl; simp at hl ⊢; omega)) ?_
    rintro _ h2 ⟨rfl, S2⟩
    refine Ev.bs S2 (cs := [.s [35, 40], .s (joinN [32] (txs ks)), .s [41]]) (by simp [fillD, cellsD, txs]) ?_
    intro b2 h3 S3
    refine Ev.call (put_ok [[35, 40], joinN [32] (txs ks), [41]] S3 (List.Mem.head _) rfl (by simp [joinN] at hl ⊢; omega) (by simp)) ?_
    rintro _ _ ⟨rfl, rfl⟩
    refine Ev.ret ⟨?_, S3.dropL.dropL⟩
    simp [joinN]
  replace e4 : ¬ k = 4 := e4
  rw [if_neg e4] at hl ⊢
  unfold s36a10 s36a11
  refine Ev.iff ?_
  refine Ev.ieq (fun e5 => ?_) (fun e5 => ?_)
  · replace e5 : k = 6 := e5
    rw [if_pos e5, etx] at hl ⊢
    unfold s36a12
    refine Ev.ift ?_
    have Sr := S1.res
    generalize hh : resv 1 h1 = hr at Sr
    refine Ev.fld ?_
    refine Ev.ldL Sr (List.Mem.tail _ (List.Mem.head _)) rfl rfl ?_
    refine Ev.fld ?_
    refine Ev.ldL Sr (List.Mem.tail _ (List.Mem.head _)) rfl o3 ?_
    refine Ev.call (all_ok (sep := []) Sr N3 (fun x hx => HowOk.text (T x hx)) (by simp only [txs] at hl; simp at hl ⊢; omega)) ?_
    rintro _ h2 ⟨rfl, S2⟩
    refine Ev.cnd ?_ ?_
    · rw [Bool.and_true]; exact same1S S2 (List.Mem.tail _ (List.Mem.head _)) rfl rfl (beq_s _)
    refine Ev.bsAt0 S2 (cs := [.s t, .s [32, 58, 61, 32], .s (joinN [] (txs ks))]) (Rpl.head _) (by simp [fillD, cellsD, txs]) ?_
    intro h3 S3
    refine Ev.call (put_ok [t, [32, 58, 61, 32], joinN [] (txs ks)] S3 (List.Mem.head _) rfl (by simp [joinN] at hl ⊢; omega) (by simp)) ?_
    rintro _ _ ⟨rfl, rfl⟩
    refine Ev.ret ⟨?_, S3.dropL.dropL⟩
    simp [joinN]
  replace e5 : ¬ k = 6 := e5
  rw [if_neg e5] at hl ⊢
  unfold s36a12 s36a13
  refine Ev.iff ?_
  refine Ev.ieq (fun e6 => ?_) (fun e6 => ?_)
  · replace e6 : k = 10 := e6
    rw [if_pos e6, etx] at hl ⊢
    unfold s36a14
    refine yt ?_; refine wf ?_; refine wl ?_
    refine Ev.call (all_ok (sep := []) S1 N3 (fun x hx => HowOk.text (T x hx)) (by simp only [txs] at hl; simp at hl ⊢; omega)) ?_
    rintro _ h2 ⟨rfl, S2⟩
    refine Ev.bs S2 (cs := [.s [94], .s (joinN [] (txs ks))]) (by simp [fillD, cellsD, txs]) ?_
    intro b2 h3 S3
    refine Ev.call (put_ok [[94], joinN [] (txs ks)] S3 (List.Mem.head _) rfl (by simp [joinN] at hl ⊢; omega) (by simp)) ?_
    rintro _ _ ⟨rfl, rfl⟩
    refine Ev.ret ⟨?_, S3.dropL.dropL⟩
    simp [joinN]
  replace e6 : ¬ k = 10 := e6
  rw [if_neg e6] at hl ⊢
  unfold s36a14 s36a15
  refine Ev.iff ?_
  refine Ev.ieq (fun e7 => ?_) (fun e7 => ?_)
  · replace e7 : k = 7 := e7
    rw [if_pos e7, eht] at hl ⊢
    unfold s36a16
    refine yt ?_; refine wf ?_; refine wl ?_; refine wf ?_; refine wl ?_
    refine Ev.call (sendTx_ok S1 N3 T hs hl) ?_
    rintro _ h2 ⟨rfl, S2⟩
    exact Ev.ret ⟨rfl, S2.dropL⟩
  replace e7 : ¬ k = 7 := e7
  rw [if_neg e7] at hl ⊢
  unfold s36a16 s36a17
  refine Ev.iff ?_
  refine Ev.ieq (fun e8 => ?_) (fun e8 => ?_)
  · replace e8 : k = 8 := e8
    rw [if_pos e8] at hl ⊢
    unfold s36a18
    refine yt ?_; refine wf ?_; refine wl ?_
    refine Ev.call (series_ok S1 N3 T K hl) ?_
    rintro _ h2 ⟨rfl, S2⟩
    exact Ev.ret ⟨rfl, S2.dropL⟩
  replace e8 : ¬ k = 8 := e8
  rw [if_neg e8] at hl ⊢
  unfold s36a18 s36a19
  refine Ev.iff ?_
  refine Ev.ieq (fun e9 => ?_) (fun e9 => ?_)
  · replace e9 : k = 9 := e9
    rw [if_pos e9, etx] at hl ⊢
    unfold s36a20
    refine Ev.ift ?_
    unfold s36a21 s36a22
    have hbody : (bodyTx ts (txs ks)).length ≤ 100000000000 := by simp at hl; omega
    have fin : ∀ (pre : List Nat) (h : Hp), Sy I A Q ((b1, some (.row .ex [.i .i64 k, .s t, .i .i64 m, s1, s2, s3])) :: L) h → pre.length + (bodyTx ts (txs ks)).length + 2 ≤ 100000000000 →
        Ev (fun n => s36a24 (shD n) n (.p b1 0) (.s pre) h) (fun v h' => v = .s (91 :: (pre ++ (bodyTx ts (txs ks) ++ [93]))) ∧ Sy I A Q L h') := by
      intro pre h S hp
      unfold s36a24
      refine Ev.ldsL S (List.Mem.head _) rfl (N0.shape.2.1) ?_
      refine Ev.call (bodyTx_ok S N0 T hbody) ?_
      rintro _ h2 ⟨rfl, S2⟩
      refine Ev.bs S2 (cs := [.s [91], .s pre, .s (bodyTx ts (txs ks)), .s [93]]) (by simp [fillD, cellsD]) ?_
      intro b2 h3 S3
      refine Ev.call (put_ok [[91], pre, bodyTx ts (txs ks), [93]] S3 (List.Mem.head _) rfl (by simp [joinN]; omega) (by simp)) ?_
      rintro _ _ ⟨rfl, rfl⟩
      refine Ev.ret ⟨?_, S3.dropL.dropL⟩
      simp [joinN]
    refine wf ?_; refine wl ?_
    refine Ev.op (a.2.len _) ?_
    unfold s36a25 s36a26
    have hn : (namesTx ns).length ≤ 100000000000 := by
      by_cases h9 : namesTx ns = []
      · rw [h9]; simp
      · rw [if_neg h9] at hl; simp at hl; omega
    refine names36 a ns 0 0 _ [] rfl S1 (by simpa using hn) ?_
    intro h2 S2
    simp only [List.nil_append]
    unfold s36a23
    refine Ev.sne (fun h9 => ?_) (fun h9 => ?_)
    · rw [if_neg h9] at hl ⊢
      refine Ev.ift ?_
      refine Ev.bs S2 (cs := [.s (namesTx ns), .s [124, 32]]) (by simp [fillD, cellsD]) ?_
      intro b2 h3 S3
      refine Ev.call (put_ok [namesTx ns, [124, 32]] S3 (List.Mem.head _) rfl (by simp [joinN] at hl ⊢; omega) (by simp)) ?_
      rintro _ _ ⟨rfl, rfl⟩
      have ej : joinN [] [namesTx ns, [124, 32]] = namesTx ns ++ [124, 32] := by simp [joinN]
      rw [ej]
      exact fin _ _ S3.dropL (by simp at hl ⊢; omega)
    · rw [if_pos h9] at hl ⊢
      refine Ev.iff ?_
      rw [h9]
      exact fin _ _ S2 (by simp at hl ⊢; omega)
  replace e9 : ¬ k = 9 := e9
  rw [if_neg e9] at hl ⊢
  unfold s36a20 s36a2
  refine yj ?_; refine wf ?_; refine wl ?_
  exact Ev.ret ⟨rfl, S1.dropL⟩

end Go.Dd

/- Dd, part P13: show's text of any node. -/
set_option linter.unusedVariables false
set_option linter.unusedSimpArgs false
set_option maxRecDepth 100000
namespace Go.Dd
open Go.Proofs

mutual
/-- Texts not too long, numbers that are ints, not too many kids. -/
def Sk : Node → Prop
  | .mk k t m ns ts ks => t.length ≤ 1000000000 ∧ -9223372036854775808 ≤ m ∧ m ≤ 9223372036854775807 ∧ ks.length + 1 ≤ lim ∧ SkL ks
def SkL : List Node → Prop
  | [] => True
  | x :: l => Sk x ∧ SkL l
end

mutual
theorem shown_ok : ∀ x, Sk x → TxOk x ∧ (∀ y ∈ x.kids, TxOk y) ∧ x.text.length ≤ 1000000000 ∧ x.kids.length + 1 ≤ lim
  | .mk k t m ns ts ks, h => by
    unfold Sk at h
    obtain ⟨h1, h2, h3, h4, h5⟩ := h
    have T := showns_ok ks h5
    exact ⟨text_node (fun y hy => (T y hy).1) (fun z hz => (T z hz).2) h1 h2 h3, fun y hy => (T y hy).1, h1, h4⟩
theorem showns_ok : ∀ l, SkL l → ∀ y ∈ l, TxOk y ∧ (∀ z ∈ y.kids, TxOk z) ∧ y.text.length ≤ 1000000000 ∧ y.kids.length + 1 ≤ lim
  | [], _ => fun y hy => by cases hy
  | x :: l, h => by
    unfold SkL at h
    have p := shown_ok x h.1
    have q := showns_ok l h.2
    intro y hy
    rcases List.mem_cons.1 hy with e | hy
    · rw [e]; exact p
    · exact q y hy
end

end Go.Dd

/- Dd, part P14: slices.Equal of texts, for the program's Same. -/
set_option linter.unusedVariables false
set_option linter.unusedSimpArgs false
set_option maxRecDepth 100000
namespace Go.Dd
open Go.Proofs

section
variable {I : Im} {A Q L : Ls}

theorem eqs_loop {h : Hp} {s1 s2 : DV} {l1 l2 : List (List Nat)} (S : Sy I A Q L h) (N1 : SS I s1 l1) (N2 : SS I s2 l2) : ∀ (r1 r2 : List (List Nat)) (i j : Nat), l1.drop i = r1 → l2.drop i = r2 → r1.length = r2.length → i ≤ l1.length →
    Ev (fun n => s63a5l (shD n) n (n - j) s1 s2 (.i .i64 (l1.length : Int)) (.i .i64 (i : Int)) h) (fun v h' => v = .b (decide (r1 = r2)) ∧ h' = h) := by
  intro r1
  induction r1 with
  | nil =>
    intro r2 i j e1 e2 hl hi
    refine Ev.loop j (ll := fun n p => s63a5l (shD n) n p s1 s2 (.i .i64 (l1.length : Int)) (.i .i64 (i : Int)) h) (bb := fun n p => s63a5b (shD n) n (s63a5l (shD n) n p) s1 s2 (.i .i64 (l1.length : Int)) (.i .i64 (i : Int)) h) (fun _ _ => rfl) ?_
    have h2 : r2 = [] := by cases r2 with
      | nil => rfl
      | cons => simp at hl
    subst h2
    have hl2 : i = l1.length := by
      have := congrArg List.length e1
      simp at this
      omega
    unfold s63a5b
    refine Ev.ilt (fun k => ?_) (fun k => ?_)
    · omega
    · refine yj ?_
      unfold s63a3
      exact Ev.ret ⟨by simp, rfl⟩
  | cons x r1 ih =>
    intro r2 i j e1 e2 hl hi
    refine Ev.loop j (ll := fun n p => s63a5l (shD n) n p s1 s2 (.i .i64 (l1.length : Int)) (.i .i64 (i : Int)) h) (bb := fun n p => s63a5b (shD n) n (s63a5l (shD n) n p) s1 s2 (.i .i64 (l1.length : Int)) (.i .i64 (i : Int)) h) (fun _ _ => rfl) ?_
    obtain ⟨y, r2, rfl⟩ : ∃ y r, r2 = y :: r := by cases r2 with
      | nil => simp at hl
      | cons y r => exact ⟨y, r, rfl⟩
    have hx : l1[i]? = some x := by
      have := congrArg (fun l => l[0]?) e1
      simpa using this
    have hy : l2[i]? = some y := by
      have := congrArg (fun l => l[0]?) e2
      simpa using this
    have hlt := (List.getElem?_eq_some_iff.1 hx).1
    have e1' : l1.drop (i + 1) = r1 := by
      have := congrArg (List.drop 1) e1
      simpa [List.drop_drop] using this
    have e2' : l2.drop (i + 1) = r2 := by
      have := congrArg (List.drop 1) e2
      simpa [List.drop_drop] using this
    obtain ⟨b1, o1, p1, q1⟩ := N1.at S hx
    obtain ⟨b2, o2, p2, q2⟩ := N2.at S hy
    have hb := N1.1
    unfold s63a5b
    refine Ev.ilt (fun k => ?_) (fun k => ?_)
    · refine yt ?_
      refine Ev.op (p1 _) (Ev.op q1 (Ev.op (p2 _) (Ev.op q2 ?_)))
      refine Ev.sne (fun k2 => ?_) (fun k2 => ?_)
      · refine yt ?_
        exact Ev.ret ⟨by simp [k2], rfl⟩
      · refine yj ?_
        refine Ev.iadd ?_
        rw [wadd1 (by omega)]
        refine (ih r2 (i + 1) (j + 1) e1' e2' (by simpa using hl) (by omega)).mono ?_
        rintro v h' ⟨rfl, rfl⟩
        exact ⟨by simp [k2], rfl⟩
    · omega

theorem enter63b (n : Nat) (x y : DV) (h : Hp) : shD (n + 1) 63 [x, y] h = s63 (shD n) n x y h := by kernel_rfl

theorem eqs_ok {h : Hp} {s1 s2 : DV} {l1 l2 : List (List Nat)} (S : Sy I A Q L h) (N1 : SS I s1 l1) (N2 : SS I s2 l2) :
    Ev (fun n => shD n 63 [s1, s2] h) (fun v h' => v = .b (decide (l1 = l2)) ∧ h' = h) := by
  refine Ev.enter (fun n => enter63b n _ _ h) ?_
  unfold s63 s63a1
  refine Ev.op (N1.2.len _) (Ev.op (N2.2.len _) (Ev.ine (fun e => ?_) (fun e => ?_)))
  · refine yt ?_
    refine Ev.ret ⟨?_, rfl⟩
    have : l1 ≠ l2 := fun h => e (by rw [h])
    simp [this]
  · refine yj ?_
    unfold s63a2
    refine Ev.op (N1.2.len _) ?_
    unfold s63a4 s63a5
    exact eqs_loop S N1 N2 l1 l2 0 0 (by simp) (by simp) (by omega) (by omega)
end

end Go.Dd

/- Dd, part P15: the program's Same of two nodes. -/
set_option linter.unusedVariables false
set_option linter.unusedSimpArgs false
set_option maxRecDepth 100000
namespace Go.Dd
open Go.Proofs

theorem enter64b (n : Nat) (x y z : DV) (h : Hp) : shD (n + 1) 64 [x, y, z] h = s64 (shD n) n x y z h := by kernel_rfl
theorem enter37b (n : Nat) (x y : DV) (h : Hp) : shD (n + 1) 37 [x, y] h = s37 (shD n) n x y h := by kernel_rfl
theorem call37s (rec : FuncId → List DV → Hp → Res) (x y : DV) (h : Hp) : pCall CF rec (.f 37 [] []) [x, y] h = rec 37 [x, y] h := by kernel_rfl

theorem nEq_sh (k k' m m' : Int) (t t' : List Nat) (ns ns' ts ts' : List (List Nat)) (ks ks' : List Node) :
    nEq (.mk k t m ns ts ks) (.mk k' t' m' ns' ts' ks') = (decide (k = k') && decide (t = t') && decide (m = m') && decide (ns = ns') && decide (ts = ts') && nEqL ks ks') := by
  show (decide (ns = ns') && decide (ts = ts') && decide (k = k') && decide (t = t') && decide (m = m') && nEqL ks ks') = _
  generalize decide (ns = ns') = a
  generalize decide (ts = ts') = b
  generalize decide (k = k') = c
  generalize decide (t = t') = d
  generalize decide (m = m') = e
  cases a <;> cases b <;> cases c <;> cases d <;> cases e <;> rfl

theorem eqF_of {ks ks' : List Node} {I : Im} {A Q L : Ls} {h : Hp} {s s' : DV} (N : NS I s ks) (N' : NS I s' ks') (S : Sy I A Q L h)
    (lp : ks.length = ks'.length → Ev (fun n => s64a5l (shD n) n (n - 0) s' (.f 37 [] []) s (.i .i64 (ks.length : Int)) (.i .i64 ((0 : Nat) : Int)) h) (fun v h' => v = .b (nEqL ks ks') ∧ Sy I A Q L h')) :
    Ev (fun n => shD n 64 [s, s', .f 37 [] []] h) (fun v h' => v = .b (nEqL ks ks') ∧ Sy I A Q L h') := by
  refine Ev.enter (fun n => enter64b n _ _ _ h) ?_
  unfold s64 s64a1
  refine Ev.op (N.len _) (Ev.op (N'.len _) (Ev.ine (fun e => ?_) (fun e => ?_)))
  · refine yt ?_
    refine Ev.ret ⟨?_, S⟩
    rw [nEqL_len ks ks' (by omega)]
  · refine yj ?_
    unfold s64a2
    refine Ev.op (N.len _) ?_
    unfold s64a4 s64a5
    exact lp (by omega)

mutual
theorem sameP_ok : ∀ (x y : Node) (I : Im) (A Q L : Ls) (h : Hp) (cs cs' : List DV), Sy I A Q L h → NV I x cs → NV I y cs' → Ev (fun n => shD n 37 [.a cs, .a cs'] h) (fun v h' => v = .b (nEq x y) ∧ Sy I A Q L h')
  | .mk k t m ns ts ks, .mk k' t' m' ns' ts' ks', I, A, Q, L, h, cs, cs', S, ⟨s1, s2, s3, e, a1, a2, a3, cells, F, NL⟩, ⟨s1', s2', s3', e', a1', a2', a3', cells', F', NL'⟩ => by
    subst e
    subst e'
    have o1 := a1.2.one
    have o2 := a2.2.one
    have o3 := F.one
    have o1' := a1'.2.one
    have o2' := a2'.2.one
    have o3' := F'.one
    refine Ev.enter (fun n => enter37b n _ _ h) ?_
    unfold s37
    refine Ev.box S rfl (fun b h1 S1 => ?_)
    refine Ev.box S1 rfl (fun b' h2 S2 => ?_)
    rw [nEq_sh]
    refine wf ?_; refine wl ?_; refine wf ?_; refine wl ?_
    refine Ev.ieq (fun e1 => ?_) (fun e1 => ?_)
    · refine zt ?_; refine wf ?_; refine zt ?_; refine wl ?_; refine zt ?_; refine wf ?_; refine zt ?_; refine wl ?_; refine zt ?_
      refine Ev.seq (fun e2 => ?_) (fun e2 => ?_)
      · refine ap ?_; refine zt ?_; refine wf ?_; refine zt ?_; refine wl ?_; refine zt ?_; refine wf ?_; refine zt ?_; refine wl ?_; refine zt ?_
        refine Ev.ieq (fun e3 => ?_) (fun e3 => ?_)
        · refine ap ?_; refine zt ?_; refine wf ?_; refine zt ?_; refine wl ?_; refine zt ?_; refine wf ?_; refine zt ?_; refine wl ?_; refine zt ?_
          refine Ev.call (eqs_ok S2 a1 a1') ?_
          rintro _ _ ⟨rfl, rfl⟩
          by_cases e4 : ns = ns'
          · rw [decide_eq_true e4]
            refine ap ?_; refine zt ?_; refine wf ?_; refine zt ?_; refine wl ?_; refine zt ?_; refine wf ?_; refine zt ?_; refine wl ?_; refine zt ?_
            refine Ev.call (eqs_ok S2 a2 a2') ?_
            rintro _ _ ⟨rfl, rfl⟩
            by_cases e5 : ts = ts'
            · rw [decide_eq_true e5]
              refine ap ?_; refine zt ?_; refine wf ?_; refine zt ?_; refine wl ?_; refine zt ?_; refine wf ?_; refine zt ?_; refine wl ?_; refine zt ?_
              refine Ev.call (eqF_of ⟨a3, cells, F, NL⟩ ⟨a3', cells', F', NL'⟩ S2 (fun hl => eqF_loop ks ks' I A Q _ _ s3 s3' ks ks' 0 0 ⟨a3, cells, F, NL⟩ ⟨a3', cells', F', NL'⟩ (by simp) (by simp) hl (by omega) S2)) ?_
              rintro _ h9 ⟨rfl, S9⟩
              simp only [e1, e2, e3, decide_true, Bool.true_and]
              generalize nEqL ks ks' = c
              cases c with
              | true =>
                refine ap ?_
                exact Ev.ret ⟨rfl, dp⟩
              | false =>
                refine ap ?_
                exact Ev.ret ⟨rfl, dp⟩
            · rw [decide_eq_false e5]
              refine ap ?_; refine yf ?_; refine yf ?_; refine yf ?_; refine yf ?_; refine yf ?_; refine aq ?_
              exact Ev.ret ⟨by simp, dp⟩
          · rw [decide_eq_false e4]
            refine ap ?_; refine yf ?_; refine yf ?_; refine yf ?_; refine yf ?_; refine yf ?_; refine aq ?_; refine yf ?_; refine yf ?_; refine yf ?_; refine yf ?_; refine yf ?_; refine aq ?_
            exact Ev.ret ⟨by simp, dp⟩
        · refine ap ?_; refine yf ?_; refine yf ?_; refine yf ?_; refine yf ?_; refine yf ?_; refine aq ?_; refine yf ?_; refine yf ?_; refine yf ?_; refine yf ?_; refine yf ?_; refine aq ?_; refine yf ?_; refine yf ?_; refine yf ?_; refine yf ?_; refine yf ?_; refine aq ?_
          exact Ev.ret ⟨by simp [e3], dp⟩
      · refine ap ?_; refine yf ?_; refine yf ?_; refine yf ?_; refine yf ?_; refine yf ?_; refine aq ?_; refine yf ?_; refine yf ?_; refine yf ?_; refine yf ?_; refine yf ?_; refine aq ?_; refine yf ?_; refine yf ?_; refine yf ?_; refine yf ?_; refine yf ?_; refine aq ?_; refine yf ?_; refine yf ?_; refine yf ?_; refine yf ?_; refine yf ?_; refine aq ?_
        exact Ev.ret ⟨by simp [e2], dp⟩
    · refine yf ?_; refine yf ?_; refine yf ?_; refine yf ?_; refine yf ?_; refine aq ?_; refine yf ?_; refine yf ?_; refine yf ?_; refine yf ?_; refine yf ?_; refine aq ?_; refine yf ?_; refine yf ?_; refine yf ?_; refine yf ?_; refine yf ?_; refine aq ?_; refine yf ?_; refine yf ?_; refine yf ?_; refine yf ?_; refine yf ?_; refine aq ?_; refine yf ?_; refine yf ?_; refine yf ?_; refine yf ?_; refine yf ?_; refine aq ?_
      exact Ev.ret ⟨by simp [e1], dp⟩
theorem eqF_loop : ∀ (r r' : List Node) (I : Im) (A Q L : Ls) (h : Hp) (s s' : DV) (ks ks' : List Node) (i j : Nat), NS I s ks → NS I s' ks' → ks.drop i = r → ks'.drop i = r' → r.length = r'.length → i ≤ ks.length → Sy I A Q L h →
    Ev (fun n => s64a5l (shD n) n (n - j) s' (.f 37 [] []) s (.i .i64 (ks.length : Int)) (.i .i64 (i : Int)) h) (fun v h' => v = .b (nEqL r r') ∧ Sy I A Q L h')
  | [], r', I, A, Q, L, h, s, s', ks, ks', i, j, N, N', hr, hr', hl, hi, S => by
    have h2 : r' = [] := by cases r' with
      | nil => rfl
      | cons => simp at hl
    subst h2
    refine Ev.loop j (ll := fun n p => s64a5l (shD n) n p s' (.f 37 [] []) s (.i .i64 (ks.length : Int)) (.i .i64 (i : Int)) h) (bb := fun n p => s64a5b (shD n) n (s64a5l (shD n) n p) s' (.f 37 [] []) s (.i .i64 (ks.length : Int)) (.i .i64 (i : Int)) h) (fun _ _ => rfl) ?_
    have hl2 : i = ks.length := by
      have := congrArg List.length hr
      simp at this
      omega
    unfold s64a5b
    refine Ev.ilt (fun e1 => ?_) (fun e1 => ?_)
    · omega
    · refine yj ?_
      unfold s64a3
      exact Ev.ret ⟨rfl, S⟩
  | x :: r, r', I, A, Q, L, h, s, s', ks, ks', i, j, N, N', hr, hr', hl, hi, S => by
    obtain ⟨y, r', rfl⟩ : ∃ y q, r' = y :: q := by cases r' with
      | nil => simp at hl
      | cons y q => exact ⟨y, q, rfl⟩
    refine Ev.loop j (ll := fun n p => s64a5l (shD n) n p s' (.f 37 [] []) s (.i .i64 (ks.length : Int)) (.i .i64 (i : Int)) h) (bb := fun n p => s64a5b (shD n) n (s64a5l (shD n) n p) s' (.f 37 [] []) s (.i .i64 (ks.length : Int)) (.i .i64 (i : Int)) h) (fun _ _ => rfl) ?_
    have hx : ks[i]? = some x := by
      have := congrArg (fun l => l[0]?) hr
      simpa using this
    have hy : ks'[i]? = some y := by
      have := congrArg (fun l => l[0]?) hr'
      simpa using this
    have hlt := (List.getElem?_eq_some_iff.1 hx).1
    have e1' : ks.drop (i + 1) = r := by
      have := congrArg (List.drop 1) hr
      simpa [List.drop_drop] using this
    have e2' : ks'.drop (i + 1) = r' := by
      have := congrArg (List.drop 1) hr'
      simpa [List.drop_drop] using this
    have hb := N.1
    unfold s64a5b
    refine Ev.ilt (fun e1 => ?_) (fun e1 => ?_)
    · refine yt ?_
      obtain ⟨p1, q1, d1, u1, u2, u3⟩ := N.at hx
      obtain ⟨p2, q2, d2, v1, v2, v3⟩ := N'.at hy
      obtain ⟨l1, k1, m1⟩ := u2.shape
      obtain ⟨l2, k2, m2⟩ := v2.shape
      refine Ev.op (u1 _) (Ev.op (u3 _ _ _ _ _ (ILe.refl _) S) ?_)
      refine wa fun _ _ _ => ?_; refine wt fun _ _ => ?_
      refine Ev.op (v1 _) (Ev.op (v3 _ _ _ _ _ (ILe.refl _) (by assumption)) ?_)
      refine wa fun _ _ _ => ?_; refine wt fun _ _ => ?_; refine ws ?_; refine ws ?_
      simp only [call37s]
      refine Ev.call (sameP_ok x y I A Q _ _ d1 d2 (by assumption) u2 v2) ?_
      rintro _ h1 ⟨rfl, S1⟩
      simp only [nEqL]
      cases e : nEq x y with
      | false =>
        refine ao ?_; refine yt ?_
        exact Ev.ret ⟨by simp, dp⟩
      | true =>
        refine an ?_; refine yj ?_
        refine Ev.iadd ?_
        rw [wadd1 (by omega)]
        refine (eqF_loop r r' I A Q L h1 s s' ks ks' (i + 1) (j + 1) N N' e1' e2' (by simpa using hl) (by omega) (dp)).mono ?_
        rintro v h' ⟨rfl, S2⟩
        exact ⟨by simp, S2⟩
    · omega
end

end Go.Dd

/- Dd, part P16: the law's small, over nodes of any width. -/
set_option linter.unusedVariables false
set_option linter.unusedSimpArgs false
set_option maxRecDepth 100000
namespace Go.Dd
open Go.Proofs

def wide : Nat := 9223372036854775807

theorem wadd1w {i : Nat} (h : i < 9223372036854775807) : IntKind.i64.wrap ((i : Int) + Int.ofNat 1) = ((i + 1 : Nat) : Int) := by
  have e : Int.ofNat 1 = 1 := rfl
  rw [wrap64s _ (by omega) (by omega)]
  omega

mutual
/-- As NV, but for widths. -/
def NW (I : Im) : Node → List DV → Prop
  | .mk k t m ns ts ks, cs => ∃ s1 s2 s3, cs = [.i .i64 k, .s t, .i .i64 m, s1, s2, s3] ∧ (ns.length ≤ wide ∧ Fz I 1 s1 ns.length (ns.map .s)) ∧ (ts.length ≤ wide ∧ Fz I 1 s2 ts.length (ts.map .s)) ∧ ks.length ≤ wide ∧ ∃ cells, Fz I 6 s3 ks.length cells ∧ NWL I ks cells
def NWL (I : Im) : List Node → List DV → Prop
  | [], cells => cells = []
  | x :: l, cells => ∃ c rest, cells = c ++ rest ∧ NW I x c ∧ NWL I l rest
end

theorem NW.shape {I : Im} {x : Node} {cs : List DV} (H : NW I x cs) : cs.length = 6 ∧ (∀ v ∈ cs, v.one = true) ∧ DV.beq (.a cs) (.a cs) = true := by
  cases x with
  | mk k t m ns ts ks =>
    obtain ⟨s1, s2, s3, rfl, a, b, c, cells, f, n⟩ := H
    have o1 := a.2.one
    have o2 := b.2.one
    have o3 := f.one
    refine ⟨rfl, ?_, ?_⟩
    · intro v hv
      simp only [List.mem_cons, List.not_mem_nil, or_false] at hv
      rcases hv with rfl | rfl | rfl | rfl | rfl | rfl
      · rfl
      · rfl
      · rfl
      · exact o1
      · exact o2
      · exact o3
    · have e : eqD t t = true := by rw [eqD_iff]
      simp [DV.beq, DV.beqs, e, a.2.beq, b.2.beq, f.beq]

mutual
theorem NW.mono {I J : Im} (g : ILe I J) : ∀ {x : Node} {cs : List DV}, NW I x cs → NW J x cs
  | .mk k t m ns ts ks, cs, ⟨s1, s2, s3, e, a, b, c, cells, f, n⟩ => ⟨s1, s2, s3, e, ⟨a.1, a.2.mono g⟩, ⟨b.1, b.2.mono g⟩, c, cells, f.mono g, NWL.mono g n⟩
theorem NWL.mono {I J : Im} (g : ILe I J) : ∀ {l : List Node} {cells : List DV}, NWL I l cells → NWL J l cells
  | [], _, e => e
  | x :: l, _, ⟨c, rest, e, a, b⟩ => ⟨c, rest, e, NW.mono g a, NWL.mono g b⟩
end

theorem NWL.at {I : Im} : ∀ {ks : List Node} {cells : List DV} {i : Nat} {x : Node}, NWL I ks cells → ks[i]? = some x → ∃ c rest, cells.drop (i * 6) = c ++ rest ∧ NW I x c
  | [], _, i, x, _, h => by simp at h
  | y :: l, _, 0, x, ⟨c, rest, e, a, b⟩, h => by
    simp at h
    subst h
    exact ⟨c, rest, by simpa using e, a⟩
  | y :: l, _, i + 1, x, ⟨c, rest, e, a, b⟩, h => by
    simp at h
    obtain ⟨d, r, e2, f⟩ := NWL.at b h
    refine ⟨d, r, ?_, f⟩
    subst e
    rw [show (i + 1) * 6 = c.length + i * 6 by rw [a.shape.1]; omega, ← List.drop_drop, List.drop_left]
    exact e2

theorem NWS.at {I : Im} {s : DV} {ks : List Node} {cells : List DV} (F : Fz I 6 s ks.length cells) (N : NWL I ks cells) {i : Nat} {x : Node} (hi : ks[i]? = some x) :
    ∃ b o c, (∀ h', pIndexAddr 6 s (.i .i64 (i : Int)) h' = some (.p b o, h')) ∧ NW I x c ∧ ∀ (A Q L : Ls) (h : Hp), Sy I A Q L h → pLoadA 6 (.p b o) h = some (.a c, h) := by
  obtain ⟨hlt, _⟩ := List.getElem?_eq_some_iff.1 hi
  obtain ⟨d, rest, e, Nd⟩ := N.at hi
  rcases F with ⟨_, h2, _⟩ | ⟨b, o, cap, k, row, rest2, rfl, h2, h3, h4, h5, h6⟩
  · omega
  · refine ⟨b, o + i * 6, d, fun h' => ?_, Nd, fun A Q L h S => ldA (S.im _ _ h3) ?_⟩
    · show (if 0 ≤ (i : Int) ∧ (i : Int) < (ks.length : Int) then some (DV.p b (o + (i : Int).toNat * 6), h') else none) = _
      rw [if_pos ⟨by omega, by omega⟩]
      rfl
    · have hle : i * 6 ≤ cells.length := by rw [h5]; exact Nat.mul_le_mul_right _ (by omega)
      rw [← List.drop_drop, h4, List.drop_append_of_le_length hle, e, List.append_assoc]
      obtain ⟨s1, s2, _⟩ := Nd.shape
      exact takeD_app2 d _ 6 s1 s2

/-! ### Plain -/

mutual
/-- How many nodes. -/
def sz : Node → Nat
  | .mk _ _ _ _ _ ks => 1 + szL ks
def szL : List Node → Nat
  | [] => 0
  | x :: l => sz x + szL l
end

theorem sz_pos (x : Node) : 1 ≤ sz x := by
  cases x
  simp [sz]

def short (l : List (List Nat)) : Bool := l.all fun x => decide (x.length ≤ 40)

mutual
def smallM : Node → Bool
  | .mk k t m ns ts ks => decide (sz (.mk k t m ns ts ks) ≤ 100) && (decide (t.length ≤ 40) && (decide (ns.length ≤ 10) && (decide (ts.length ≤ 10) && (short ns && (short ts && smallL ks)))))
def smallL : List Node → Bool
  | [] => true
  | x :: l => smallM x && smallL l
end

theorem enter18b (n : Nat) (x y : DV) (h : Hp) : shD (n + 1) 18 [x, y] h = s18 (shD n) n x y h := by kernel_rfl
theorem enter9b (n : Nat) (x : DV) (h : Hp) : shD (n + 1) 9 [x] h = s9 (shD n) n x h := by kernel_rfl

def fewQ (n m : Int) : Int := if n ≤ m then n else -1

/-! ### Few -/

mutual
theorem few_ok : ∀ (x : Node) (I : Im) (A Q L : Ls) (h : Hp) (cs : List DV) (m : Int), 1 ≤ m → m ≤ 100 → Sy I A Q L h → NW I x cs → Ev (fun n => shD n 18 [.a cs, .i .i64 m] h) (fun v h' => v = .i .i64 (fewQ (sz x) m) ∧ Sy I A Q L h')
  | .mk k t mm ns ts ks, I, A, Q, L, h, cs, m, m1, m2, S, ⟨s1, s2, s3, e, a1, a2, a3, cells, F, NL⟩ => by
    subst e
    refine Ev.enter (fun n => enter18b n _ _ h) ?_
    unfold s18
    refine Ev.box S rfl (fun b h1 S1 => ?_)
    unfold s18a1 s18a2 s18a4 s18a5
    have := few_loop ks I A Q L h1 b _ s3 cells ks m 1 0 0 m1 m2 (by omega) (by omega) F NL a3 (by simp) (by omega) S1 rfl
    simpa [sz] using this
theorem few_loop : ∀ (r : List Node) (I : Im) (A Q L : Ls) (h : Hp) (b : Pos) (c : List DV) (s3 : DV) (cells : List DV) (ks : List Node) (m q : Int) (i j : Nat), 1 ≤ m → m ≤ 100 → 1 ≤ q → q ≤ m → Fz I 6 s3 ks.length cells → NWL I ks cells → ks.length ≤ wide → ks.drop i = r → i ≤ ks.length →
    Sy I A Q ((b, some (.row .ex c)) :: L) h → c[5]? = some s3 →
    Ev (fun n => s18a5l (shD n) n (n - j) (.i .i64 m) (.p b 0) (.i .i64 q) (.i .i64 (i : Int)) h) (fun v h' => v = .i .i64 (fewQ (q + szL r) m) ∧ Sy I A Q L h')
  | [], I, A, Q, L, h, b, c, s3, cells, ks, m, q, i, j, m1, m2, q1, q2, F, NL, a3, hr, hi, S, g => by
    refine Ev.loop j (ll := fun n p => s18a5l (shD n) n p (.i .i64 m) (.p b 0) (.i .i64 q) (.i .i64 (i : Int)) h) (bb := fun n p => s18a5b (shD n) n (s18a5l (shD n) n p) (.i .i64 m) (.p b 0) (.i .i64 q) (.i .i64 (i : Int)) h) (fun _ _ => rfl) ?_
    have hl2 : i = ks.length := by
      have := congrArg List.length hr
      simp at this
      omega
    unfold s18a5b
    refine Ev.fld (Ev.ldL S (List.Mem.head _) (by simpa using g) F.one ?_)
    refine Ev.op (F.len _) (Ev.ilt (fun e1 => ?_) (fun e1 => ?_))
    · omega
    · refine yj ?_
      unfold s18a3
      refine Ev.igt (fun e2 => by omega) (fun e2 => ?_)
      refine yj ?_
      exact Ev.ret ⟨by simp [fewQ, szL, q2], S.dropL⟩
  | x :: r, I, A, Q, L, h, b, c, s3, cells, ks, m, q, i, j, m1, m2, q1, q2, F, NL, a3, hr, hi, S, g => by
    refine Ev.loop j (ll := fun n p => s18a5l (shD n) n p (.i .i64 m) (.p b 0) (.i .i64 q) (.i .i64 (i : Int)) h) (bb := fun n p => s18a5b (shD n) n (s18a5l (shD n) n p) (.i .i64 m) (.p b 0) (.i .i64 q) (.i .i64 (i : Int)) h) (fun _ _ => rfl) ?_
    have hx : ks[i]? = some x := by
      have := congrArg (fun l => l[0]?) hr
      simpa using this
    have hlt := (List.getElem?_eq_some_iff.1 hx).1
    have e1' : ks.drop (i + 1) = r := by
      have := congrArg (List.drop 1) hr
      simpa [List.drop_drop] using this
    have hw : wide = 9223372036854775807 := rfl
    have hp := sz_pos x
    unfold s18a5b
    refine Ev.fld (Ev.ldL S (List.Mem.head _) (by simpa using g) F.one ?_)
    refine Ev.op (F.len _) (Ev.ilt (fun e1 => ?_) (fun e1 => ?_))
    · refine yt ?_
      refine Ev.ige (fun e2 => ?_) (fun e2 => ?_)
      · refine yt ?_
        refine Ev.ret ⟨?_, S.dropL⟩
        have : ¬ (q + (szL (x :: r) : Nat) ≤ m) := by simp only [szL]; omega
        unfold fewQ
        rw [if_neg this]
        rfl
      · refine yj ?_
        refine Ev.fld (Ev.ldL S (List.Mem.head _) (by simpa using g) F.one ?_)
        obtain ⟨p1, q1', d1, u1, u2, u3⟩ := NWS.at F NL hx
        refine Ev.op (u1 _) (Ev.op (u3 _ _ _ _ S) ?_)
        refine Ev.isub ?_
        have ew : IntKind.i64.wrap (m - q) = m - q := wrap64s _ (by omega) (by omega)
        rw [ew]
        refine Ev.call (few_ok x I A Q _ h d1 (m - q) (by omega) (by omega) S u2) ?_
        rintro _ h1 ⟨rfl, S1⟩
        by_cases hz : (sz x : Int) ≤ m - q
        · have e9 : fewQ (sz x) (m - q) = sz x := by unfold fewQ; rw [if_pos hz]
          rw [e9]
          refine Ev.ilt (fun e3 => ?_) (fun e3 => ?_)
          · exact absurd e3 (by simp)
          · refine yj ?_
            refine Ev.iadd ?_
            refine Ev.iadd ?_
            rw [wadd1w (by omega)]
            have ew2 : IntKind.i64.wrap (q + (sz x : Int)) = q + sz x := wrap64s _ (by omega) (by omega)
            rw [ew2]
            refine (few_loop r I A Q L h1 b c s3 cells ks m (q + sz x) (i + 1) (j + 1) m1 m2 (by omega) (by omega) F NL a3 e1' (by omega) S1 g).mono ?_
            rintro v h' ⟨rfl, S2⟩
            refine ⟨?_, S2⟩
            simp only [szL]
            rw [show q + ((sz x + szL r : Nat) : Int) = q + (sz x : Int) + (szL r : Int) by omega]
        · have e9 : fewQ (sz x) (m - q) = -1 := by unfold fewQ; rw [if_neg hz]
          rw [e9]
          refine Ev.ilt (fun e3 => ?_) (fun e3 => ?_)
          · refine yt ?_
            refine Ev.ret ⟨?_, S1.dropL⟩
            have : ¬ (q + (szL (x :: r) : Nat) ≤ m) := by simp only [szL]; omega
            unfold fewQ
            rw [if_neg this]
            rfl
          · exact absurd (show (-1 : Int) < Int.ofNat 0 by decide) e3
    · omega
end

/-! ### small -/

theorem Fz.strAt {I : Im} {s : DV} {l : List (List Nat)} (F : Fz I 1 s l.length (l.map .s)) {A Q L : Ls} {h : Hp} (S : Sy I A Q L h) {i : Nat} {x : List Nat} (hi : l[i]? = some x) :
    ∃ b o, (∀ h', pIndexAddr 1 s (.i .i64 (i : Int)) h' = some (.p b o, h')) ∧ pLoad1 (.p b o) h = some (.s x, h) := by
  obtain ⟨hlt, hg⟩ := List.getElem?_eq_some_iff.1 hi
  obtain ⟨b, o, e, k, row, g, rest, d⟩ := F.at S hlt
  refine ⟨b, o, e, ld1 g ?_ rfl⟩
  have e2 : row[o]? = (row.drop o)[0]? := by simp
  rw [e2, d, Nat.mul_one, List.drop_eq_getElem_cons (by simpa using hlt)]
  simp [hg]

section
variable {I : Im} {A Q L : Ls}

theorem small_names {P : DV → Hp → Prop} {h : Hp} {b : Pos} {c : List DV} {s : DV} {l : List (List Nat)} (hw : l.length ≤ wide) (F : Fz I 1 s l.length (l.map .s)) (S : Sy I A Q ((b, some (.row .ex c)) :: L) h) (g : c[3]? = some s) : ∀ (r : List (List Nat)) (i j : Nat), l.drop i = r → i ≤ l.length →
    (short r = true → Ev (fun n => s9a4 (shD n) n (.p b 0) h) P) → (short r = false → P (.b false) h) →
    Ev (fun n => s9a12l (shD n) n (n - j) (.p b 0) (.i .i64 (i : Int)) h) P
  | [], i, j, hr, hi, k1, k2 => by
    refine Ev.loop j (ll := fun n p => s9a12l (shD n) n p (.p b 0) (.i .i64 (i : Int)) h) (bb := fun n p => s9a12b (shD n) n (s9a12l (shD n) n p) (.p b 0) (.i .i64 (i : Int)) h) (fun _ _ => rfl) ?_
    have hl2 : i = l.length := by
      have := congrArg List.length hr
      simp at this
      omega
    unfold s9a12b
    refine Ev.fld (Ev.ldL S (List.Mem.head _) (by simpa using g) F.one ?_)
    refine Ev.op (F.len _) (Ev.ilt (fun e1 => ?_) (fun e1 => ?_))
    · omega
    · refine yj ?_
      exact k1 rfl
  | x :: r, i, j, hr, hi, k1, k2 => by
    refine Ev.loop j (ll := fun n p => s9a12l (shD n) n p (.p b 0) (.i .i64 (i : Int)) h) (bb := fun n p => s9a12b (shD n) n (s9a12l (shD n) n p) (.p b 0) (.i .i64 (i : Int)) h) (fun _ _ => rfl) ?_
    have hx : l[i]? = some x := by
      have := congrArg (fun l => l[0]?) hr
      simpa using this
    have hlt := (List.getElem?_eq_some_iff.1 hx).1
    have e1' : l.drop (i + 1) = r := by
      have := congrArg (List.drop 1) hr
      simpa [List.drop_drop] using this
    have hw' : wide = 9223372036854775807 := rfl
    unfold s9a12b
    refine Ev.fld (Ev.ldL S (List.Mem.head _) (by simpa using g) F.one ?_)
    refine Ev.op (F.len _) (Ev.ilt (fun e1 => ?_) (fun e1 => ?_))
    · refine yt ?_
      refine Ev.fld (Ev.ldL S (List.Mem.head _) (by simpa using g) F.one ?_)
      obtain ⟨b1, o1, p1, q1⟩ := Fz.strAt F S hx
      refine Ev.op (p1 _) (Ev.op q1 ?_)
      refine Ev.lenS ?_
      refine Ev.igt (fun e2 => ?_) (fun e2 => ?_)
      · refine yt ?_
        refine Ev.ret (k2 ?_)
        have : ¬ x.length ≤ 40 := by
          intro h9
          exact absurd e2 (by show ¬ (Int.ofNat 40 < (x.length : Int)); have : Int.ofNat 40 = 40 := rfl; omega)
        simp [short, this]
      · refine yj ?_
        have hx40 : x.length ≤ 40 := by
          rcases Nat.lt_or_ge 40 x.length with h9 | h9
          · exact absurd (show (40 : Int) < (x.length : Int) by omega) e2
          · exact h9
        refine Ev.iadd ?_
        rw [wadd1w (by omega)]
        refine small_names hw F S g r (i + 1) (j + 1) e1' (by omega) (fun h9 => k1 ?_) (fun h9 => k2 ?_)
        · simpa [short, hx40] using h9
        · simpa [short, hx40] using h9
    · omega

theorem small_temps {P : DV → Hp → Prop} {h : Hp} {b : Pos} {c : List DV} {s : DV} {l : List (List Nat)} (hw : l.length ≤ wide) (F : Fz I 1 s l.length (l.map .s)) (S : Sy I A Q ((b, some (.row .ex c)) :: L) h) (g : c[4]? = some s) : ∀ (r : List (List Nat)) (i j : Nat), l.drop i = r → i ≤ l.length →
    (short r = true → Ev (fun n => s9a5 (shD n) n (.p b 0) h) P) → (short r = false → P (.b false) h) →
    Ev (fun n => s9a10l (shD n) n (n - j) (.p b 0) (.i .i64 (i : Int)) h) P
  | [], i, j, hr, hi, k1, k2 => by
    refine Ev.loop j (ll := fun n p => s9a10l (shD n) n p (.p b 0) (.i .i64 (i : Int)) h) (bb := fun n p => s9a10b (shD n) n (s9a10l (shD n) n p) (.p b 0) (.i .i64 (i : Int)) h) (fun _ _ => rfl) ?_
    have hl2 : i = l.length := by
      have := congrArg List.length hr
      simp at this
      omega
    unfold s9a10b
    refine Ev.fld (Ev.ldL S (List.Mem.head _) (by simpa using g) F.one ?_)
    refine Ev.op (F.len _) (Ev.ilt (fun e1 => ?_) (fun e1 => ?_))
    · omega
    · refine yj ?_
      exact k1 rfl
  | x :: r, i, j, hr, hi, k1, k2 => by
    refine Ev.loop j (ll := fun n p => s9a10l (shD n) n p (.p b 0) (.i .i64 (i : Int)) h) (bb := fun n p => s9a10b (shD n) n (s9a10l (shD n) n p) (.p b 0) (.i .i64 (i : Int)) h) (fun _ _ => rfl) ?_
    have hx : l[i]? = some x := by
      have := congrArg (fun l => l[0]?) hr
      simpa using this
    have hlt := (List.getElem?_eq_some_iff.1 hx).1
    have e1' : l.drop (i + 1) = r := by
      have := congrArg (List.drop 1) hr
      simpa [List.drop_drop] using this
    have hw' : wide = 9223372036854775807 := rfl
    unfold s9a10b
    refine Ev.fld (Ev.ldL S (List.Mem.head _) (by simpa using g) F.one ?_)
    refine Ev.op (F.len _) (Ev.ilt (fun e1 => ?_) (fun e1 => ?_))
    · refine yt ?_
      refine Ev.fld (Ev.ldL S (List.Mem.head _) (by simpa using g) F.one ?_)
      obtain ⟨b1, o1, p1, q1⟩ := Fz.strAt F S hx
      refine Ev.op (p1 _) (Ev.op q1 ?_)
      refine Ev.lenS ?_
      refine Ev.igt (fun e2 => ?_) (fun e2 => ?_)
      · refine yt ?_
        refine Ev.ret (k2 ?_)
        have : ¬ x.length ≤ 40 := by
          intro h9
          exact absurd e2 (by show ¬ (Int.ofNat 40 < (x.length : Int)); have : Int.ofNat 40 = 40 := rfl; omega)
        simp [short, this]
      · refine yj ?_
        have hx40 : x.length ≤ 40 := by
          rcases Nat.lt_or_ge 40 x.length with h9 | h9
          · exact absurd (show (40 : Int) < (x.length : Int) by omega) e2
          · exact h9
        refine Ev.iadd ?_
        rw [wadd1w (by omega)]
        refine small_temps hw F S g r (i + 1) (j + 1) e1' (by omega) (fun h9 => k1 ?_) (fun h9 => k2 ?_)
        · simpa [short, hx40] using h9
        · simpa [short, hx40] using h9
    · omega

end

mutual
theorem small_ok : ∀ (x : Node) (I : Im) (A Q L : Ls) (h : Hp) (cs : List DV), Sy I A Q L h → NW I x cs → Ev (fun n => shD n 9 [.a cs] h) (fun v h' => v = .b (smallM x) ∧ Sy I A Q L h')
  | .mk k t mm ns ts ks, I, A, Q, L, h, cs, S, ⟨s1, s2, s3, e, a1, a2, a3, cells, F, NL⟩ => by
    subst e
    have N0 : NW I (.mk k t mm ns ts ks) [.i .i64 k, .s t, .i .i64 mm, s1, s2, s3] := ⟨s1, s2, s3, rfl, a1, a2, a3, cells, F, NL⟩
    have o1 := a1.2.one
    have o2 := a2.2.one
    have o3 := F.one
    refine Ev.enter (fun n => enter9b n _ h) ?_
    unfold s9
    refine Ev.box S rfl (fun b h1 S1 => ?_)
    unfold s9a1
    refine Ev.ldsL S1 (List.Mem.head _) rfl N0.shape.2.1 ?_
    refine Ev.call (few_ok _ I A Q _ h1 _ 100 (by omega) (by omega) S1 N0) ?_
    rintro _ h2 ⟨rfl, S2⟩
    have hsm : smallM (.mk k t mm ns ts ks) = (decide (sz (.mk k t mm ns ts ks) ≤ 100) && (decide (t.length ≤ 40) && (decide (ns.length ≤ 10) && (decide (ts.length ≤ 10) && (short ns && (short ts && smallL ks)))))) := by rw [smallM]
    rw [hsm]
    clear hsm
    generalize sz (.mk k t mm ns ts ks) = z
    by_cases hz : z ≤ 100
    · have e9 : fewQ z 100 = z := by unfold fewQ; rw [if_pos (by omega)]
      rw [e9]
      refine Ev.ilt (fun e3 => absurd e3 (by simp)) (fun e3 => ?_)
      refine yj ?_
      unfold s9a2
      refine wf ?_; refine wl ?_
      refine Ev.lenS ?_
      have hfin : decide (t.length ≤ 40) = true → decide (ns.length ≤ 10) = true → decide (ts.length ≤ 10) = true → Ev (fun n => s9a3 (shD n) n (.p b 0) h2) (fun v h' => v = .b (short ns && (short ts && smallL ks)) ∧ Sy I A Q L h') := by
        intro q1 q2 q3
        unfold s9a3 s9a11 s9a12
        refine small_names (j := 0) (i := 0) a1.1 a1.2 S2 rfl ns (by simp) (by omega) (fun h9 => ?_) (fun h9 => ⟨by simp [h9], S2.dropL⟩)
        unfold s9a4 s9a9 s9a10
        refine small_temps (j := 0) (i := 0) a2.1 a2.2 S2 rfl ts (by simp) (by omega) (fun h8 => ?_) (fun h8 => ⟨by simp [h8], S2.dropL⟩)
        unfold s9a5 s9a7 s9a8
        have := small_loop ks I A Q L h2 b _ s3 cells ks 0 0 F NL a3 (by simp) (by omega) S2 rfl
        simpa [h9, h8] using this
      refine Ev.igt (fun e4 => ?_) (fun e4 => ?_)
      · have q : ¬ t.length ≤ 40 := by intro h9; exact absurd e4 (by show ¬ (Int.ofNat 40 < (t.length : Int)); have : Int.ofNat 40 = 40 := rfl; omega)
        refine yg ?_; refine yg ?_; refine yg ?_; refine yg ?_; refine ap ?_; refine yg ?_; refine yg ?_; refine yg ?_; refine yg ?_; refine ap ?_; refine yt ?_
        exact Ev.ret ⟨by simp [q], dp⟩
      · have q : t.length ≤ 40 := by
          rcases Nat.lt_or_ge 40 t.length with h9 | h9
          · exact absurd (show (40 : Int) < (t.length : Int) by omega) e4
          · exact h9
        refine zf ?_; refine wf ?_; refine zf ?_; refine wl ?_; refine zf ?_
        refine Ev.op (a1.2.len _) ?_
        refine zf ?_
        refine Ev.igt (fun e5 => ?_) (fun e5 => ?_)
        · have q5 : ¬ ns.length ≤ 10 := by intro h9; exact absurd e5 (by show ¬ (Int.ofNat 10 < (ns.length : Int)); have : Int.ofNat 10 = 10 := rfl; omega)
          refine aq ?_; refine yg ?_; refine yg ?_; refine yg ?_; refine yg ?_; refine ap ?_; refine yt ?_
          exact Ev.ret ⟨by simp [q5], dp⟩
        · have q5 : ns.length ≤ 10 := by
            rcases Nat.lt_or_ge 10 ns.length with h9 | h9
            · exact absurd (show (10 : Int) < (ns.length : Int) by omega) e5
            · exact h9
          refine aq ?_; refine zf ?_; refine wf ?_; refine zf ?_; refine wl ?_; refine zf ?_
          refine Ev.op (a2.2.len _) ?_
          refine zf ?_
          refine Ev.igt (fun e6 => ?_) (fun e6 => ?_)
          · have q6 : ¬ ts.length ≤ 10 := by intro h9; exact absurd e6 (by show ¬ (Int.ofNat 10 < (ts.length : Int)); have : Int.ofNat 10 = 10 := rfl; omega)
            refine aq ?_; refine yt ?_
            exact Ev.ret ⟨by simp [q6], dp⟩
          · have q6 : ts.length ≤ 10 := by
              rcases Nat.lt_or_ge 10 ts.length with h9 | h9
              · exact absurd (show (10 : Int) < (ts.length : Int) by omega) e6
              · exact h9
            refine aq ?_; refine yj ?_
            have := hfin (by simp [q]) (by simp [q5]) (by simp [q6])
            simpa [hz, q, q5, q6] using this
    · have e9 : fewQ z 100 = -1 := by unfold fewQ; rw [if_neg (by omega)]
      rw [e9]
      refine Ev.ilt (fun e3 => ?_) (fun e3 => absurd (show (-1 : Int) < Int.ofNat 0 by decide) e3)
      refine yt ?_
      exact Ev.ret ⟨by simp [hz], S2.dropL⟩
theorem small_loop : ∀ (r : List Node) (I : Im) (A Q L : Ls) (h : Hp) (b : Pos) (c : List DV) (s3 : DV) (cells : List DV) (ks : List Node) (i j : Nat), Fz I 6 s3 ks.length cells → NWL I ks cells → ks.length ≤ wide → ks.drop i = r → i ≤ ks.length →
    Sy I A Q ((b, some (.row .ex c)) :: L) h → c[5]? = some s3 →
    Ev (fun n => s9a8l (shD n) n (n - j) (.p b 0) (.i .i64 (i : Int)) h) (fun v h' => v = .b (smallL r) ∧ Sy I A Q L h')
  | [], I, A, Q, L, h, b, c, s3, cells, ks, i, j, F, NL, a3, hr, hi, S, g => by
    refine Ev.loop j (ll := fun n p => s9a8l (shD n) n p (.p b 0) (.i .i64 (i : Int)) h) (bb := fun n p => s9a8b (shD n) n (s9a8l (shD n) n p) (.p b 0) (.i .i64 (i : Int)) h) (fun _ _ => rfl) ?_
    have hl2 : i = ks.length := by
      have := congrArg List.length hr
      simp at this
      omega
    unfold s9a8b
    refine Ev.fld (Ev.ldL S (List.Mem.head _) (by simpa using g) F.one ?_)
    refine Ev.op (F.len _) (Ev.ilt (fun e1 => ?_) (fun e1 => ?_))
    · omega
    · refine yj ?_
      unfold s9a6
      exact Ev.ret ⟨rfl, S.dropL⟩
  | x :: r, I, A, Q, L, h, b, c, s3, cells, ks, i, j, F, NL, a3, hr, hi, S, g => by
    refine Ev.loop j (ll := fun n p => s9a8l (shD n) n p (.p b 0) (.i .i64 (i : Int)) h) (bb := fun n p => s9a8b (shD n) n (s9a8l (shD n) n p) (.p b 0) (.i .i64 (i : Int)) h) (fun _ _ => rfl) ?_
    have hx : ks[i]? = some x := by
      have := congrArg (fun l => l[0]?) hr
      simpa using this
    have hlt := (List.getElem?_eq_some_iff.1 hx).1
    have e1' : ks.drop (i + 1) = r := by
      have := congrArg (List.drop 1) hr
      simpa [List.drop_drop] using this
    have hw : wide = 9223372036854775807 := rfl
    unfold s9a8b
    refine Ev.fld (Ev.ldL S (List.Mem.head _) (by simpa using g) F.one ?_)
    refine Ev.op (F.len _) (Ev.ilt (fun e1 => ?_) (fun e1 => ?_))
    · refine yt ?_
      refine Ev.fld (Ev.ldL S (List.Mem.head _) (by simpa using g) F.one ?_)
      obtain ⟨p1, q1', d1, u1, u2, u3⟩ := NWS.at F NL hx
      refine Ev.op (u1 _) (Ev.op (u3 _ _ _ _ S) ?_)
      refine Ev.call (small_ok x I A Q _ h d1 S u2) ?_
      rintro _ h1 ⟨rfl, S1⟩
      simp only [smallL]
      cases e : smallM x with
      | false =>
        refine ao ?_; refine yt ?_
        exact Ev.ret ⟨by simp, S1.dropL⟩
      | true =>
        refine an ?_; refine yj ?_
        refine Ev.iadd ?_
        rw [wadd1w (by omega)]
        refine (small_loop r I A Q L h1 b c s3 cells ks (i + 1) (j + 1) F NL a3 e1' (by omega) S1 g).mono ?_
        rintro v h' ⟨rfl, S2⟩
        exact ⟨by simp, S2⟩
    · omega
end

mutual
theorem NW.nv {I : Im} : ∀ {x : Node} {cs : List DV}, NW I x cs → smallM x = true → NV I x cs
  | .mk k t m ns ts ks, cs, ⟨s1, s2, s3, e, a, b, c, cells, f, n⟩, hs => by
    simp only [smallM, Bool.and_eq_true, decide_eq_true_eq] at hs
    obtain ⟨h0, h1, h2, h3, h4, h5, h6⟩ := hs
    have hl : lim = 100000000000 := rfl
    have hk : ks.length ≤ 100 := by
      have : ∀ l : List Node, l.length ≤ szL l := by
        intro l
        induction l with
        | nil => simp [szL]
        | cons x l ih => have := sz_pos x; simp [szL]; omega
      have := this ks
      simp [sz] at h0
      omega
    exact ⟨s1, s2, s3, e, ⟨by omega, a.2⟩, ⟨by omega, b.2⟩, by omega, cells, f, NWL.nv n h6⟩
theorem NWL.nv {I : Im} : ∀ {l : List Node} {cells : List DV}, NWL I l cells → smallL l = true → NVL I l cells
  | [], _, e, _ => e
  | x :: l, _, ⟨c, rest, e, a, b⟩, hs => by
    simp only [smallL, Bool.and_eq_true] at hs
    exact ⟨c, rest, e, NW.nv a hs.1, NWL.nv b hs.2⟩
end

end Go.Dd

/- Dd, part Z2: ParseWhole runs to true. -/
set_option linter.unusedVariables false
set_option linter.unusedSimpArgs false
set_option maxRecDepth 100000
namespace Go.Dd
open Go.Proofs

theorem readM_lx {H : PF} {f : Nat} {lx : List Tok × Int × Int} (h : lx.2.2 = 0) : readM H f lx = readM H f (lx.1, 0, 0) := by
  unfold readM
  rw [if_pos h, if_pos rfl]

/-- A source of at most 2000 bytes is read, or refused. -/
theorem doitD {u : List Nat} (hu : u.length ≤ 2000) : ∃ lx res, lexM 2001 2001 u = some lx ∧ readM doitS 2004 lx = some res ∧ (res.2.2 = 0 → lx.2.2 = 0 ∧ lx.1.length ≤ 2001 ∧ Good lx.1 ∧ least lx.1 ≤ cnt res.1 ∧ cnt res.1 ≤ most lx.1) := by
  obtain ⟨lx, hl, hg⟩ := lexD hu
  by_cases e : lx.2.2 = 0
  · obtain ⟨g1, g2⟩ := hg e
    obtain ⟨x, a, e', h1, h2⟩ := readW (f := 2004) g1 (by omega) (by omega)
    refine ⟨lx, _, hl, (readM_lx e).trans h1, fun h => ⟨e, g2, g1, h2 h⟩⟩
  · refine ⟨lx, (zN, lx.2.1, lx.2.2), hl, ?_, fun h => absurd h e⟩
    unfold readM
    rw [if_neg e]

end Go.Dd

/- Dd, part B1: plain: what the program's parser says does not depend on where its tokens stand, but for a number right behind a sign. -/
set_option linter.unusedVariables false
set_option linter.unusedSimpArgs false
set_option maxRecDepth 100000
namespace Go.Dd

section
variable {α β : Type} {V : α → α → Prop} {W : β → β → Prop}
end

variable {s s' : PSt}

end Go.Dd

/- Dd, part B2: plain: a token is the same, whatever else stands behind it. -/
set_option linter.unusedVariables false
set_option linter.unusedSimpArgs false
set_option maxRecDepth 100000
namespace Go.Dd

end Go.Dd

/- Dd, part B3: plain: a source with blanks and remarks ahead of its tokens has the same tokens. -/
set_option linter.unusedVariables false
set_option linter.unusedSimpArgs false
set_option maxRecDepth 100000
namespace Go.Dd

/-! ### Blanks and remarks put in -/

end Go.Dd

/- Dd, part Y1: the document's parser: its small methods. -/
set_option linter.unusedVariables false
set_option linter.unusedSimpArgs false
set_option maxRecDepth 100000
namespace Go.Dd
open Go.Proofs

/-! ### What it says -/

/-! ### The walks -/

section
variable {I : Im} {A L : Ls} {h : Hp} {p : Pos} {s : DV} {i : Nat} {st : PSt}

end
end Go.Dd

/- Dd, part Y2: the document's parser: messages. -/
set_option linter.unusedVariables false
set_option linter.unusedSimpArgs false
set_option maxRecDepth 100000
namespace Go.Dd
open Go.Proofs

end Go.Dd

/- Dd, part Y3: the document's parser: literals, statements, blocks, primaries. -/
set_option linter.unusedVariables false
set_option linter.unusedSimpArgs false
set_option maxRecDepth 100000
namespace Go.Dd
open Go.Proofs

end Go.Dd

/- Dd, part Y4: the document's parser: expressions; a source as a node. -/
set_option linter.unusedVariables false
set_option linter.unusedSimpArgs false
set_option maxRecDepth 100000
namespace Go.Dd
open Go.Proofs

section
variable {I : Im} {A L : Ls} {h : Hp} {p : Pos} {s : DV} {i : Nat} {st : PSt}

end

end Go.Dd

/- Dd, part B4: plain: the document's parser says what the program's says. -/
set_option linter.unusedVariables false
set_option linter.unusedSimpArgs false
set_option maxRecDepth 100000
namespace Go.Dd

section
variable {α α' β β' : Type} {V : α → α' → Prop} {W : β → β' → Prop} {e : Int}
end

variable {a b : PSt}

end Go.Dd

/- Dd, part B5: plain: the document's parser says what the program's says: all of it. -/
set_option linter.unusedVariables false
set_option linter.unusedSimpArgs false
set_option maxRecDepth 100000
namespace Go.Dd

variable {a b : PSt}

end Go.Dd

/- Dd, part Z5: ParseBlanks runs to true. -/
set_option linter.unusedVariables false
set_option linter.unusedSimpArgs false
set_option maxRecDepth 100000
namespace Go.Dd
open Go.Proofs

end Go.Dd

/- Dd, part B6: plain: a method behind a pattern of one name. -/
set_option linter.unusedVariables false
set_option linter.unusedSimpArgs false
set_option maxRecDepth 100000
namespace Go.Dd

/-! ### Tokens as the lexer makes them -/

/-! ### A source further on -/

/-! ### A method is read, or refused -/

end Go.Dd

/- Dd, part P17: show's told and Doit; what is read, as a function of the text. -/
set_option linter.unusedVariables false
set_option linter.unusedSimpArgs false
set_option maxRecDepth 100000
namespace Go.Dd
open Go.Proofs

def Node.temps : Node → List (List Nat) | .mk _ _ _ _ ts _ => ts
noncomputable def lexA (u : List Nat) : List Tok × Int × Int := (lexM 2001 2001 u).getD ([], 0, 0)
noncomputable def doitA (u : List Nat) : Node × Int × Int := (readM doitS 2004 (lexA u)).getD (zN, 0, 0)
theorem lex_long {u : List Nat} (h : 2000 < u.length) : lexM 2001 2001 u = some ([], 0, 12) := by
  unfold lexM
  rw [if_pos h]

theorem lexA_eq (u : List Nat) : lexM 2001 2001 u = some (lexA u) := by
  unfold lexA
  by_cases h : u.length ≤ 2000
  · obtain ⟨lx, h1, _⟩ := lexD h
    rw [h1]; rfl
  · rw [lex_long (by omega)]; rfl

theorem doitA_eq (u : List Nat) : readM doitS 2004 (lexA u) = some (doitA u) := by
  unfold doitA
  by_cases h : u.length ≤ 2000
  · obtain ⟨lx, res, h1, h2, _⟩ := doitD h
    have e : lexA u = lx := by unfold lexA; rw [h1]; rfl
    rw [e, h2]; rfl
  · have e : lexA u = ([], 0, 12) := by unfold lexA; rw [lex_long (by omega)]; rfl
    rw [e]; rfl

/-- A text, if it is read as the node. -/
def toldA (s : List Nat) (x : Node) (r : Node × Int × Int) : List Nat × Int := if r.2.2 = 0 ∧ nEq x r.1 = true then (s, 0) else ([], 1)

/-- The source of statements. -/
noncomputable def showD (x : Node) : List Nat × Int := toldA (bodyTx x.temps (txs x.kids)) x (doitA (bodyTx x.temps (txs x.kids)))

theorem enter22 (n : Nat) (x y z w : DV) (h : Hp) : shD (n + 1) 22 [x, y, z, w] h = s22 (shD n) n x y z w h := by kernel_rfl
theorem enter13 (n : Nat) (x : DV) (h : Hp) : shD (n + 1) 13 [x] h = s13 (shD n) n x h := by kernel_rfl

section
variable {I : Im} {A L : Ls} {h : Hp}

theorem told_ok {Q : Ls} {x y : Node} {c d : List DV} {s : List Nat} {a e : Int} (S : Sy I A Q L h) (N : NV I x c) (M : NV I y d) :
    Ev (fun n => shD n 22 [.s s, .a c, .a d, .i .i64 e] h) (fun v h' => v = .t [.s (toldA s x (y, a, e)).1, .i .i64 (toldA s x (y, a, e)).2] ∧ Sy I A Q L h') := by
  obtain ⟨c1, o1, b1⟩ := N.shape
  obtain ⟨c2, o2, b2⟩ := M.shape
  refine Ev.enter (fun n => enter22 n _ _ _ _ h) ?_
  unfold s22
  refine Ev.box S rfl (fun p h1 S1 => ?_)
  refine Ev.box S1 rfl (fun q h2 S2 => ?_)
  refine Ev.ine (fun e1 => ?_) (fun e1 => ?_)
  · have e1' : ¬ e = 0 := e1
    refine yg ?_; refine yg ?_; refine yg ?_; refine yg ?_; refine ap ?_; refine yt ?_
    exact Ev.ret ⟨by simp [toldA, e1'], dp⟩
  · have e1' : e = 0 := e1
    refine zf ?_; refine ws ?_; refine zf ?_; refine ws ?_; refine zf ?_
    refine Ev.call (sameP_ok x y I A Q _ _ c d (by assumption) N M) ?_
    rintro _ h3 ⟨rfl, S3⟩
    cases en : nEq x y with
    | true =>
      refine zf ?_; refine an ?_; refine aq ?_; refine yj ?_
      exact Ev.ret ⟨by simp [toldA, e1', en], dp⟩
    | false =>
      refine zf ?_; refine ao ?_; refine aq ?_; refine yt ?_
      exact Ev.ret ⟨by simp [toldA, e1', en], dp⟩

theorem Doit_show {x : Node} {cs : List DV} (S : Sy I A [] L h) (N : NV I x cs) (T : ∀ y ∈ x.kids, TxOk y) (hl : (bodyTx x.temps (txs x.kids)).length ≤ lim) (hb : ∀ c ∈ bodyTx x.temps (txs x.kids), c < 256) :
    Ev (fun n => shD n 13 [.a cs] h) (fun v h' => v = .t [.s (showD x).1, .i .i64 (showD x).2] ∧ Sy I A [] L h') := by
  obtain ⟨c1, o1, b1⟩ := N.shape
  have N0 := N
  obtain ⟨k, t, m, ns, ts, ks⟩ := x
  have hl' : (bodyTx ts (txs ks)).length ≤ 100000000000 := hl
  refine Ev.enter (fun n => enter13 n _ h) ?_
  unfold s13
  refine Ev.box S rfl (fun p h1 S1 => ?_)
  refine Ev.ldsL S1 (List.Mem.head _) c1 o1 ?_
  refine Ev.call (bodyTx_ok S1 N0 T hl') ?_
  rintro _ h2 ⟨rfl, S2⟩
  refine Ev.call (Doit_ok S2 hl hb 2001 2001 2004 (by simp [lim]) (by simp [lim]) _ (lexA_eq _) _ (doitA_eq _)) ?_
  rintro _ h3 ⟨J, ds, rfl, g3, S3, N3⟩
  obtain ⟨c3, o3, b3⟩ := N3.shape
  refine wx ?_; refine wx ?_; refine wx ?_; refine wa fun _ _ _ => ?_; refine wt fun _ _ => ?_; refine ws ?_; refine ws ?_
  refine Ev.call (told_ok (a := (doitA (bodyTx ts (txs ks))).2.1) (by assumption) (N0.mono g3) N3) ?_
  rintro _ h5 ⟨rfl, S5⟩
  refine wx ?_; refine wx ?_
  exact Ev.ret ⟨rfl, (dp : Sy J A [] L _).weak g3⟩
end

end Go.Dd

/- Dd, part P18: plain: the texts of nodes hold bytes, and are not too long. -/
set_option linter.unusedVariables false
set_option linter.unusedSimpArgs false
set_option maxRecDepth 100000
namespace Go.Dd
open Go.Proofs

def AB (l : List Nat) : Prop := ∀ c ∈ l, c < 256

theorem AB.nil : AB [] := fun c h => by cases h
theorem AB.cons {x : Nat} {l : List Nat} (h : x < 256) (H : AB l) : AB (x :: l) := fun c hc => by
  rcases List.mem_cons.1 hc with rfl | hc
  · exact h
  · exact H c hc
theorem AB.app {l k : List Nat} (H : AB l) (K : AB k) : AB (l ++ k) := fun c hc => by
  rcases List.mem_append.1 hc with hc | hc
  · exact H c hc
  · exact K c hc

theorem AB.join {sep : List Nat} (h : AB sep) : ∀ {l : List (List Nat)}, (∀ x ∈ l, AB x) → AB (joinN sep l)
  | [], _ => AB.nil
  | [x], H => H x (by simp)
  | x :: y :: l, H => (H x (by simp)).app (h.app (AB.join h (l := y :: l) fun z hz => H z (by simp [hz])))

theorem AB.repl {c : Nat} {new : List Nat} (h : AB new) : ∀ {l : List Nat}, AB l → AB (replN c new l)
  | [], _ => AB.nil
  | x :: l, H => by
    have ih := AB.repl h (c := c) (l := l) fun z hz => H z (by simp [hz])
    show AB (bif Nat.beq x c then new ++ replN c new l else x :: replN c new l)
    cases Nat.beq x c with
    | true => exact h.app ih
    | false => exact AB.cons (H x (by simp)) ih

theorem AB.digs : ∀ (f n : Nat) (acc : List Nat), AB acc → AB (digsN f n acc)
  | 0, n, acc, H => H
  | f + 1, n, acc, H => by
    show AB (bif Nat.ble 10 n then digsN f (n / 10) ((48 + n % 10) :: acc) else (48 + n) :: acc)
    have h1 : 48 + n % 10 < 256 := by omega
    cases e : Nat.ble 10 n with
    | true => exact AB.digs f _ _ (AB.cons h1 H)
    | false =>
      have : ¬ 10 ≤ n := fun h => by rw [Nat.ble_eq_true_of_le h] at e; cases e
      exact AB.cons (by omega) H

theorem AB.itoa (n : Int) : AB (itoaN n) := by
  cases n with
  | ofNat n => exact AB.digs _ _ _ AB.nil
  | negSucc n => exact AB.cons (by omega) (AB.digs _ _ _ AB.nil)

theorem AB.pieces {c : Nat} : ∀ {l acc : List Nat}, AB acc → AB l → ∀ x ∈ piecesN c acc l, AB x
  | [], acc, H, _, x, hx => by
    simp [piecesN] at hx
    subst hx; exact H
  | y :: l, acc, H, K, x, hx => by
    have K' : AB l := fun z hz => K z (by simp [hz])
    have H' : AB (acc ++ [y]) := H.app (AB.cons (K y (by simp)) AB.nil)
    unfold piecesN at hx
    cases e : Nat.beq y c with
    | true =>
      rw [e] at hx
      rcases List.mem_cons.1 hx with rfl | hx
      · exact H'
      · exact AB.pieces AB.nil K' x hx
    | false =>
      rw [e] at hx
      exact AB.pieces H' K' x hx

theorem AB.parts {s : List Nat} (H : AB s) : ∀ x ∈ partsTx s, AB x := fun x hx => AB.pieces AB.nil H x (List.dropLast_subset _ hx)

def ABk (l : List (Nat × List Nat)) : Prop := ∀ p ∈ l, AB p.2

theorem AB.within {l : List (Nat × List Nat)} (H : ABk l) (i h : Nat) : AB (withinTx l i h) := by
  unfold withinTx
  split
  · exact AB.nil
  · rename_i own x e
    have := H (own, x) (List.mem_of_getElem? e)
    split
    · exact AB.cons (by omega) (this.app (AB.cons (by omega) AB.nil))
    · exact this

theorem AB.keys {a : List (Nat × List Nat)} (H : ABk a) : ∀ {ps : List (List Nat)} {i : Nat}, (∀ x ∈ ps, AB x) → ∀ x ∈ keysTx ps a i, AB x
  | [], i, _, x, hx => by simp [keysTx] at hx
  | p :: ps, i, K, x, hx => by
    simp only [keysTx, List.mem_cons] at hx
    rcases hx with rfl | hx
    · exact (K p (by simp)).app (AB.cons (by omega) (AB.within H _ _))
    · exact AB.keys H (fun z hz => K z (by simp [hz])) x hx

theorem AB.message {s : List Nat} {a : List (Nat × List Nat)} (H : AB s) (K : ABk a) : AB (messageTx s a) := by
  unfold messageTx
  split
  · exact H
  · split
    · exact H.app (AB.cons (by omega) (AB.within K _ _))
    · exact AB.join (AB.cons (by omega) AB.nil) (AB.keys K H.parts)

theorem AB.send {s : List Nat} {a : List (Nat × List Nat)} (H : AB s) (K : ABk a) : AB (sendTx s a) := by
  unfold sendTx
  split
  · exact AB.nil
  · exact (AB.within K _ _).app (AB.cons (by omega) (AB.message H fun p hp => K p (List.mem_of_mem_drop hp)))

theorem AB.body {ts kids : List (List Nat)} (H : ∀ x ∈ ts, AB x) (K : ∀ x ∈ kids, AB x) : AB (bodyTx ts kids) := by
  unfold bodyTx
  refine AB.app ?_ (AB.join (AB.cons (by omega) (AB.cons (by omega) AB.nil)) K)
  split
  · exact AB.nil
  · exact AB.cons (by omega) (AB.cons (by omega) ((AB.join (AB.cons (by omega) AB.nil) H).app (AB.cons (by omega) (AB.cons (by omega) (AB.cons (by omega) AB.nil)))))

theorem AB.names : ∀ {l : List (List Nat)}, (∀ x ∈ l, AB x) → AB (namesTx l)
  | [], _ => AB.nil
  | p :: l, H => AB.cons (by omega) ((H p (by simp)).app (AB.cons (by omega) (AB.names fun z hz => H z (by simp [hz]))))

mutual
/-- A node of bytes. -/
def By : Node → Prop
  | .mk k t m ns ts ks => AB t ∧ (∀ x ∈ ns, AB x) ∧ (∀ x ∈ ts, AB x) ∧ ByL ks
def ByL : List Node → Prop
  | [] => True
  | x :: l => By x ∧ ByL l
end

def NfB (x : Nf) : Prop := AB x.t ∧ AB x.tx ∧ ABk x.ks

theorem AB.series {l : List Nf} (H : ∀ x ∈ l, NfB x) : AB (seriesTx l) := by
  unfold seriesTx
  split
  · rename_i a b r
    refine AB.app (AB.send (H b (by simp)).1 ?_) (AB.join AB.nil ?_)
    · intro p hp
      rcases List.mem_cons.1 hp with rfl | hp
      · exact (H a (by simp)).2.1
      · exact (H b (by simp)).2.2 p hp
    · intro x hx
      obtain ⟨y, hy, rfl⟩ := List.mem_map.1 hx
      have := H y (by simp [hy])
      exact AB.cons (by omega) (AB.cons (by omega) (AB.message this.1 this.2.2))
  · exact AB.nil

mutual
theorem By.nf : ∀ {x : Node}, By x → NfB (nf x)
  | .mk k t m ns ts ks, ⟨h1, h2, h3, h4⟩ => by
    have K := ByL.nf h4
    have Kt : ∀ x ∈ (nfL ks).map Nf.tx, AB x := fun x hx => by
      obtain ⟨y, hy, rfl⟩ := List.mem_map.1 hx
      exact (K y hy).2.1
    have Kh : ABk ((nfL ks).map Nf.ht) := fun p hp => by
      obtain ⟨y, hy, rfl⟩ := List.mem_map.1 hp
      exact (K y hy).2.1
    refine ⟨h1, ?_, Kh⟩
    show AB (txTx k t m ns ts (nfL ks))
    unfold txTx
    split
    · exact AB.itoa m
    split
    · exact AB.cons (by omega) ((AB.repl (AB.cons (by omega) (AB.cons (by omega) AB.nil)) h1).app (AB.cons (by omega) AB.nil))
    split
    · exact AB.cons (by omega) h1
    split
    · exact AB.cons (by omega) (AB.cons (by omega) ((AB.join (AB.cons (by omega) AB.nil) Kt).app (AB.cons (by omega) AB.nil)))
    split
    · exact h1.app (AB.cons (by omega) (AB.cons (by omega) (AB.cons (by omega) (AB.cons (by omega) (AB.join AB.nil Kt)))))
    split
    · exact AB.cons (by omega) (AB.join AB.nil Kt)
    split
    · exact AB.send h1 Kh
    split
    · exact AB.series K
    split
    · refine AB.cons (by omega) (AB.app ?_ ((AB.body h3 Kt).app (AB.cons (by omega) AB.nil)))
      split
      · exact AB.nil
      · exact (AB.names h2).app (AB.cons (by omega) (AB.cons (by omega) AB.nil))
    · exact h1
theorem ByL.nf : ∀ {l : List Node}, ByL l → ∀ y ∈ nfL l, NfB y
  | [], _ => fun y hy => by cases hy
  | x :: l, ⟨h1, h2⟩ => fun y hy => by
    have p := By.nf h1
    have q := ByL.nf h2
    rcases List.mem_cons.1 (show y ∈ Go.Dd.nf x :: nfL l from hy) with e | hy
    · rw [e]; exact p
    · exact q y hy
end

theorem ByL.mem : ∀ {l : List Node}, ByL l → ∀ y ∈ l, By y
  | [], _ => fun y hy => by cases hy
  | x :: l, h => fun y hy => by
    rcases List.mem_cons.1 hy with e | hy
    · rw [e]; exact h.1
    · exact ByL.mem h.2 y hy

theorem By.body {x : Node} (h : By x) : AB (bodyTx x.temps (txs x.kids)) := by
  obtain ⟨k, t, m, ns, ts, ks⟩ := x
  obtain ⟨h1, h2, h3, h4⟩ := h
  refine AB.body h3 fun z hz => ?_
  obtain ⟨y, hy, rfl⟩ := List.mem_map.1 hz
  exact (By.nf (h4.mem y hy)).2.1

/-! ### Lengths -/

theorem digs_len : ∀ (f n : Nat) (acc : List Nat), (digsN f n acc).length ≤ f + acc.length
  | 0, n, acc => by simp [digsN]
  | f + 1, n, acc => by
    show (bif Nat.ble 10 n then digsN f (n / 10) ((48 + n % 10) :: acc) else (48 + n) :: acc).length ≤ _
    cases Nat.ble 10 n with
    | false => simp; omega
    | true =>
      have := digs_len f (n / 10) ((48 + n % 10) :: acc)
      simp at this ⊢; omega

theorem itoa_len (n : Int) : (itoaN n).length ≤ 21 := by
  cases n with
  | ofNat n =>
    have := digs_len 20 n []
    show (digsN 20 n []).length ≤ 21
    simp at this; omega
  | negSucc n =>
    have := digs_len 20 (Nat.succ n) []
    show (45 :: digsN 20 (Nat.succ n) []).length ≤ 21
    simp at this ⊢; omega

theorem repl_len {c : Nat} {a b : Nat} : ∀ (l : List Nat), (replN c [a, b] l).length ≤ 2 * l.length
  | [] => by simp [replN]
  | x :: l => by
    have := repl_len (c := c) (a := a) (b := b) l
    show (bif Nat.beq x c then [a, b] ++ replN c [a, b] l else x :: replN c [a, b] l).length ≤ _
    cases Nat.beq x c with
    | true => simp; omega
    | false => simp; omega

def total (l : List (List Nat)) : Nat := (l.map List.length).sum

theorem join_len (sep : List Nat) : ∀ (l : List (List Nat)), (joinN sep l).length ≤ total l + l.length * sep.length
  | [] => by simp [joinN]
  | [x] => by simp [joinN, total]
  | x :: y :: l => by
    have := join_len sep (y :: l)
    simp only [joinN, List.length_append, total, List.map_cons, List.sum_cons, List.length_cons] at this ⊢
    rw [show (l.length + 1 + 1) * sep.length = (l.length + 1) * sep.length + sep.length by rw [Nat.add_mul _ 1]; omega]
    omega

theorem pieces_total {c : Nat} : ∀ (l acc : List Nat), total (piecesN c acc l) = acc.length + l.length ∧ (piecesN c acc l).length ≤ l.length + 1
  | [], acc => by simp [piecesN, total]
  | x :: l, acc => by
    have h1 := pieces_total (c := c) l []
    have h2 := pieces_total (c := c) l (acc ++ [x])
    unfold piecesN
    cases Nat.beq x c with
    | true =>
      simp only [cond_true, total, List.map_cons, List.sum_cons, List.length_cons, List.length_append] at h1 ⊢
      simp at h1 ⊢
      omega
    | false =>
      simp only [cond_false, List.length_cons]
      simp at h2
      omega

theorem dropLast_total : ∀ (l : List (List Nat)), total l.dropLast ≤ total l
  | [] => by simp
  | [x] => by simp [total]
  | x :: y :: l => by
    have := dropLast_total (y :: l)
    simp only [List.dropLast_cons_cons, total, List.map_cons, List.sum_cons] at this ⊢
    omega

theorem parts_len (s : List Nat) : total (partsTx s) ≤ s.length ∧ (partsTx s).length ≤ s.length := by
  obtain ⟨h1, h2⟩ := pieces_total (c := 58) s []
  have := dropLast_total (piecesN 58 [] s)
  unfold partsTx
  constructor
  · simp at h1; omega
  · simp; omega

theorem le_sum_of_mem' {x : Nat} : ∀ {l : List Nat}, x ∈ l → x ≤ l.sum
  | y :: l, h => by
    rcases List.mem_cons.1 h with rfl | h
    · simp
    · have := le_sum_of_mem' h; simp; omega

def tot2 (l : List (Nat × List Nat)) : Nat := (l.map fun p => p.2.length).sum

theorem within_len (l : List (Nat × List Nat)) (i h : Nat) : (withinTx l i h).length ≤ ((l[i]?).map fun p => p.2.length).getD 0 + 2 := by
  unfold withinTx
  split
  · rename_i e; rw [e]; simp
  · rename_i own x e
    rw [e]
    split <;> simp

theorem within_le (l : List (Nat × List Nat)) (i h : Nat) : (withinTx l i h).length ≤ tot2 l + 2 := by
  have h1 := within_len l i h
  have h2 : ((l[i]?).map fun p => p.2.length).getD 0 ≤ tot2 l := by
    cases e : l[i]? with
    | none => simp
    | some p =>
      simp only [Option.map_some, Option.getD_some]
      have hm := List.mem_of_getElem? e
      unfold tot2
      have : p.2.length ∈ l.map fun p => p.2.length := List.mem_map_of_mem hm
      exact le_sum_of_mem' this
  omega

theorem keys_len (a : List (Nat × List Nat)) : ∀ (ps : List (List Nat)) (i : Nat), total (keysTx ps a i) ≤ total ps + 3 * ps.length + tot2 (a.drop i)
  | [], i => by simp [keysTx, total]
  | p :: ps, i => by
    have ih := keys_len a ps (i + 1)
    have h1 := within_len a i 2
    have h2 : ((a[i]?).map fun p => p.2.length).getD 0 + tot2 (a.drop (i + 1)) ≤ tot2 (a.drop i) := by
      cases e : a[i]? with
      | none =>
        have h0 : a.length ≤ i := by simpa using e
        rw [List.drop_eq_nil_of_le h0, List.drop_eq_nil_of_le (by omega)]
        simp [tot2]
      | some q =>
        rw [drop_cons e]
        simp [tot2]
    simp only [keysTx, total, List.map_cons, List.sum_cons, List.length_append, List.length_cons] at ih ⊢
    omega

theorem message_len (s : List Nat) (a : List (Nat × List Nat)) : (messageTx s a).length ≤ 5 * s.length + tot2 a + 10 := by
  unfold messageTx
  split
  · omega
  · split
    · have := within_le a 0 1
      simp; omega
    · have h1 := join_len [32] (keysTx (partsTx s) a 0)
      have h2 := keys_len a (partsTx s) 0
      have h3 := keysTx_len (partsTx s) a 0
      obtain ⟨h4, h5⟩ := parts_len s
      simp at h1 h2
      omega

theorem send_len (s : List Nat) (a : List (Nat × List Nat)) : (sendTx s a).length ≤ 5 * s.length + tot2 a + 20 := by
  unfold sendTx
  split
  · simp
  · rename_i h0
    cases a with
    | nil => simp at h0
    | cons p a =>
      have h1 := message_len s a
      have h2 := within_len (p :: a) 0 (if kindTx s = 1 then 1 else 2)
      simp [tot2] at h1 h2 ⊢
      omega

theorem names_len : ∀ (l : List (List Nat)), (namesTx l).length ≤ total l + 2 * l.length
  | [] => by simp [namesTx]
  | p :: l => by
    have := names_len l
    simp [namesTx, total] at this ⊢
    omega

theorem body_len (ts kids : List (List Nat)) : (bodyTx ts kids).length ≤ total ts + ts.length + total kids + 2 * kids.length + 10 := by
  have h1 := join_len [32] ts
  have h2 := join_len [46, 32] kids
  simp at h1 h2
  unfold bodyTx
  split
  · simp; omega
  · simp; omega

theorem short_total : ∀ {l : List (List Nat)}, short l = true → total l ≤ 40 * l.length
  | [], _ => by simp [total]
  | x :: l, h => by
    simp only [short, List.all_cons, Bool.and_eq_true, decide_eq_true_eq] at h
    have := short_total (l := l) h.2
    simp [total] at this ⊢
    omega

/-- The length of a node's text, at most. -/
def WL (x : Node) : Nat := 2000 * sz x
def WLL (l : List Node) : Nat := 2000 * szL l

def NfW (x : Nf) (n : Nat) : Prop := x.tx.length ≤ n ∧ tot2 x.ks + 1900 ≤ n ∧ x.t.length ≤ 40

theorem further_len : ∀ (r : List Node), (∀ x ∈ r, NfW (nf x) (WL x)) → total ((nfL r).map fun x => 59 :: 32 :: messageTx x.t x.ks) ≤ WLL r
  | [], _ => by simp [nfL, total]
  | x :: r, H => by
    have ih := further_len r fun y hy => H y (by simp [hy])
    obtain ⟨_, h2, h3⟩ := H x (by simp)
    have h4 := message_len (nf x).t (nf x).ks
    simp only [nfL, List.map_cons, total, List.sum_cons, List.length_cons, WLL, szL, WL] at ih h2 ⊢
    omega

theorem total_tx : ∀ (l : List Node), (∀ x ∈ l, NfW (nf x) (WL x)) → total ((nfL l).map Nf.tx) ≤ WLL l ∧ tot2 ((nfL l).map Nf.ht) ≤ WLL l ∧ l.length ≤ szL l
  | [], _ => by simp [nfL, total, tot2, WLL, szL]
  | x :: l, H => by
    have ih := total_tx l fun y hy => H y (by simp [hy])
    obtain ⟨h1, _, _⟩ := H x (by simp)
    have hp := sz_pos x
    simp only [nfL, List.map_cons, total, tot2, List.sum_cons, WLL, szL, WL, Nf.ht, List.length_cons] at ih h1 ⊢
    omega

mutual
theorem small_len : ∀ {x : Node}, smallM x = true → NfW (nf x) (WL x)
  | .mk k t m ns ts ks, h => by
    simp only [smallM, Bool.and_eq_true, decide_eq_true_eq] at h
    obtain ⟨h0, h1, h2, h3, h4, h5, h6⟩ := h
    have K := smallL_len h6
    obtain ⟨t1, t2, t3⟩ := total_tx ks K
    have n1 := short_total h4
    have n2 := short_total h5
    have hsz : sz (.mk k t m ns ts ks) = 1 + szL ks := by rw [sz]
    have hwl : WL (.mk k t m ns ts ks) = 2000 + WLL ks := by simp [WL, WLL, hsz]; omega
    have hks : szL ks ≤ 99 := by omega
    have hn : nf (.mk k t m ns ts ks) = ⟨k, t, txTx k t m ns ts (nfL ks), (nfL ks).map Nf.ht⟩ := by rw [nf]
    have hz : (nfL ks).length = ks.length := by rw [nfL_eq]; simp
    rw [hn, hwl]
    refine ⟨?_, by show tot2 ((nfL ks).map Nf.ht) + 1900 ≤ _; omega, h1⟩
    show (txTx k t m ns ts (nfL ks)).length ≤ _
    unfold txTx
    split
    · have := itoa_len m; omega
    split
    · have := repl_len (c := 39) (a := 39) (b := 39) t
      simp; omega
    split
    · simp; omega
    split
    · have := join_len [32] ((nfL ks).map Nf.tx)
      simp [hz] at this ⊢; omega
    split
    · have := join_len [] ((nfL ks).map Nf.tx)
      simp [hz] at this ⊢; omega
    split
    · have := join_len [] ((nfL ks).map Nf.tx)
      simp [hz] at this ⊢; omega
    split
    · have := send_len t ((nfL ks).map Nf.ht)
      omega
    split
    · cases ks with
      | nil => simp [nfL, seriesTx]
      | cons a ks =>
        cases ks with
        | nil => simp [nfL, seriesTx]
        | cons b r =>
          obtain ⟨a1, a2, a3⟩ := K a (by simp)
          obtain ⟨b1, b2, b3⟩ := K b (by simp)
          have hr := further_len r fun x hx => K x (by simp [hx])
          have hs := send_len (nf b).t ((nf a).ht :: (nf b).ks)
          have hj := join_len [] ((nfL r).map fun x => 59 :: 32 :: messageTx x.t x.ks)
          have hw : WLL (a :: b :: r) = WL a + WL b + WLL r := by simp [WLL, WL, szL]; omega
          rw [hw]
          simp only [nfL, seriesTx, List.length_append]
          simp only [List.length_nil, Nat.mul_zero, Nat.add_zero] at hj
          simp only [tot2, List.map_cons, List.sum_cons, Nf.ht] at hs b2
          have hwb : WL b = 2000 * sz b := rfl
          simp only [Nf.ht]
          omega
    split
    · have hb := body_len ts ((nfL ks).map Nf.tx)
      have hnm := names_len ns
      simp [hz] at hb
      split
      · simp; omega
      · simp; omega
    · omega
theorem smallL_len : ∀ {l : List Node}, smallL l = true → ∀ x ∈ l, NfW (nf x) (WL x)
  | [], _ => fun x hx => by cases hx
  | y :: l, h => by
    simp only [smallL, Bool.and_eq_true] at h
    have p := small_len h.1
    have q := smallL_len h.2
    intro x hx
    rcases List.mem_cons.1 hx with e | hx
    · rw [e]; exact p
    · exact q x hx
end

mutual
/-- Its numbers are ints. -/
def Nm : Node → Prop
  | .mk k t m ns ts ks => (-9223372036854775808 ≤ m ∧ m ≤ 9223372036854775807) ∧ NmL ks
def NmL : List Node → Prop
  | [] => True
  | x :: l => Nm x ∧ NmL l
end

mutual
theorem small_sk : ∀ {x : Node}, smallM x = true → Nm x → Sk x
  | .mk k t m ns ts ks, h, hm => by
    simp only [smallM, Bool.and_eq_true, decide_eq_true_eq] at h
    obtain ⟨h0, h1, h2, h3, h4, h5, h6⟩ := h
    unfold Nm at hm
    have t3 : ∀ l : List Node, l.length ≤ szL l := by
      intro l
      induction l with
      | nil => simp [szL]
      | cons x l ih => have := sz_pos x; simp [szL]; omega
    have := t3 ks
    have hsz : sz (.mk k t m ns ts ks) = 1 + szL ks := by rw [sz]
    have hl : lim = 100000000000 := rfl
    unfold Sk
    exact ⟨by omega, hm.1.1, hm.1.2, by omega, smallL_sk h6 hm.2⟩
theorem smallL_sk : ∀ {l : List Node}, smallL l = true → NmL l → SkL l
  | [], _, _ => trivial
  | y :: l, h, hm => by
    simp only [smallL, Bool.and_eq_true] at h
    unfold NmL at hm
    exact ⟨small_sk h.1 hm.1, smallL_sk h.2 hm.2⟩
end

theorem small_body {x : Node} (h : smallM x = true) : (bodyTx x.temps (txs x.kids)).length ≤ lim := by
  obtain ⟨k, t, m, ns, ts, ks⟩ := x
  simp only [smallM, Bool.and_eq_true, decide_eq_true_eq] at h
  obtain ⟨h0, h1, h2, h3, h4, h5, h6⟩ := h
  obtain ⟨t1, t2, t3⟩ := total_tx ks (smallL_len h6)
  have hb := body_len ts (txs ks)
  have n2 := short_total h5
  have hsz : sz (.mk k t m ns ts ks) = 1 + szL ks := by rw [sz]
  have e : txs ks = (nfL ks).map Nf.tx := ((map_tx ks).1).symm
  have hz : (txs ks).length = ks.length := by simp [txs]
  show (bodyTx ts (txs ks)).length ≤ 100000000000
  rw [← e] at t1
  have : WLL ks = 2000 * szL ks := rfl
  omega

end Go.Dd

/- Dd, part P19: what is handed in: nodes of any width. -/
set_option linter.unusedVariables false
set_option linter.unusedSimpArgs false
set_option maxRecDepth 100000
namespace Go.Dd
open Go.Proofs Go.RowKit

/-- What a heap holds. -/
noncomputable def imOf (h : Hp) : Im := fun b => h.bl.get b

theorem Ge.im {h h' : Hp} (g : Ge h h') : ILe (imOf h) (imOf h') := g

theorem Ro.sy {w : World} {ρ : Ren} {h : Hp} (R : Ro w ρ h) : Sy (imOf h) [] [] [] h where
  wf := R.wf
  im := fun b o e => e
  loc := fun b o m => by simp at m
  lt := fun b o m => by simp at m
  nd := by simp
  dj := fun b o m => by simp at m

theorem byte_list (bs : ByteArray) : AB (bs.data.toList.map (·.toNat)) := fun c hc => by
  obtain ⟨b, _, rfl⟩ := List.mem_map.1 hc
  exact b.toNat_lt

section
variable {H : Type} {enc : TypeId × Value → H} {w : World}

theorem flat_len : ∀ (rows : List (List DV)), (∀ r ∈ rows, r.length = 6) → rows.flatten.length = rows.length * 6
  | [], _ => rfl
  | r :: rows, h => by
    have := flat_len rows fun x hx => h x (by simp [hx])
    have h1 := h r (by simp)
    rw [List.flatten_cons, List.length_append, List.length_cons, this, h1]
    omega

/-- A slice of strings. -/
theorem open_strsN {n : Nat} {v : Value} {x : DataW H × List MemPlace} (hx : DataW.trod enc Tryz.prog w 0 (fun _ => true) true n 22 [v] = some x) {ρ : Ren} {h : Hp} (R : Ro w ρ h) :
    ∃ ρ' h' s, ∃ l : List (List Nat), Ro w ρ' h' ∧ Ge h h' ∧ Ext ρ ρ' ∧ VR ρ' s v ∧ (l.length ≤ wide ∧ Fz (imOf h') 1 s l.length (l.map .s)) ∧ ∀ x ∈ l, AB x := by
  rcases DataW.trod_slice Tryz.underlying22 hx with ⟨h1, _⟩ | ⟨a, len, cap, elems, rest, m, _, h1, _, _, h4, h5, h6, h7, _⟩
  · cases h1
    exact ⟨ρ, h, .l0, [], R, Ge.refl _, fun _ _ e => e, .l0, ⟨by simp, .inl ⟨.inl rfl, rfl, rfl⟩⟩, fun x hx => by cases hx⟩
  · cases h1
    have hc : Tryz.prog.cellsOf 9 = 1 := by kernel_rfl
    rw [hc] at h7
    let L : Loc := ⟨a.block, a.off, 0, a.spot⟩
    have ha : a = adr L 0 := rfl
    have hcell : ∀ i, i < len → ∃ bs : ByteArray, w.cell? (adr L i) = some (.string bs) := by
      intro i hi
      have e := h7 i hi
      rw [show elems[i]? = some elems[i] by simp [h6, hi]] at e
      simp only [Option.bind_eq_some_iff] at e
      obtain ⟨cs, e1, e2⟩ := e
      obtain ⟨c1, c2⟩ := cells_get e1
      obtain ⟨bs, rfl, _⟩ := DataW.trod_string Tryz.underlying9 e2
      have := c2 0 (by omega)
      rw [ha, adr_add, adr_add] at this
      refine ⟨bs, ?_⟩
      simpa using this
    let g : Nat → List Nat := fun i => match w.cell? (adr L i) with
      | some (.string bs) => bs.data.toList.map (·.toNat)
      | _ => []
    have hg : ∀ i, i < len → ∃ v', w.cell? (adr L i) = some v' ∧ VR ρ (.s (g i)) v' := by
      intro i hi
      obtain ⟨bs, e⟩ := hcell i hi
      refine ⟨_, e, ?_⟩
      simp only [g, e]
      exact .s _ bs rfl
    obtain ⟨R', ext⟩ := R.add L ((List.range len).map fun i => DV.s (g i)) rfl (fun i v hv => by
      simp only [List.getElem?_map, Option.map_eq_some_iff] at hv
      obtain ⟨j, hj, rfl⟩ := hv
      obtain ⟨hj1, hj2⟩ := List.getElem?_eq_some_iff.1 hj
      simp at hj1 hj2
      subst hj2
      exact hg i hj1)
    refine ⟨_, _, .l h.next 0 len cap, (List.range len).map g, R', nw_ge R.wf _, ext, ?_, ⟨?_, .inr ⟨h.next, 0, cap, .ro, _, [], ?_, ?_, nw_get h _, ?_, ?_, ?_⟩⟩, ?_⟩
    · exact .l h.next 0 len cap L (upd_same _ _ _)
    · simp
      have : maxLen = 9223372036854775807 := by rfl
      have : wide = 9223372036854775807 := by rfl
      omega
    · simp
    · simpa using h4
    · simp [Function.comp_def]
    · simp
    · intro v hv
      obtain ⟨x, _, rfl⟩ := List.mem_map.1 hv
      rfl
    · intro x hx
      obtain ⟨i, hi, rfl⟩ := List.mem_map.1 hx
      have hi : i < len := by simpa using hi
      obtain ⟨bs, e⟩ := hcell i hi
      show AB (g i)
      simp only [g, e]
      exact byte_list bs

theorem NWL.app {I : Im} : ∀ {l l' : List Node} {c c' : List DV}, NWL I l c → NWL I l' c' → NWL I (l ++ l') (c ++ c')
  | [], l', c, c', e, H => by
    have e : c = [] := e
    subst e; simpa using H
  | x :: l, l', _, c', ⟨c, rest, e, a, b⟩, H => by
    subst e
    exact ⟨c, rest ++ c', by simp, a, NWL.app b H⟩

theorem ByL.snoc : ∀ {l : List Node} {x : Node}, ByL l → By x → ByL (l ++ [x])
  | [], x, _, h => ⟨h, trivial⟩
  | y :: l, x, H, h => ⟨H.1, ByL.snoc H.2 h⟩
theorem NmL.snoc : ∀ {l : List Node} {x : Node}, NmL l → Nm x → NmL (l ++ [x])
  | [], x, _, h => ⟨h, trivial⟩
  | y :: l, x, H, h => ⟨H.1, NmL.snoc H.2 h⟩

theorem lit_range {k : Int} (h : (Lit.int .i64 k).wf = true) : -9223372036854775808 ≤ k ∧ k ≤ 9223372036854775807 := by
  have h : (decide (IntKind.i64.min ≤ k) && decide (k ≤ IntKind.i64.max)) = true := h
  have e1 : IntKind.i64.min = -9223372036854775808 := by decide
  have e2 : IntKind.i64.max = 9223372036854775807 := by decide
  rw [e1, e2] at h
  simpa using h

/-- A node that is handed in. -/
theorem open_nodeN : ∀ (n : Nat) (cs : List Value) (x : DataW H × List MemPlace), DataW.trod enc Tryz.prog w 0 (fun _ => true) true n 25 cs = some x → ∀ {ρ : Ren} {h : Hp}, Ro w ρ h →
    ∃ ρ' h' ds, ∃ z : Node, Ro w ρ' h' ∧ Ge h h' ∧ Ext ρ ρ' ∧ VRs ρ' ds cs ∧ NW (imOf h') z ds ∧ By z ∧ Nm z
  | 0, cs, x, hx, ρ, h, R => by simp [DataW.trod] at hx
  | n + 1, cs, x, hx, ρ, h, R => by
    obtain ⟨xs, m, e0, _, hl, hxl, hf⟩ := DataW.trod_struct Tryz.underlying25 hx
    cases e0
    have hc : Tryz.prog.cellsOf 25 = 6 := by kernel_rfl
    have hc3 : Tryz.prog.cellsOf 3 = 1 := by kernel_rfl
    have hc9 : Tryz.prog.cellsOf 9 = 1 := by kernel_rfl
    have hc22 : Tryz.prog.cellsOf 22 = 1 := by kernel_rfl
    have hc23 : Tryz.prog.cellsOf 23 = 1 := by kernel_rfl
    rw [hc] at hl
    obtain ⟨v0, v1, v2, v3, v4, v5, rfl⟩ : ∃ v0 v1 v2 v3 v4 v5, cs = [v0, v1, v2, v3, v4, v5] := by
      match cs, hl with
      | [v0, v1, v2, v3, v4, v5], _ => exact ⟨_, _, _, _, _, _, rfl⟩
    have some : ∀ i, i < 6 → ∃ y, xs[i]? = some y := fun i hi => ⟨xs[i]'(by rw [hxl]; exact hi), by simp⟩
    obtain ⟨y0, g0⟩ := some 0 (by omega)
    obtain ⟨y1, g1⟩ := some 1 (by omega)
    obtain ⟨y2, g2⟩ := some 2 (by omega)
    obtain ⟨y3, g3⟩ := some 3 (by omega)
    obtain ⟨y4, g4⟩ := some 4 (by omega)
    obtain ⟨y5, g5⟩ := some 5 (by omega)
    have f0 := hf 0 _ rfl
    have f1 := hf 1 _ rfl
    have f2 := hf 2 _ rfl
    have f3 := hf 3 _ rfl
    have f4 := hf 4 _ rfl
    have f5 := hf 5 _ rfl
    simp only [hc3, hc9, hc22, hc23, List.drop_zero, List.drop_succ_cons, List.take_succ_cons, List.take_zero, g0, g1, g2, g3, g4, g5] at f0 f1 f2 f3 f4 f5
    obtain ⟨k, e0, _⟩ := DataW.trod_int Tryz.underlying3 f0
    obtain ⟨t, e1, _⟩ := DataW.trod_string Tryz.underlying9 f1
    obtain ⟨mm, e2, _, wm⟩ := DataW.trod_int Tryz.underlying3 f2
    have rm := lit_range wm
    cases e0; cases e1; cases e2
    obtain ⟨ρ1, h1, s1, l1, R1, G1, E1, V1, S1, B1⟩ := open_strsN f3 R
    obtain ⟨ρ2, h2, s2, l2, R2, G2, E2, V2, S2, B2⟩ := open_strsN f4 R1
    have fin : ∀ ρ3 h3 s3 (ks : List Node) cells, Ro w ρ3 h3 → Ge h2 h3 → Ext ρ2 ρ3 → VR ρ3 s3 v5 → ks.length ≤ wide → Fz (imOf h3) 6 s3 ks.length cells → NWL (imOf h3) ks cells → ByL ks → NmL ks →
        ∃ ρ' h' ds, ∃ z : Node, Ro w ρ' h' ∧ Ge h h' ∧ Ext ρ ρ' ∧ VRs ρ' ds [.int .i64 k, .string t, .int .i64 mm, v3, v4, v5] ∧ NW (imOf h') z ds ∧ By z ∧ Nm z := by
      intro ρ3 h3 s3 ks cells R3 G3 E3 V3 K3 F3 N3 Y3 M3
      refine ⟨ρ3, h3, [.i .i64 k, .s (t.data.toList.map (·.toNat)), .i .i64 mm, s1, s2, s3], .mk k (t.data.toList.map (·.toNat)) mm l1 l2 ks, R3, (G1.trans G2).trans G3, (E1.trans E2).trans E3, ?_,
        ⟨s1, s2, s3, rfl, ⟨S1.1, S1.2.mono ((G2.trans G3).im)⟩, ⟨S2.1, S2.2.mono G3.im⟩, K3, cells, F3, N3⟩, ⟨byte_list t, B1, B2, Y3⟩, ⟨rm, M3⟩⟩
      exact .cons _ _ _ _ (.i _ _) (.cons _ _ _ _ (.s _ t rfl) (.cons _ _ _ _ (.i _ _) (.cons _ _ _ _ ((V1.mono E2).mono E3) (.cons _ _ _ _ (V2.mono E3) (.cons _ _ _ _ V3 .nil)))))
    rcases DataW.trod_slice Tryz.underlying23 f5 with ⟨e5, _⟩ | ⟨a, len, cap, elems, rest, m', em, e5, _, _, q4, q5, q6, q7, _⟩
    · cases e5
      exact fin ρ2 h2 .l0 [] [] R2 (Ge.refl _) (fun _ _ e => e) .l0 (by simp) (.inl ⟨.inl rfl, rfl, rfl⟩) rfl trivial trivial
    · cases e5
      rw [hc] at q7
      let L : Loc := ⟨a.block, a.off, 0, a.spot⟩
      have ha : a = adr L 0 := rfl
      have pre : ∀ c, c ≤ len → ∃ (ρ3 : Ren) (h3 : Hp) (rows : List (List DV)) (ks : List Node), Ro w ρ3 h3 ∧ Ge h2 h3 ∧ Ext ρ2 ρ3 ∧ rows.length = c ∧ (ks.length = c ∧ NWL (imOf h3) ks rows.flatten ∧ (∀ r ∈ rows, r.length = 6) ∧ (∀ r ∈ rows, ∀ v ∈ r, v.one = true) ∧ ByL ks ∧ NmL ks) ∧
          ∀ (i j : Nat) u v, rows[i]? = Option.some u → u[j]? = Option.some v → ∃ v', w.cell? (adr L (i * 6 + j)) = Option.some v' ∧ VR ρ3 v v' := by
        intro c
        induction c with
        | zero => intro _; exact ⟨ρ2, h2, [], [], R2, Ge.refl _, fun _ _ e => e, rfl, ⟨rfl, rfl, fun u hu => by simp at hu, fun u hu => by simp at hu, trivial, trivial⟩, fun i j u v hu => by simp at hu⟩
        | succ c ih =>
          intro hcl
          obtain ⟨ρ3, h3, rows, ks, R3, G3, E3, l3, ⟨k3, N3, L3, O3, Y3, M3⟩, C3⟩ := ih (by omega)
          have e := q7 c (by omega)
          rw [show elems[c]? = Option.some (elems[c]'(by omega)) by simp] at e
          simp only [Option.bind_eq_some_iff] at e
          obtain ⟨cs, e1, e2⟩ := e
          obtain ⟨c1, c2⟩ := cells_get e1
          cases em
          obtain ⟨ρ4, h4, ds, z, R4, G4, E4, V4, N4, Y4, M4⟩ := open_nodeN m' cs _ e2 R3
          refine ⟨ρ4, h4, rows ++ [ds], ks ++ [z], R4, G3.trans G4, E3.trans E4, by simp [l3], ⟨by simp [k3], ?_, ?_, ?_, Y3.snoc Y4, M3.snoc M4⟩, ?_⟩
          · rw [List.flatten_append]
            refine (N3.mono G4.im).app ?_
            exact ⟨ds, [], by simp, N4, rfl⟩
          · intro u hu
            rcases List.mem_append.1 hu with hu | hu
            · exact L3 u hu
            · simp at hu
              subst hu
              exact N4.shape.1
          · intro u hu
            rcases List.mem_append.1 hu with hu | hu
            · exact O3 u hu
            · simp at hu
              subst hu
              exact N4.shape.2.1
          · intro i j u v hu hv
            by_cases hi : i < rows.length
            · rw [List.getElem?_append_left hi] at hu
              obtain ⟨v', h5, h6⟩ := C3 i j u v hu hv
              exact ⟨v', h5, h6.mono E4⟩
            · rw [List.getElem?_append_right (by omega)] at hu
              have hi' : i - rows.length = 0 := by
                cases hk : i - rows.length with
                | zero => rfl
                | succ k => rw [hk] at hu; simp at hu
              rw [hi'] at hu
              simp at hu
              subst hu
              obtain ⟨v', h5, h6⟩ := V4.get j v hv
              refine ⟨v', ?_, h6⟩
              have hj : j < 6 := by
                have := V4.length
                have h7 := (List.getElem?_eq_some_iff.1 hv).1
                omega
              have := c2 j hj
              rw [ha, adr_add, adr_add] at this
              rw [show i * 6 + j = 0 + c * 6 + j by omega, this]
              exact h5
      obtain ⟨ρ3, h3, rows, ks, R3, G3, E3, l3, ⟨k3, N3, l6, O3, Y3, M3⟩, C3⟩ := pre len (Nat.le_refl _)
      obtain ⟨R4, E4⟩ := R3.add L rows.flatten rfl (fun q v hq => by
        obtain ⟨i, j, u, g1, g2, rfl⟩ := flat_get rows q v l6 hq
        exact C3 i j u v g1 g2)
      have G4 := nw_ge R3.wf (.row .ro rows.flatten)
      refine fin _ _ (.l h3.next 0 len cap) ks rows.flatten R4 (G3.trans G4) (E3.trans E4) (.l h3.next 0 len cap L (upd_same _ _ _)) ?_ (.inr ⟨h3.next, 0, cap, .ro, rows.flatten, [], by rw [k3], by rw [k3]; exact q4, nw_get h3 _, by simp, ?_, ?_⟩) (N3.mono G4.im) Y3 M3
      · have : maxLen = 9223372036854775807 := by rfl
        have : wide = 9223372036854775807 := by rfl
        omega
      · rw [k3, ← l3]
        exact flat_len rows l6
      · intro v hv
        obtain ⟨r, hr, hv⟩ := List.mem_flatten.1 hv
        exact O3 r hr v hv

end
end Go.Dd

/- Dd, part RW: what the rows of this seat share. -/
set_option linter.unusedVariables false
namespace Go.Dd
open Go.Proofs Go.RowKit

abbrev laidL : List (String × DataW Unit) := YtliejomdaookoaaGreatDoor.Rows.showApartRow.laid

theorem tab_data : (YtliejomdaookoaaGreatDoor.Rows.laid_internal_strconv_uint64pow10 : DataW Unit) = Lib.tabData .u64 Lib.pow10Tab := by kernel_rfl

/-- What the library's calls read of package-level variables. -/
theorem facts_of {W : World} (hL : laidMet Tryz.prog laidL W) (hs : W.ShapedOpen Tryz.prog) : Facts W := by
  refine ⟨Tryz.laysM143.s1_3 W hs, ?_⟩
  obtain ⟨g, t, cs, fuel, p, hg, ht, hv, hd⟩ := Lib.laidMet.reads hL (n := "internal/strconv.uint64pow10") (d := YtliejomdaookoaaGreatDoor.Rows.laid_internal_strconv_uint64pow10) (.tail _ (.tail _ (.head _)))
  have e1 : Tryz.prog.globalNamed "internal/strconv.uint64pow10" = some 1 := by kernel_rfl
  obtain rfl := Option.some.inj (e1.symm.trans hg)
  have e2 : (Tryz.prog.globals[1]?).map (·.type) = some 136 := by kernel_rfl
  obtain rfl := Option.some.inj (e2.symm.trans ht)
  rw [tab_data] at hd
  have hc := Lib.cells_of_tab Tryz.underlying136 Tryz.underlying124 (by kernel_rfl) (by kernel_rfl) hd
  unfold World.var? at hv
  rw [e1] at hv
  simp only [Option.bind_some] at hv
  split at hv
  · rename_i cs' t' z' hh
    obtain rfl := Option.some.inj hv
    refine ⟨t', z', ?_⟩
    rw [hh]
    congr 2
    rw [← hc]
  · cases hv

/-- A row over a law's spec with a condition on the world, the world's shape handed on. -/
theorem returns_laid {H : Type} {enc : TypeId × Value → H} {a : Assume} {C : Checked} {os : Os} {f : FuncId} {fn : Func} {s : ChangeSpec} {conds : List PathCond} {apart fresh handsOn again : Bool} {X : World → Array Value → Prop}
    (hX : ∀ (w w' : World) (args : Array Value), w.heap = w'.heap → X w args → X w' args)
    (own : ownKnob C.prog.godebug = none) (started : os.Started) (noInit : C.prog.inits.idxOf? f = none) (hfn : C.prog.funcs[f]? = some fn)
    (witness : ∃ (w : World) (tape : Tape) (i : Input), w.os = os ∧ (w.forCall tape i).Shaped C.prog ∧ i.vars = [] ∧ Input.okWide C.prog (w.forCall tape i) .any w.heap.size f i ∧
      ((s.pre enc C.prog fn conds apart (w.forCall tape i).memory i.args ∧ X (w.forCall tape i).memory i.args) ∧ sizedMet enc C.prog fn (OpenSpec.ofChange s) apart (w.forCall tape i).memory i.args) ∧ a.holds C.prog (lone (Frame.enter C.prog f i.args .normal) [] (w.forCall tape i)))
    (contract : ∀ (W : World) (base : Nat) (args : Array Value) (ds gs : List (DataW H)) (before : List MemPlace),
      (∀ (j : Nat) t v, fn.params[j]? = some t → args[j]? = some v → Value.okWide C.prog W .any base t v) →
      DataW.Whole enc C.prog fn.params.toList s.vars apart W args.toList ds gs before →
      X W args → W.ShapedOpen C.prog →
      Calls C.prog f args W fun e W' => ∃ v, e = .returned v ∧ s.post enc C.prog fn apart fresh handsOn again W args v W') :
    ReturnsInHanded a C os f .any (fun w args => (s.pre enc C.prog fn conds apart w args ∧ X w args) ∧ sizedMet enc C.prog fn (OpenSpec.ofChange s) apart w args) (s.post enc C.prog fn apart fresh handsOn again) := by
  refine returnsInHanded_of_calls own started noInit witness ?_
  intro w tape i _ hsh _ hok hpre hholds
  obtain ⟨_, _, _, fn', hfn', _, _, _, _, hval⟩ := hok
  have e : fn' = fn := Option.some.inj (hfn'.symm.trans hfn)
  subst e
  obtain ⟨⟨⟨ds, gs, before, hw, hc⟩, hx⟩, hz⟩ := hpre
  have hw' := DataW.Whole.of_heap (w' := w.forCall tape i) (by rfl) hw
  refine (contract (w.forCall tape i) w.heap.size i.args ds gs before hval hw' (hX _ _ _ (by rfl) hx) hsh).mono fun e W' ⟨v, he, hp⟩ => ?_
  subst he
  exact ChangeSpec.post_blind hp

/-- A run of one body over what is handed in, its calls answered otherwise, is a call of the program. -/
theorem top_body {rec : FuncId → List DV → Hp → Res} (K : OkC CF rec) {n : Nat} {f : FuncId} {args : List DV} {v : DV} {h h1 : Hp} (hr : bodyD CF rec n f args h = some (v, h1)) (fn : Func) (hf : Tryz.prog.funcs[f]? = some fn) (hb : fn.body.isSome = true)
    {ρ : Ren} {w : World} (W : Facts w) (R : Ro w ρ h) (args' : Array Value) (hargs : VRs ρ args args'.toList) :
    Calls Tryz.prog f args' w fun e w' => ∃ ρ' v', e = .returned v' ∧ VR ρ' v v' ∧ Below w.heap.size w w' := by
  rcases body_ok K Try_ok n f args h v h1 hr ρ w args' (R.hr W) hargs with ⟨_, h⟩ | ⟨ρ', w', v', h, _⟩
  · refine h.mono ?_
    rintro e w' ⟨ρ', v', h1, h2, h3, h4, h5⟩
    exact ⟨ρ', v', h1, h3, h5.low⟩
  · exfalso
    have hf' : CF.P.funcs[f]? = some fn := hf
    have hn : ¬ fn.name = "runtime.NumGoroutine" := by simpa using Try_ok.names f fn hf'
    have hbn : fn.body ≠ none := by intro e; rw [e] at hb; cases hb
    unfold callFunc at h
    simp [hf', hn, hbn] at h

theorem own : ownKnob Tryz.prog.godebug = none := by kernel_rfl
theorem laid_out : laidOutB Tryz.prog = true := by kernel_rfl

def zn : Value := .agg #[.int .i64 0, .string ⟨#[]⟩, .int .i64 0, .slice none 0 0, .slice none 0 0, .slice none 0 0]

theorem open_agg {P : Program} {W : World} {base : Nat} {t : TypeId} {v : Value} {fs : Array Field} (ht : P.underlying t = some (.struct fs)) (h : Value.okWide P W .any base t v) : ∃ cs, v = .agg cs := by
  unfold Value.okWide at h
  rw [ht] at h
  obtain ⟨cs, e, _⟩ := h
  exact ⟨cs, e⟩

end Go.Dd

/- Dd, part P20: ShowApart runs to true. -/
set_option linter.unusedVariables false
set_option linter.unusedSimpArgs false
set_option maxRecDepth 100000
namespace Go.Dd
open Go.Proofs

section
variable {I : Im} {A L : Ls} {h : Hp}

theorem nEq_iff (x y : Node) : nEq x y = true ↔ x = y := ⟨nEq_eq x y, fun h => by rw [h]; exact nEq_refl y⟩

/-- A node that is shown: its kids' texts are told; the text is short, and of bytes. -/
structure Shw (x : Node) : Prop where
  kids : ∀ y ∈ x.kids, TxOk y
  len : (bodyTx x.temps (txs x.kids)).length ≤ lim
  by' : AB (bodyTx x.temps (txs x.kids))

theorem Shw.small {x : Node} (h : smallM x = true) (hb : By x) (hn : Nm x) : Shw x where
  kids := (shown_ok x (small_sk h hn)).2.1
  len := small_body h
  by' := hb.body

theorem toldA_ok {s : List Nat} {x : Node} {r : Node × Int × Int} (h : (toldA s x r).2 = 0) : (toldA s x r).1 = s ∧ r.2.2 = 0 ∧ x = r.1 := by
  unfold toldA at h ⊢
  by_cases e : r.2.2 = 0 ∧ nEq x r.1 = true
  · rw [if_pos e]
    exact ⟨rfl, e.1, nEq_eq _ _ e.2⟩
  · rw [if_neg e] at h
    cases h

theorem show_apart {x y : Node} (hx : (showD x).2 = 0) (hy : (showD y).2 = 0) : decide ((showD x).1 = (showD y).1) = nEq x y := by
  obtain ⟨e1, e2, e3⟩ := toldA_ok hx
  obtain ⟨f1, f2, f3⟩ := toldA_ok hy
  have g1 : (showD x).1 = bodyTx x.temps (txs x.kids) := e1
  have g2 : (showD y).1 = bodyTx y.temps (txs y.kids) := f1
  rw [g1, g2]
  rw [Bool.eq_iff_iff, nEq_iff, decide_eq_true_eq]
  constructor
  · intro h
    rw [e3, f3, h]
  · intro h
    rw [h]

theorem str_eqd (x y : List Nat) (h : Hp) : pStr .eql (.s x) (.s y) h = some (.b (decide (x = y)), h) := by
  rw [str_eq]
  congr 3
  rw [Bool.eq_iff_iff, eqD_iff, decide_eq_true_eq]

theorem beq_bool (a b : Bool) (h : Hp) : pEq .bool true (.b a) (.b b) h = some (.b (a == b), h) := by
  cases a <;> cases b <;> rfl

theorem apart_ok {x y : Node} {c d : List DV} (S : Sy I A [] L h) (N : NW I x c) (M : NW I y d) (bx : By x) (nx : Nm x) (bY : By y) (ny : Nm y) :
    Ev (fun n => s7 (recL 10 true n) n (.a c) (.a d) h) (fun v h' => v = .b true) := by
  have e9 : ∀ n, recL 10 true n 9 = shD n 9 := fun n => recL_other true n rfl
  have e13 : ∀ n, recL 10 true n 13 = shD n 13 := fun n => recL_other true n rfl
  have e16 : ∀ n, recL 10 true n 16 = shD n 16 := fun n => recL_other true n rfl
  obtain ⟨c1, o1, b1⟩ := N.shape
  obtain ⟨c2, o2, b2⟩ := M.shape
  unfold s7
  simp only [e9, e13, e16, recL_self]
  refine Ev.box S rfl (fun p h1 S1 => ?_)
  refine Ev.box S1 rfl (fun q h2 S2 => ?_)
  refine Ev.ldsL S2 (List.Mem.tail _ (List.Mem.head _)) c1 o1 ?_
  refine Ev.call (small_ok x I A [] _ h2 c S2 N) ?_
  rintro _ h3 ⟨rfl, S3⟩
  refine Ev.ldsL S3 (List.Mem.head _) c2 o2 ?_
  refine Ev.call (small_ok y I A [] _ h3 d S3 M) ?_
  rintro _ h4 ⟨rfl, S4⟩
  cases hx : smallM x with
  | false =>
    refine ao ?_; refine yg ?_; refine yg ?_; refine ap ?_; refine yt ?_; refine wm ?_
    exact Ev.ret rfl
  | true =>
    cases hy : smallM y with
    | false =>
      refine an ?_; refine zf ?_; refine wm ?_; refine zf ?_; refine ao ?_; refine aq ?_; refine yt ?_; refine wm ?_
      exact Ev.ret rfl
    | true =>
      have Nx := NW.nv N hx
      have Ny := NW.nv M hy
      have Wx := Shw.small hx bx nx
      have Wy := Shw.small hy bY ny
      refine an ?_; refine zf ?_; refine wm ?_; refine zf ?_; refine an ?_; refine aq ?_; refine yj ?_; refine ws ?_
      refine Ev.call (Doit_show (by assumption) Nx Wx.kids Wx.len Wx.by') ?_
      rintro _ h5 ⟨rfl, S5⟩
      refine wx ?_; refine wx ?_; refine ws ?_
      refine Ev.call (Doit_show (by assumption) Ny Wy.kids Wy.len Wy.by') ?_
      rintro _ h6 ⟨rfl, S6⟩
      refine wx ?_; refine wx ?_
      refine Ev.ine (fun e1 => ?_) (fun e1 => ?_)
      · refine yg ?_; refine yg ?_; refine ap ?_; refine yt ?_; refine wm ?_
        exact Ev.ret rfl
      · refine zf ?_; refine wm ?_; refine zf ?_
        refine Ev.ine (fun e2 => ?_) (fun e2 => ?_)
        · refine aq ?_; refine yt ?_; refine wm ?_
          exact Ev.ret rfl
        · refine aq ?_; refine yj ?_; refine ws ?_; refine ws ?_
          refine Ev.call (same_ok x y I A [] _ _ _ _ (by assumption) Nx Ny) ?_
          rintro _ h7 ⟨rfl, S7⟩
          refine Ev.op (str_eqd _ _ _) ?_
          rw [show_apart e1 e2]
          refine Ev.op (beq_bool _ _ _) ?_
          rw [show (nEq x y == nEq x y) = true by simp]
          refine zt ?_; refine wm ?_; refine ap ?_
          exact Ev.ret rfl
end

end Go.Dd

