/- A part of the proof: B6 P17 P18 P19 RW P30 P31 P32 P33 P34 P25 P35 P36 P37 P38 P39 P40 P41 P42 P43 P44 P45 P46 P47 P20 P48: each text has a comment of its own. -/
import Derived.Test.YtliejomdaookoaaGreatDoorSg2
import Derived.Test.YtliejomdaookoaaGreatDoorRows
import Derived.Test.YtliejomdaookoaaGreatDoorCards
import Derived.Test.YtliejomdaookoaaGreatDoorTie
import Derived.WalkKit
import Derived.ProofKit
import Derived.OpenShut
import Derived.Carry
import Derived.Lib.LaidU8
import Derived.Lay
import Derived.LaidOnce
import Derived.SevenTiedAt
import Derived.ChangeMaps5
set_option linter.unusedVariables false
set_option linter.unusedSimpArgs false
set_option linter.constructorNameAsVariable false
set_option maxRecDepth 100000
namespace Go.Dd
theorem aJb {f : Nat} {u : List Nat} {rs : Int × List Nat × Int × Int × Nat} (h : aY f u = some rs) (p : Int) : TOk ⟨rs.1, rs.2.1, rs.2.2.1, p⟩ := by
 have key : (rs.1 = 4 → rs.2.1 = []) ∧ (rs.1 = 5 ∨ rs.1 = 6 → rs.2.2.1 = 0) := by
  unfold aY at h
  repeat' split at h
  all_goals first
   | (cases h; exact ⟨fun _ => rfl, fun e => by simp at e⟩)
   | (cases h; exact ⟨fun e => by simp at e, fun e => by simp at e⟩)
   | (obtain ⟨r, e1, e2⟩ := bD h; cases e2; exact ⟨fun e => by simp at e, fun _ => rfl⟩)
 exact key
theorem bCx {g : Nat} : ∀ (l : List Tok) (v : List Nat) (p : Nat), Lx g v p l → GT l := by
 intro l
 induction l with
 | nil => intro v p h; cases h
 | cons t l ih =>
  intro v p h
  cases h with
  | fin _ _ hw =>
   refine ⟨by simp, fun t ht => ?_⟩
   simp at ht
   subst ht
   exact ⟨fun e => (by cases e), fun e => (by rcases e with e | e <;> cases e)⟩
  | tok w u _ k rs l hw h1 h2 h3 h4 h5 h6 h7 =>
   have := ih _ _ h7
   refine ⟨by simp, fun t ht => ?_⟩
   rcases List.mem_cons.1 ht with rfl | ht
   ·exact aJb h1 _
   ·exact this.2 t ht
theorem bFl {u : List Nat} (hu : u.length ≤ 2000) {lx : List Tok × Int × Int} (hl : nM 2001 2001 u = some lx) (he : lx.2.2 = 0) : GT lx.1 ∧ Lx 2001 u 0 lx.1 := by
 unfold nM at hl
 rw [if_neg (by omega)] at hl
 obtain ⟨l, h1, h2⟩ := yY (by omega) 2001 0 [] lx (by omega) hl he
 have e : lx.1 = l := by rw [h1]; rfl
 rw [e]
 exact ⟨bCx _ _ _ h2, h2⟩
end Go.Dd

namespace Go.Dd
open Go.Proofs
def Node.temps : Node → List (List Nat) | .mk _ _ _ _ ts _ => ts
noncomputable def lR (u : List Nat) : List Tok × Int × Int := (nM 2001 2001 u).getD ([], 0, 0)
noncomputable def cW (u : List Nat) : Node × Int × Int := (iW pI 2004 (lR u)).getD (zN, 0, 0)
theorem aAl {u : List Nat} (h : 2000 < u.length) : nM 2001 2001 u = some ([], 0, 12) := by
 unfold nM
 rw [if_pos h]
theorem nR (u : List Nat) : nM 2001 2001 u = some (lR u) := by
 unfold lR
 by_cases h : u.length ≤ 2000
 ·obtain ⟨lx, h1, _⟩ := bKo h
  rw [h1]; rfl
 ·rw [aAl (by omega)]; rfl
theorem kR (u : List Nat) : iW pI 2004 (lR u) = some (cW u) := by
 unfold cW
 by_cases h : u.length ≤ 2000
 ·obtain ⟨lx, res, h1, h2, _⟩ := bJs h
  have e : lR u = lx := by unfold lR; rw [h1]; rfl
  rw [e, h2]; rfl
 ·have e : lR u = ([], 0, 12) := by unfold lR; rw [aAl (by omega)]; rfl
  rw [e]; rfl
def sP (s : List Nat) (x : Node) (r : Node × Int × Int) : List Nat × Int := if r.2.2 = 0 ∧ nEq x r.1 = true then (s, 0) else ([], 1)
noncomputable def aFf (x : Node) : List Nat × Int := sP (aV x.temps (iG x.kids)) x (cW (aV x.temps (iG x.kids)))
theorem aWu (n : Nat) (x y z w : DV) (h : Hp) : aL (n + 1) 22 [x, y, z, w] h = s22 (aL n) n x y z w h := by kernel_rfl
theorem aUb (n : Nat) (x : DV) (h : Hp) : aL (n + 1) 13 [x] h = s13 (aL n) n x h := by kernel_rfl
section
variable {I : Im} {A L : Ls} {h : Hp}
theorem aVv {Q : Ls} {x y : Node} {c d : List DV} {s : List Nat} {a e : Int} (S : Sy I A Q L h) (N : NV I x c) (M : NV I y d) :
 Ev (fun n => aL n 22 [.s s, .a c, .a d, .i .i64 e] h) (fun v h' => v = .t [.s (sP s x (y, a, e)).1, .i .i64 (sP s x (y, a, e)).2] ∧ Sy I A Q L h') := by
 obtain ⟨c1, o1, b1⟩ := N.shape
 obtain ⟨c2, o2, b2⟩ := M.shape
 refine Ev.enter (fun n => aWu n _ _ _ _ h) ?_
 unfold s22
 refine Ev.box S rfl (fun p h1 S1 => ?_)
 refine Ev.box S1 rfl (fun q h2 S2 => ?_)
 refine bPq (fun e1 => ?_) (fun e1 => ?_)
 ·have e1' : ¬ e = 0 := e1
  refine yg (yg (yg (yg (ap (yt ?_)))))
  exact bOo ⟨by simp [sP, e1'], dp⟩
 ·have e1' : e = 0 := e1
  refine zf ?_; refine ws ?_; refine zf ?_; refine ws ?_; refine zf ?_
  refine bOm (aAp x y I A Q _ _ c d (by assumption) N M) ?_
  rintro _ h3 ⟨rfl, S3⟩
  cases en : nEq x y with
  | true =>
   refine zf (an (aq (yj ?_)))
   exact bOo ⟨by simp [sP, e1', en], dp⟩
  | false =>
   refine zf (ao (aq (yt ?_)))
   exact bOo ⟨by simp [sP, e1', en], dp⟩
theorem uO {x : Node} {cs : List DV} (S : Sy I A [] L h) (N : NV I x cs) (T : ∀ y ∈ x.kids, kK y) (hl : (aV x.temps (iG x.kids)).length ≤ cA) (hb : ∀ c ∈ aV x.temps (iG x.kids), c < 256) :
 Ev (fun n => aL n 13 [.a cs] h) (fun v h' => v = .t [.s (aFf x).1, .i .i64 (aFf x).2] ∧ Sy I A [] L h') := by
 obtain ⟨c1, o1, b1⟩ := N.shape
 have N0 := N
 obtain ⟨k, t, m, ns, ts, ks⟩ := x
 have hl' : (aV ts (iG ks)).length ≤ 100000000000 := hl
 refine Ev.enter (fun n => aUb n _ h) ?_
 unfold s13
 refine Ev.box S rfl (fun p h1 S1 => ?_)
 refine bQz S1 (fO) c1 o1 ?_
 refine bOm (tV S1 N0 T hl') ?_
 rintro _ h2 ⟨rfl, S2⟩
 refine bOm (wV S2 hl hb 2001 2001 2004 (by simp [cA]) (by simp [cA]) _ (nR _) _ (kR _)) ?_
 rintro _ h3 ⟨J, ds, rfl, g3, S3, N3⟩
 obtain ⟨c3, o3, b3⟩ := N3.shape
 refine wx ?_; refine wx ?_; refine wx ?_; refine wa fun _ _ _ => ?_; refine wt fun _ _ => ?_; refine ws ?_; refine ws ?_
 refine bOm (aVv (a := (cW (aV ts (iG ks))).2.1) (by assumption) (N0.mono g3) N3) ?_
 rintro _ h5 ⟨rfl, S5⟩
 refine wx ?_; refine wx ?_
 exact bOo ⟨rfl, (dp : Sy J A [] L _).weak g3⟩
end
end Go.Dd

namespace Go.Dd
open Go.Proofs
def AB (l : List Nat) : Prop := ∀ c ∈ l, c < 256
theorem AB.nil : AB [] := fun c h => by cases h
theorem AB.cons {x : Nat} {l : List Nat} (h : x < 256) (H : AB l) : AB (x :: l) := fun c hc => by
 rcases List.mem_cons.1 hc with rfl | hc
 ·exact h
 ·exact H c hc
theorem AB.app {l k : List Nat} (H : AB l) (K : AB k) : AB (l ++ k) := fun c hc => by
 rcases List.mem_append.1 hc with hc | hc
 ·exact H c hc
 ·exact K c hc
theorem AB.join {sep : List Nat} (h : AB sep) : ∀ {l : List (List Nat)}, (∀ x ∈ l, AB x) → AB (aF sep l)
 | [], _ => AB.nil
 | [x], H => H x (by simp)
 | x :: y :: l, H => (H x (by simp)).app (h.app (AB.join h (l := y :: l) fun z hz => H z (by simp [hz])))
theorem bRs {c : Nat} {new : List Nat} (h : AB new) : ∀ {l : List Nat}, AB l → AB (cS c new l)
 | [], _ => AB.nil
 | x :: l, H => by
  have ih := bRs h (c := c) (l := l) fun z hz => H z (by simp [hz])
  show AB (bif Nat.beq x c then new ++ cS c new l else x :: cS c new l)
  cases Nat.beq x c with
  | true => exact h.app ih
  | false => exact AB.cons (H x (by simp)) ih
theorem bRa : ∀ (f n : Nat) (acc : List Nat), AB acc → AB (fK f n acc)
 | 0, n, acc, H => H
 | f + 1, n, acc, H => by
  show AB (bif Nat.ble 10 n then fK f (n / 10) ((48 + n % 10) :: acc) else (48 + n) :: acc)
  have h1 : 48 + n % 10 < 256 := by omega
  cases e : Nat.ble 10 n with
  | true => exact bRa f _ _ (AB.cons h1 H)
  | false =>
   have : ¬ 10 ≤ n := fun h => by rw [Nat.ble_eq_true_of_le h] at e; cases e
   exact AB.cons (by omega) H
theorem AB.itoa (n : Int) : AB (iV n) := by
 cases n with
 | ofNat n => exact bRa _ _ _ AB.nil
 | negSucc n => exact AB.cons (by omega) (bRa _ _ _ AB.nil)
theorem bQn {c : Nat} : ∀ {l acc : List Nat}, AB acc → AB l → ∀ x ∈ cH c acc l, AB x
 | [], acc, H, _, x, hx => by
  simp [cH] at hx
  subst hx; exact H
 | y :: l, acc, H, K, x, hx => by
  have K' : AB l := fun z hz => K z (by simp [hz])
  have H' : AB (acc ++ [y]) := H.app (AB.cons (K y (by simp)) AB.nil)
  unfold cH at hx
  cases e : Nat.beq y c with
  | true =>
   rw [e] at hx
   rcases List.mem_cons.1 hx with rfl | hx
   ·exact H'
   ·exact bQn AB.nil K' x hx
  | false =>
   rw [e] at hx
   exact bQn H' K' x hx
theorem AB.parts {s : List Nat} (H : AB s) : ∀ x ∈ fZ s, AB x := fun x hx => bQn AB.nil H x (List.dropLast_subset _ hx)
def ABk (l : List (Nat × List Nat)) : Prop := ∀ p ∈ l, AB p.2
theorem bQo {l : List (Nat × List Nat)} (H : ABk l) (i h : Nat) : AB (bI l i h) := by
 unfold bI
 split
 ·exact AB.nil
 ·rename_i own x e
  have := H (own, x) (List.mem_of_getElem? e)
  split
  ·exact AB.cons (by omega) (this.app (AB.cons (by omega) AB.nil))
  ·exact this
theorem AB.keys {a : List (Nat × List Nat)} (H : ABk a) : ∀ {ps : List (List Nat)} {i : Nat}, (∀ x ∈ ps, AB x) → ∀ x ∈ eX ps a i, AB x
 | [], i, _, x, hx => by simp [eX] at hx
 | p :: ps, i, K, x, hx => by
  simp only [eX, List.mem_cons] at hx
  rcases hx with rfl | hx
  ·exact (K p (by simp)).app (AB.cons (by omega) (bQo H _ _))
  ·exact AB.keys H (fun z hz => K z (by simp [hz])) x hx
theorem bQr {s : List Nat} {a : List (Nat × List Nat)} (H : AB s) (K : ABk a) : AB (aQ s a) := by
 unfold aQ
 split
 ·exact H
 ·split
  ·exact H.app (AB.cons (by omega) (bQo K _ _))
  ·exact AB.join (AB.cons (by omega) AB.nil) (AB.keys K H.parts)
theorem AB.send {s : List Nat} {a : List (Nat × List Nat)} (H : AB s) (K : ABk a) : AB (eP s a) := by
 unfold eP
 split
 ·exact AB.nil
 ·exact (bQo K _ _).app (AB.cons (by omega) (bQr H fun p hp => K p (List.mem_of_mem_drop hp)))
theorem AB.body {ts kids : List (List Nat)} (H : ∀ x ∈ ts, AB x) (K : ∀ x ∈ kids, AB x) : AB (aV ts kids) := by
 unfold aV
 refine AB.app ?_ (AB.join (AB.cons (by omega) (AB.cons (by omega) AB.nil)) K)
 split
 ·exact AB.nil
 ·exact AB.cons (by omega) (AB.cons (by omega) ((AB.join (AB.cons (by omega) AB.nil) H).app (AB.cons (by omega) (AB.cons (by omega) (AB.cons (by omega) AB.nil)))))
theorem AB.names : ∀ {l : List (List Nat)}, (∀ x ∈ l, AB x) → AB (bC l)
 | [], _ => AB.nil
 | p :: l, H => AB.cons (by omega) ((H p (by simp)).app (AB.cons (by omega) (AB.names fun z hz => H z (by simp [hz]))))
mutual
def By : Node → Prop
 | .mk k t m ns ts ks => AB t ∧ (∀ x ∈ ns, AB x) ∧ (∀ x ∈ ts, AB x) ∧ ByL ks
def ByL : List Node → Prop
 | [] => True
 | x :: l => By x ∧ ByL l
end
def NfB (x : Nf) : Prop := AB x.t ∧ AB x.tx ∧ ABk x.ks
theorem bRt {l : List Nf} (H : ∀ x ∈ l, NfB x) : AB (iN l) := by
 unfold iN
 split
 ·rename_i a b r
  refine AB.app (AB.send (H b (by simp)).1 ?_) (AB.join AB.nil ?_)
  ·intro p hp
   rcases List.mem_cons.1 hp with rfl | hp
   ·exact (H a (by simp)).2.1
   ·exact (H b (by simp)).2.2 p hp
  ·intro x hx
   obtain ⟨y, hy, rfl⟩ := List.mem_map.1 hx
   have := H y (by simp [hy])
   exact AB.cons (by omega) (AB.cons (by omega) (bQr this.1 this.2.2))
 ·exact AB.nil
mutual
theorem By.nf : ∀ {x : Node}, By x → NfB (nf x)
 | .mk k t m ns ts ks, ⟨h1, h2, h3, h4⟩ => by
  have K := ByL.nf h4
  have Kt : ∀ x ∈ (oE ks).map Nf.tx, AB x := fun x hx => by
   obtain ⟨y, hy, rfl⟩ := List.mem_map.1 hx
   exact (K y hy).2.1
  have Kh : ABk ((oE ks).map Nf.ht) := fun p hp => by
   obtain ⟨y, hy, rfl⟩ := List.mem_map.1 hp
   exact (K y hy).2.1
  refine ⟨h1, ?_, Kh⟩
  show AB (tN k t m ns ts (oE ks))
  unfold tN
  split
  ·exact AB.itoa m
  split
  ·exact AB.cons (by omega) ((bRs (AB.cons (by omega) (AB.cons (by omega) AB.nil)) h1).app (AB.cons (by omega) AB.nil))
  split
  ·exact AB.cons (by omega) h1
  split
  ·exact AB.cons (by omega) (AB.cons (by omega) ((AB.join (AB.cons (by omega) AB.nil) Kt).app (AB.cons (by omega) AB.nil)))
  split
  ·exact h1.app (AB.cons (by omega) (AB.cons (by omega) (AB.cons (by omega) (AB.cons (by omega) (AB.join AB.nil Kt)))))
  split
  ·exact AB.cons (by omega) (AB.join AB.nil Kt)
  split
  ·exact AB.send h1 Kh
  split
  ·exact bRt K
  split
  ·refine AB.cons (by omega) (AB.app ?_ ((AB.body h3 Kt).app (AB.cons (by omega) AB.nil)))
   split
   ·exact AB.nil
   ·exact (AB.names h2).app (AB.cons (by omega) (AB.cons (by omega) AB.nil))
  ·exact h1
theorem ByL.nf : ∀ {l : List Node}, ByL l → ∀ y ∈ oE l, NfB y
 | [], _ => fun y hy => by cases hy
 | x :: l, ⟨h1, h2⟩ => fun y hy => by
  have p := By.nf h1
  have q := ByL.nf h2
  rcases List.mem_cons.1 (show y ∈ Go.Dd.nf x :: oE l from hy) with e | hy
  ·rw [e]; exact p
  ·exact q y hy
end
theorem ByL.mem : ∀ {l : List Node}, ByL l → ∀ y ∈ l, By y
 | [], _ => fun y hy => by cases hy
 | x :: l, h => fun y hy => by
  rcases List.mem_cons.1 hy with e | hy
  ·rw [e]; exact h.1
  ·exact ByL.mem h.2 y hy
theorem By.body {x : Node} (h : By x) : AB (aV x.temps (iG x.kids)) := by
 obtain ⟨k, t, m, ns, ts, ks⟩ := x
 obtain ⟨h1, h2, h3, h4⟩ := h
 refine AB.body h3 fun z hz => ?_
 obtain ⟨y, hy, rfl⟩ := List.mem_map.1 hz
 exact (By.nf (h4.mem y hy)).2.1
def iP (l : List (List Nat)) : Nat := (l.map List.length).sum
theorem kT (sep : List Nat) : ∀ (l : List (List Nat)), (aF sep l).length ≤ iP l + l.length * sep.length
 | [] => by simp [aF]
 | [x] => by simp [aF, iP]
 | x :: y :: l => by
  have := kT sep (y :: l)
  simp only [aF, List.length_append, iP, List.map_cons, List.sum_cons, List.length_cons] at this ⊢
  rw [show (l.length + 1 + 1) * sep.length = (l.length + 1) * sep.length + sep.length by rw [Nat.add_mul _ 1]; omega]
  omega
end Go.Dd

namespace Go.Dd
open Go.Proofs Go.RowKit
section
variable {H : Type} {enc : TypeId × Value → H} {w : World}
end
end Go.Dd

namespace Go.Dd
open Go.Proofs Go.RowKit
abbrev bKh : List (String × DataW Unit) := YtliejomdaookoaaGreatDoor.Rows.showApartRow.laid
theorem aOt : (YtliejomdaookoaaGreatDoor.Rows.laid_internal_strconv_uint64pow10 : DataW Unit) = Lib.tabData .u64 Lib.pow10Tab := by kernel_rfl
theorem aLl {W : World} (hL : laidMet Tryz.prog bKh W) (hs : W.ShapedOpen Tryz.prog) : Facts W := by
 refine ⟨Tryz.laysM143.s1_3 W hs, ?_⟩
 obtain ⟨g, t, cs, fuel, p, hg, ht, hv, hd⟩ := Lib.laidMet.reads hL (n := "internal/strconv.uint64pow10") (d := YtliejomdaookoaaGreatDoor.Rows.laid_internal_strconv_uint64pow10) (.tail _ (.tail _ (.head _)))
 have e1 : Tryz.prog.globalNamed "internal/strconv.uint64pow10" = some 1 := by kernel_rfl
 obtain rfl := Option.some.inj (e1.symm.trans hg)
 have e2 : (Tryz.prog.globals[1]?).map (·.type) = some 136 := by kernel_rfl
 obtain rfl := Option.some.inj (e2.symm.trans ht)
 rw [aOt] at hd
 have hc := Lib.cells_of_tab Tryz.underlying136 Tryz.underlying124 (by kernel_rfl) (by kernel_rfl) hd
 unfold World.var? at hv
 rw [e1] at hv
 simp only [Option.bind_some] at hv
 split at hv
 ·rename_i cs' t' z' hh
  obtain rfl := Option.some.inj hv
  refine ⟨t', z', ?_⟩
  rw [hh]
  congr 2
  rw [← hc]
 ·cases hv
theorem vN {H : Type} {enc : TypeId × Value → H} {a : Assume} {C : Checked} {os : Os} {f : FuncId} {fn : Func} {s : ChangeSpec} {conds : List PathCond} {apart fresh handsOn again : Bool} {X : World → Array Value → Prop}
 (hX : ∀ (w w' : World) (args : Array Value), w.heap = w'.heap → X w args → X w' args)
 (own : ownKnob C.prog.godebug = none) (started : os.Started) (noInit : C.prog.inits.idxOf? f = none) (hfn : C.prog.funcs[f]? = some fn)
 (witness : ∃ (w : World) (tape : Tape) (i : Input), w.os = os ∧ (w.forCall tape i).Shaped C.prog ∧ i.vars = [] ∧ Input.okWide C.prog (w.forCall tape i) .any w.heap.size f i ∧
  ((s.pre enc C.prog fn conds apart (w.forCall tape i).memory i.args ∧ X (w.forCall tape i).memory i.args) ∧ sizedMet enc C.prog fn (OpenSpec.ofChange s) apart (w.forCall tape i).memory i.args) ∧ a.holds C.prog (lone (Frame.enter C.prog f i.args .normal) [] (w.forCall tape i)))
 (contract : ∀ (W : World) (base : Nat) (args : Array Value) (ds gs : List (DataW H)) (before : List MemPlace),
  (∀ (j : Nat) t v, fn.params[j]? = some t → args[j]? = some v → Value.okWide C.prog W .any base t v) →
  DataW.Whole enc C.prog fn.params.toList s.vars apart W args.toList ds gs before →
  X W args → W.ShapedOpen C.prog →
  Calls C.prog f args W fun e W' => ∃ v, e = .returned v ∧ s.post enc C.prog fn apart fresh handsOn again W args v W') :
 ReturnsInHanded a C os f .any (fun w args => (s.pre enc C.prog fn conds apart w args ∧ X w args) ∧ sizedMet enc C.prog fn (OpenSpec.ofChange s) apart w args) (s.post enc C.prog fn apart fresh handsOn again) := by
 refine returnsInHanded_of_calls own started noInit witness ?_
 intro w tape i _ hsh _ hok hpre hholds
 obtain ⟨_, _, _, fn', hfn', _, _, _, _, hval⟩ := hok
 have e : fn' = fn := Option.some.inj (hfn'.symm.trans hfn)
 subst e
 obtain ⟨⟨⟨ds, gs, before, hw, hc⟩, hx⟩, hz⟩ := hpre
 have hw' := DataW.Whole.of_heap (w' := w.forCall tape i) (by rfl) hw
 refine (contract (w.forCall tape i) w.heap.size i.args ds gs before hval hw' (hX _ _ _ (by rfl) hx) hsh).mono fun e W' ⟨v, he, hp⟩ => ?_
 subst he
 exact ChangeSpec.post_blind hp
theorem own : ownKnob Tryz.prog.godebug = none := by kernel_rfl
end Go.Dd

namespace Go.Dd
def bK (k : Int) (t : List Nat) : List Nat :=
 if k = 5 then 39 :: (cS 39 [39, 39] t ++ [39]) else if k = 6 then 35 :: t else if k = 7 then [35, 40] else if k = 8 then 58 :: t else if k = 9 then [58, 61] else t
def Fol (k : Int) (v : List Nat) : Prop := (k = 3 → aFh v) ∧ (k ≠ 3 → k ≠ 7 → k ≠ 9 → k ≠ 10 → Stop v)
def TV (k : Int) (t : List Nat) : Prop := bK k t ≠ [] ∧ ∀ v, Fol k v → aY 2001 (bK k t ++ v) = some (k, t, 0, 0, (bK k t).length)
theorem vZ : ∀ (t : List Nat), (∀ c ∈ t, c ≠ 39) → cS 39 [39, 39] t = t
 | [], _ => rfl
 | c :: t, h => by
  have ih := vZ t fun d hd => h d (by simp [hd])
  show (bif Nat.beq c 39 then [39, 39] ++ cS 39 [39, 39] t else c :: cS 39 [39, 39] t) = _
  cases e : Nat.beq c 39 with
  | true => exact absurd (Nat.eq_of_beq_eq_true e) (h c (by simp))
  | false => simp [ih]
theorem aBc : ∀ (t s : List Nat), cS 39 [39, 39] (t ++ s) = cS 39 [39, 39] t ++ cS 39 [39, 39] s
 | [], s => rfl
 | c :: t, s => by
  have ih := aBc t s
  show (bif Nat.beq c 39 then [39, 39] ++ cS 39 [39, 39] (t ++ s) else c :: cS 39 [39, 39] (t ++ s)) = (bif Nat.beq c 39 then [39, 39] ++ cS 39 [39, 39] t else c :: cS 39 [39, 39] t) ++ _
  cases e : Nat.beq c 39 with
  | true => simp [ih]
  | false => simp [ih]
theorem aHb (so : Nat → Bool) : ∀ (u : List Nat), (u.takeWhile so).length ≠ u.length → ∃ c r, u = u.takeWhile so ++ c :: r ∧ so c = false
 | [], h => by simp at h
 | c :: u, h => by
  cases e : so c with
  | false => exact ⟨c, u, by simp [e], e⟩
  | true =>
   obtain ⟨d, r, h1, h2⟩ := aHb so u (by simpa [aJ, e] using h)
   refine ⟨d, r, ?_, h2⟩
   simp only [List.takeWhile_cons, e, if_true, List.cons_append]
   exact congrArg (c :: ·) h1
theorem sO : ∀ (f : Nat) (out w : List Nat) (r : List Nat × Int × Nat), iO f out w = some r → r.2.1 = 0 → ∃ t, r.1 = out ++ t ∧ w.take r.2.2 = cS 39 [39, 39] t ++ [39]
 | 0, out, w, r, h, he => by cases h
 | f + 1, out, w, r, h, he => by
  unfold iO at h
  split at h
  ·cases h; cases he
  ·rename_i hn
   obtain ⟨c, r', hw, hc⟩ := aHb bW w hn
   have hc' : c = 39 := by simpa [aJ, bW] using hc
   subst hc'
   have htw : ∀ d ∈ w.takeWhile bW, d ≠ 39 := fun d hd => by
    have := qO bW w d hd
    simpa [aJ, bW] using this
   generalize ht : w.takeWhile bW = t at *
   subst hw
   split at h
   ·rename_i h39
    obtain ⟨q, hq, h⟩ := bD h
    cases h
    have hr : ∃ r2, r' = 39 :: r2 := by
     cases r' with
     | nil => simp [nx, List.getD] at h39
     | cons d r2 =>
      refine ⟨r2, ?_⟩
      have : d = 39 := by simpa [aJ, nx, List.getD, List.getElem?_append_right] using h39
      rw [this]
    obtain ⟨r2, rfl⟩ := hr
    have hd : (t ++ 39 :: 39 :: r2).drop (t.length + 2) = r2 := by
     rw [← List.drop_drop, List.drop_left]
     rfl
    rw [hd] at hq
    obtain ⟨t', h1, h2⟩ := sO f _ r2 q hq he
    refine ⟨t ++ (39 :: t'), by rw [h1]; simp, ?_⟩
    show (t ++ 39 :: 39 :: r2).take (q.2.2 + (t.length + 2)) = _
    rw [aBc, vZ t htw]
    have e1 : cS 39 [39, 39] (39 :: t') = [39, 39] ++ cS 39 [39, 39] t' := rfl
    rw [e1]
    rw [show q.2.2 + (t.length + 2) = t.length + (q.2.2 + 2) by omega, List.take_length_add_append]
    simp [h2]
   ·cases h
    refine ⟨t, rfl, ?_⟩
    show (t ++ 39 :: r').take (t.length + 1) = _
    rw [List.take_length_add_append, vZ t htw]
    rfl
theorem lE {u : List Nat} {c : Nat} (hc : c ≠ 0) (h : nx u 0 = c) : ∃ r, u = c :: r := by
 cases u with
 | nil => simp [nx, List.getD] at h; omega
 | cons d r =>
  have : d = c := by simpa [aJ, nx, List.getD] using h
  exact ⟨r, by rw [this]⟩
theorem aQr : TV 7 [] := ⟨by decide, fun v _ => by simp [bK, aY, nx, bF, aS]⟩
theorem aNh : TV 9 [] := ⟨by decide, fun v _ => by simp [bK, aY, nx, bF, aS]⟩
theorem aHo {c : Nat} (h : c ∈ dE) : TV 10 [c] := by
 have : c = 94 ∨ c = 46 ∨ c = 59 ∨ c = 40 ∨ c = 41 ∨ c = 91 ∨ c = 93 ∨ c = 124 := by simpa [aJ, dE] using h
 rcases this with rfl | rfl | rfl | rfl | rfl | rfl | rfl | rfl <;> exact ⟨by decide, fun v _ => by simp [bK, aY, nx, bF, aS, cU, signs, dE, bH]⟩
theorem uF {f : Nat} {u : List Nat} {rs : Int × List Nat × Int × Int × Nat} (h : aY f u = some rs) (he : rs.2.2.2.1 = 0) :
 (rs.1 = 4 ∧ rs.2.1 = [] ∧ rs.2.2.1 = (cV u).1 ∧ rs.2.2.2.2 = (cV u).2.2 ∧ (cV u).2.1 = 0) ∨
  (rs.1 ≠ 4 ∧ rs.1 ≠ 0 ∧ rs.2.2.1 = 0 ∧ (rs.1 = 7 ∨ rs.1 = 9 ∨ rs.1 = 10 → TV rs.1 rs.2.1) ∧ u.take rs.2.2.2.2 = bK rs.1 rs.2.1) := by
 unfold aY at h
 split at h
 ·split at h
  ·rename_i h2
   split at h
   ·rename_i hc
    cases h
    refine .inr ⟨by show (2 : Int) ≠ 4; decide, by show (2 : Int) ≠ 0; decide, rfl, by show (2 : Int) = 7 ∨ (2 : Int) = 9 ∨ (2 : Int) = 10 → _; intro h; omega, ?_⟩
    show u.take ((aI u).2.2 + 1) = (aI u).1 ++ [58]
    rw [mU hc, gP h2]
   ·cases h
    refine .inr ⟨by show (1 : Int) ≠ 4; decide, by show (1 : Int) ≠ 0; decide, rfl, by show (1 : Int) = 7 ∨ (1 : Int) = 9 ∨ (1 : Int) = 10 → _; intro h; omega, ?_⟩
    exact (gP h2).symm
  ·rename_i h2
   cases h
   exact absurd he h2
 split at h
 ·cases h
  exact .inl ⟨rfl, rfl, rfl, rfl, he⟩
 split at h
 ·rename_i h1
  obtain ⟨q, hq, h⟩ := bD h
  cases h
  obtain ⟨u', rfl⟩ := lE (by decide) h1
  obtain ⟨t, h2, h3⟩ := sO f [] u' q hq he
  refine .inr ⟨by show (5 : Int) ≠ 4; decide, by show (5 : Int) ≠ 0; decide, rfl, by show (5 : Int) = 7 ∨ (5 : Int) = 9 ∨ (5 : Int) = 10 → _; intro h; omega, ?_⟩
  show (39 :: u').take (q.2.2 + 1) = bK 5 q.1
  rw [List.take_succ_cons, h3, h2]
  rfl
 split at h
 ·rename_i h1
  obtain ⟨u', rfl⟩ := lE (by decide) h1
  split at h
  ·rename_i h2
   cases h
   refine .inr ⟨by show (7 : Int) ≠ 4; decide, by show (7 : Int) ≠ 0; decide, rfl, fun _ => aQr, ?_⟩
   have : ∃ r, u' = 40 :: r := lE (by decide) (by simpa [aJ, nx, List.getD] using h2)
   obtain ⟨r, rfl⟩ := this
   rfl
  ·obtain ⟨q, hq, h⟩ := bD h
   cases h
   have h3 := (jN (f := f) (u := u') hq).2 he
   refine .inr ⟨by show (6 : Int) ≠ 4; decide, by show (6 : Int) ≠ 0; decide, rfl, by show (6 : Int) = 7 ∨ (6 : Int) = 9 ∨ (6 : Int) = 10 → _; intro h; omega, ?_⟩
   show (35 :: u').take (q.2.2 + 1) = bK 6 q.1
   rw [List.take_succ_cons, ← h3]
   rfl
 split at h
 ·rename_i h1
  cases h
  obtain ⟨u', rfl⟩ := lE (by decide) h1.1
  have : ∃ r, u' = 61 :: r := lE (by decide) (by simpa [aJ, nx, List.getD] using h1.2)
  obtain ⟨r, rfl⟩ := this
  exact .inr ⟨by show (9 : Int) ≠ 4; decide, by show (9 : Int) ≠ 0; decide, rfl, fun _ => aNh, rfl⟩
 split at h
 ·rename_i h1
  cases h
  obtain ⟨u', rfl⟩ := lE (by decide) h1.1
  refine .inr ⟨by show (8 : Int) ≠ 4; decide, by show (8 : Int) ≠ 0; decide, rfl, by show (8 : Int) = 7 ∨ (8 : Int) = 9 ∨ (8 : Int) = 10 → _; intro h; omega, ?_⟩
  have he' : (aI u').2.1 = 0 := he
  show (58 :: u').take ((aI u').2.2 + 1) = 58 :: (aI u').1
  rw [List.take_succ_cons, gP he']
 split at h
 ·cases h
  exact .inr ⟨by show (3 : Int) ≠ 4; decide, by show (3 : Int) ≠ 0; decide, rfl, by show (3 : Int) = 7 ∨ (3 : Int) = 9 ∨ (3 : Int) = 10 → _; intro h; omega, rfl⟩
 split at h
 ·rename_i h1
  cases h
  refine .inr ⟨by show (10 : Int) ≠ 4; decide, by show (10 : Int) ≠ 0; decide, rfl, fun _ => ?_, rfl⟩
  show TV 10 (u.take (bH (cU dE) 1 u))
  cases u with
  | nil => simp [nx, List.getD, cU, dE] at h1
  | cons c u' =>
   have h2 : cU dE c = true := by simpa [aJ, nx, List.getD] using h1
   have : (c :: u').take (bH (cU dE) 1 (c :: u')) = [c] := by simp [bH, h2]
   rw [this]
   refine aHo ?_
   have : c = 94 ∨ c = 46 ∨ c = 59 ∨ c = 40 ∨ c = 41 ∨ c = 91 ∨ c = 93 ∨ c = 124 := by simpa [aJ, cU, dE] using h2
   simpa [aJ, dE] using this
 ·cases h
  cases he
theorem bDt {u : List Nat} {rs : Int × List Nat × Int × Int × Nat} (h : aY 2001 u = some rs) (he : rs.2.2.2.1 = 0) (hp : 1 ≤ rs.2.2.2.2) (hl : rs.2.2.2.2 ≤ u.length) (h4 : rs.1 ≠ 4) : TV rs.1 rs.2.1 ∧ rs.2.2.1 = 0 ∧ u.take rs.2.2.2.2 = bK rs.1 rs.2.1 := by
 rcases uF h he with h9 | ⟨_, h0, h1, h8, h2⟩
 ·exact absurd h9.1 h4
 refine ⟨?_, h1, h2⟩
 by_cases h7 : rs.1 = 7 ∨ rs.1 = 9 ∨ rs.1 = 10
 ·exact h8 h7
 refine ⟨?_, fun v hv => ?_⟩
 ·rw [← h2]
  intro e
  have := congrArg List.length e
  rw [List.length_take, Nat.min_eq_left hl, List.length_nil] at this
  omega
 ·have hk : (bK rs.1 rs.2.1).length = rs.2.2.2.2 := by rw [← h2, List.length_take, Nat.min_eq_left hl]
  rw [hk, ← h2]
  have := aIq h he hp hl (v := v) hv.1 (fun h3 => hv.2 h3 (fun h => h7 (.inl h)) (fun h => h7 (.inr (.inl h))) (fun h => h7 (.inr (.inr h))))
  rw [this]
  obtain ⟨a, b, c, d, e⟩ := rs
  simp only at he h1 ⊢
  rw [he, h1]
end Go.Dd

namespace Go.Dd
theorem stop_nil : Stop [] := ⟨by decide, by decide, by decide, by decide, by decide⟩
theorem fW (v : List Nat) : Stop (32 :: v) := ⟨by show cT 32 = false; decide, by show (32 : Nat) ≠ 58; decide, by show (32 : Nat) ≠ 61; decide, by show cU signs 32 = false; decide, by show (32 : Nat) ≠ 39; decide⟩
theorem jI {c : Nat} (h : c ∈ dE) (v : List Nat) : Stop (c :: v) := by
 have : c = 94 ∨ c = 46 ∨ c = 59 ∨ c = 40 ∨ c = 41 ∨ c = 91 ∨ c = 93 ∨ c = 124 := by simpa [aJ, dE] using h
 show aSw c
 rcases this with rfl | rfl | rfl | rfl | rfl | rfl | rfl | rfl <;> exact ⟨by decide, by decide, by decide, by decide, by decide⟩
theorem Stop.fol {v : List Nat} (h : Stop v) (k : Int) : Fol k v := ⟨fun _ => h.three, fun _ _ _ _ => h⟩
theorem hY {k : Int} {t v : List Nat} {p : Nat} {r : List Tok} (h : TV k t) (h0 : k ≠ 0) (hv : Fol k v) (hr : Lx 2001 v (p + (bK k t).length) r) : Lx 2001 (bK k t ++ v) p (⟨k, t, 0, (p : Int)⟩ :: r) := by
 have h1 : 1 ≤ (bK k t).length := by
  cases e : bK k t with
  | nil => exact absurd e h.1
  | cons c l => simp
 have := Lx.tok (g := 2001) [] (bK k t ++ v) p (bK k t).length (k, t, 0, 0, (bK k t).length) r .nil (h.2 v hv) rfl rfl h1 (by simp) h0 (by
  rw [List.drop_left]
  exact hr)
 exact this
theorem hD {v : List Nat} {p : Nat} {r : List Tok} (h : Lx 2001 v (p + 1) r) : Lx 2001 (32 :: v) p r := bSa (w := [32]) h (.blank 32 [] (by decide) .nil)
theorem aGr : ∀ (f n : Nat) (acc : List Nat), n < 10 ^ (f + 1) → n ≤ 1152921504606846976 → fB 0 (fK (f + 1) n acc) = fB (n : Int) acc
 | 0, n, acc, h, hn => by
  show fB 0 (bif Nat.ble 10 n then fK 0 (Nat.div n 10) (Nat.add 48 (Nat.mod n 10) :: acc) else Nat.add 48 n :: acc) = _
  have : Nat.ble 10 n = false := by
   cases e : Nat.ble 10 n with
   | false => rfl
   | true => have := Nat.le_of_ble_eq_true e; simp at h; omega
  rw [this]
  simp at h
  show (if 115292150460684697 < (0 : Int) then _ else if 1152921504606846976 < (0 : Int) * 10 + (((48 + n : Nat) : Int) - 48) then _ else fB ((0 : Int) * 10 + (((48 + n : Nat) : Int) - 48)) acc) = _
  rw [if_neg (by decide), if_neg (by omega), show ((0 : Int) * 10 + (((48 + n : Nat) : Int) - 48)) = (n : Int) by omega]
 | f + 1, n, acc, h, hn => by
  show fB 0 (bif Nat.ble 10 n then fK (f + 1) (Nat.div n 10) (Nat.add 48 (Nat.mod n 10) :: acc) else Nat.add 48 n :: acc) = _
  cases e : Nat.ble 10 n with
  | false =>
   have : n < 10 := by
    apply Decidable.byContradiction
    intro hc
    rw [Nat.ble_eq_true_of_le (by omega)] at e
    cases e
   show (if 115292150460684697 < (0 : Int) then _ else if 1152921504606846976 < (0 : Int) * 10 + (((48 + n : Nat) : Int) - 48) then _ else fB ((0 : Int) * 10 + (((48 + n : Nat) : Int) - 48)) acc) = _
   rw [if_neg (by decide), if_neg (by omega), show ((0 : Int) * 10 + (((48 + n : Nat) : Int) - 48)) = (n : Int) by omega]
  | true =>
   show fB 0 (fK (f + 1) (n / 10) ((48 + n % 10) :: acc)) = _
   have hp : 10 ^ (f + 1 + 1) = 10 ^ (f + 1) * 10 := rfl
   rw [aGr f (n / 10) _ (by omega) (by omega)]
   show (if 115292150460684697 < ((n / 10 : Nat) : Int) then _ else if 1152921504606846976 < ((n / 10 : Nat) : Int) * 10 + (((48 + n % 10 : Nat) : Int) - 48) then _ else fB (((n / 10 : Nat) : Int) * 10 + (((48 + n % 10 : Nat) : Int) - 48)) acc) = _
   rw [if_neg (by omega), if_neg (by omega)]
   congr 1
   omega
theorem qX : ∀ (f n : Nat) (acc : List Nat), (∀ c ∈ acc, aS c = true) → ∀ c ∈ fK f n acc, aS c = true
 | 0, n, acc, h => h
 | f + 1, n, acc, h => by
  show ∀ c ∈ (bif Nat.ble 10 n then fK f (Nat.div n 10) (Nat.add 48 (Nat.mod n 10) :: acc) else Nat.add 48 n :: acc), _
  cases e : Nat.ble 10 n with
  | true =>
   refine qX f _ _ fun c hc => ?_
   rcases List.mem_cons.1 hc with rfl | hc
   ·show aS (48 + n % 10) = true
    simp [aS]; omega
   ·exact h c hc
  | false =>
   intro c hc
   have : n < 10 := by
    apply Decidable.byContradiction
    intro hc
    rw [Nat.ble_eq_true_of_le (by omega)] at e
    cases e
   rcases List.mem_cons.1 hc with rfl | hc
   ·show aS (48 + n) = true
    simp [aS]; omega
   ·exact h c hc
theorem aIg : ∀ (f n : Nat) (acc : List Nat), fK (f + 1) n acc ≠ []
 | 0, n, acc => by
  show (bif Nat.ble 10 n then _ :: acc else _ :: acc) ≠ []
  cases Nat.ble 10 n <;> exact List.cons_ne_nil _ _
 | f + 1, n, acc => by
  show (bif Nat.ble 10 n then fK (f + 1) (Nat.div n 10) _ else _ :: acc) ≠ []
  cases Nat.ble 10 n with
  | true => exact aIg f _ _
  | false => exact List.cons_ne_nil _ _
theorem rF : ∀ (f n k : Nat) (acc : List Nat), n < 10 ^ (k + 1) → (fK f n acc).length ≤ k + 1 + acc.length
 | 0, n, k, acc, h => by show acc.length ≤ _; omega
 | f + 1, n, k, acc, h => by
  show (bif Nat.ble 10 n then fK f (Nat.div n 10) (Nat.add 48 (Nat.mod n 10) :: acc) else Nat.add 48 n :: acc).length ≤ _
  cases e : Nat.ble 10 n with
  | false => show acc.length + 1 ≤ _; omega
  | true =>
   have := Nat.le_of_ble_eq_true e
   cases k with
   | zero => simp at h; omega
   | succ k =>
    have hp : 10 ^ (k + 1 + 1) = 10 ^ (k + 1) * 10 := rfl
    have := rF f (n / 10) k ((48 + n % 10) :: acc) (by omega)
    simp only [List.length_cons] at this
    show (fK f (n / 10) ((48 + n % 10) :: acc)).length ≤ _
    omega
theorem aSn (so : Nat → Bool) : ∀ (a v : List Nat), (∀ c ∈ a, so c = true) → (∀ c r, v = c :: r → so c = false) → (a ++ v).takeWhile so = a
 | [], v, h, hv => by
  cases v with
  | nil => rfl
  | cons c r => simp [hv c r rfl]
 | c :: a, v, h, hv => by
  have := aSn so a v (fun d hd => h d (by simp [hd])) hv
  simp [h c (by simp), this]
def dg (n : Nat) : List Nat := fK 20 n []
theorem wG (n : Nat) : ∃ c l, dg n = c :: l ∧ aS c = true := by
 cases e : dg n with
 | nil => exact absurd e (aIg 19 n [])
 | cons c l => exact ⟨c, l, rfl, qX 20 n [] (fun c hc => by cases hc) c (by show c ∈ dg n; rw [e]; simp)⟩
theorem aJa {n : Nat} (hn : n ≤ 1152921504606846976) {v : List Nat} (hv : ∀ c r, v = c :: r → cT c = false) : aY 2001 (dg n ++ v) = some (4, [], (n : Int), 0, (dg n).length) := by
 obtain ⟨c, l, e, hc⟩ := wG n
 have e2 : (dg n ++ v).takeWhile aS = dg n := aSn aS _ _ (qX 20 n [] fun c hc => by cases hc) fun c r e => by
  have := hv c r e
  unfold cT at this
  cases e3 : aS c with
  | false => rfl
  | true => rw [e3] at this; simp at this
 have h0 : nx (dg n ++ v) 0 = c := by rw [e]; rfl
 have h1 : bF c = false := by
  simp [aS] at hc
  simp [bF]; omega
 have h2 := aGr 19 n [] (by show n < 100000000000000000000; omega) hn
 unfold aY cV
 rw [h0, if_neg (by simp [h1]), if_pos hc, e2]
 show some ((4 : Int), ([] : List Nat), (fB 0 (dg n)).1, (fB 0 (dg n)).2, (dg n).length) = _
 rw [show fB 0 (dg n) = ((n : Int), 0) from h2]
theorem aOr {n : Nat} (hn : n ≤ 1152921504606846976) {v : List Nat} {p : Nat} {r : List Tok} (hv : ∀ c r, v = c :: r → cT c = false) (hr : Lx 2001 v (p + (dg n).length) r) : Lx 2001 (dg n ++ v) p (⟨4, [], (n : Int), (p : Int)⟩ :: r) := by
 obtain ⟨c, l, e, hc⟩ := wG n
 exact Lx.tok (g := 2001) [] (dg n ++ v) p (dg n).length (4, [], (n : Int), 0, (dg n).length) r .nil (aJa hn hv) rfl rfl (by rw [e]; simp) (by simp) (by show (4 : Int) ≠ 0; decide) (by
  rw [List.drop_left]
  exact hr)
theorem aKs : TV 3 [45] := ⟨by decide, fun v hv => by
 have h := hv.1 rfl
 have : bH (cU signs) 2 (45 :: v) = 1 := by
  show (if cU signs 45 then bH (cU signs) 1 v + 1 else 0) = 1
  rw [if_pos (by decide)]
  cases v with
  | nil => rfl
  | cons c r =>
   have h : cU signs c = false := h
   show (if cU signs c then _ else 0) + 1 = 1
   rw [h]; rfl
 show aY 2001 (45 :: v) = _
 unfold aY
 rw [show nx (45 :: v) 0 = 45 from rfl, this]
 rfl⟩
theorem bHg {n : Nat} (hn : n ≤ 1152921504606846976) {v : List Nat} {p : Nat} {r : List Tok} (hv : Stop v) (hr : Lx 2001 v (p + 1 + (dg n).length) r) : Lx 2001 (45 :: (dg n ++ v)) p (⟨3, [45], 0, (p : Int)⟩ :: ⟨4, [], (n : Int), ((p + 1 : Nat) : Int)⟩ :: r) := by
 refine hY (k := 3) (t := [45]) aKs (by decide) ⟨fun _ => ?_, fun h => absurd rfl h⟩ (aOr hn hv.name hr)
 obtain ⟨c, l, e, hc⟩ := wG n
 show cU signs (nx (dg n ++ v) 0) = false
 rw [e]
 exact (aDh hc).1
theorem bFa : ∀ (s : List Nat) (i : Nat), (∀ c ∈ s, c ≠ 58) → cO 58 s i = -1
 | [], i, h => rfl
 | c :: s, i, h => by
  have ih := bFa s (i + 1) fun d hd => h d (by simp [hd])
  show (bif Nat.beq c 58 then Int.ofNat i else cO 58 s (i + 1)) = -1
  cases e : Nat.beq c 58 with
  | true => exact absurd (Nat.eq_of_beq_eq_true e) (h c (by simp))
  | false => exact ih
theorem bAt : ∀ (s r : List Nat) (i : Nat), 0 ≤ cO 58 (s ++ 58 :: r) i
 | [], r, i => by show (0 : Int) ≤ (bif Nat.beq 58 58 then Int.ofNat i else _); simp
 | c :: s, r, i => by
  have ih := bAt s r (i + 1)
  show 0 ≤ (bif Nat.beq c 58 then Int.ofNat i else cO 58 (s ++ 58 :: r) (i + 1))
  cases e : Nat.beq c 58 with
  | true => simp
  | false => exact ih
theorem bGc {c : Nat} (h : cT c = true) : c ≠ 58 := fun e => by rw [e] at h; cases h
theorem aPh {c : Nat} (h : cU signs c = true) : c ≠ 58 ∧ nF c = false := by
 have : c = 43 ∨ c = 45 ∨ c = 42 ∨ c = 47 ∨ c = 60 ∨ c = 62 ∨ c = 61 ∨ c = 126 ∨ c = 44 ∨ c = 64 ∨ c = 38 ∨ c = 37 := by simpa [aJ, cU, signs] using h
 rcases this with rfl | rfl | rfl | rfl | rfl | rfl | rfl | rfl | rfl | rfl | rfl | rfl <;> exact ⟨by decide, by decide⟩
theorem aEs (so : Nat → Bool) : ∀ (m : Nat) (u : List Nat), ∀ c ∈ u.take (bH so m u), so c = true
 | 0, u => fun c hc => by simp [bH] at hc
 | m + 1, [] => fun c hc => by simp [bH] at hc
 | m + 1, a :: u => fun c hc => by
  cases e : so a with
  | false => simp [bH, e] at hc
  | true =>
   simp only [bH, e, if_true, List.take_succ_cons] at hc
   rcases List.mem_cons.1 hc with rfl | hc
   ·exact e
   ·exact aEs so m u c hc
theorem fC {k : Int} {t : List Nat} (h : TV k t) : (k = 1 → bX t = 1 ∧ (∀ c ∈ t, c ≠ 58)) ∧ (k = 2 → ∃ q, t = q ++ [58] ∧ ∀ c ∈ q, c ≠ 58) ∧ (k = 3 → bX t = 2 ∧ (∀ c ∈ t, c ≠ 58)) := by
 have h1 := h.2 [] (stop_nil.fol k)
 have hne := h.1
 generalize bK k t ++ [] = u at h1
 have hnm : ∀ c ∈ u.takeWhile cT, c ≠ 58 := fun c hc => bGc (qO cT u c hc)
 have fin1 : ∀ {x : Nat}, bF (nx u 0) = true → bX (u.takeWhile cT) = 1 := fun {_} hl => by
  unfold bX
  rw [bFa _ 0 hnm, if_neg (by decide)]
  cases u with
  | nil => cases hl
  | cons c u =>
   have hl : bF c = true := hl
   have : cT c = true := by unfold cT; rw [hl]; rfl
   simp only [List.takeWhile_cons, this, if_true]
   have : nF c = true := hl
   simp [this]
 unfold aY at h1
 split at h1
 ·rename_i hl
  split at h1
  ·rename_i hn
   have en : (aI u).1 = u.takeWhile cT := by
    unfold aI at hn ⊢
    split
    ·rename_i h24; rw [if_pos h24] at hn; cases hn
    ·rfl
   split at h1
   ·simp only [aW, bR] at h1
    refine ⟨fun e => by omega, fun _ => ⟨u.takeWhile cT, by rw [← h1.2.1, en], hnm⟩, fun e => by omega⟩
   ·simp only [aW, bR] at h1
    refine ⟨fun _ => ?_, fun e => by omega, fun e => by omega⟩
    rw [← h1.2.1, en]
    exact ⟨fin1 (x := 0) hl, hnm⟩
  ·rename_i hn
   simp only [aW, bR] at h1
   exact absurd h1.2.2.2.1 hn
 split at h1
 ·simp only [aW, bR] at h1
  exact ⟨fun e => by omega, fun e => by omega, fun e => by omega⟩
 split at h1
 ·obtain ⟨q, hq, h1⟩ := bD h1
  simp only [aW, bR] at h1
  exact ⟨fun e => by omega, fun e => by omega, fun e => by omega⟩
 split at h1
 ·split at h1
  ·simp only [aW, bR] at h1
   exact ⟨fun e => by omega, fun e => by omega, fun e => by omega⟩
  ·obtain ⟨q, hq, h1⟩ := bD h1
   simp only [aW, bR] at h1
   exact ⟨fun e => by omega, fun e => by omega, fun e => by omega⟩
 split at h1
 ·simp only [aW, bR] at h1
  exact ⟨fun e => by omega, fun e => by omega, fun e => by omega⟩
 split at h1
 ·simp only [aW, bR] at h1
  exact ⟨fun e => by omega, fun e => by omega, fun e => by omega⟩
 split at h1
 ·simp only [aW, bR] at h1
  refine ⟨fun e => by omega, fun e => by omega, fun e => ?_⟩
  have hall := aEs (cU signs) 2 u
  rw [h1.2.1] at hall
  have h58 : ∀ c ∈ t, c ≠ 58 := fun c hc => (aPh (hall c hc)).1
  refine ⟨?_, h58⟩
  unfold bX
  rw [bFa _ 0 h58, if_neg (by decide)]
  cases t with
  | nil => rfl
  | cons c t => simp [(aPh (hall c (by simp))).2]
 split at h1
 ·simp only [aW, bR] at h1
  exact ⟨fun e => by omega, fun e => by omega, fun e => by omega⟩
 ·simp only [aW, bR] at h1
  have := h1.2.2.2.1
  omega
theorem qR : ∀ (q acc r : List Nat), (∀ c ∈ q, c ≠ 58) → cH 58 acc (q ++ 58 :: r) = (acc ++ q ++ [58]) :: cH 58 [] r
 | [], acc, r, h => by
  show (bif Nat.beq 58 58 then _ else _) = _
  simp
 | c :: q, acc, r, h => by
  have ih := qR q (acc ++ [c]) r fun d hd => h d (by simp [hd])
  have hc : Nat.beq c 58 = false := by
   cases e : Nat.beq c 58 with
   | false => rfl
   | true => exact absurd (Nat.eq_of_beq_eq_true e) (h c (by simp))
  show (bif Nat.beq c 58 then (acc ++ [c]) :: cH 58 [] (q ++ 58 :: r) else cH 58 (acc ++ [c]) (q ++ 58 :: r)) = _
  rw [hc]
  show cH 58 (acc ++ [c]) (q ++ 58 :: r) = _
  rw [ih]
  simp
theorem tD : ∀ (ps : List (List Nat)), (∀ p ∈ ps, ∃ q, p = q ++ [58] ∧ ∀ c ∈ q, c ≠ 58) → cH 58 [] ps.flatten = ps ++ [[]]
 | [], h => rfl
 | p :: ps, h => by
  obtain ⟨q, rfl, hq⟩ := h p (by simp)
  have ih := tD ps fun x hx => h x (by simp [hx])
  rw [List.flatten_cons, List.append_assoc]
  rw [show [58] ++ ps.flatten = 58 :: ps.flatten from rfl, qR q [] _ hq, ih]
  simp
theorem xY {ps : List (List Nat)} (h : ∀ p ∈ ps, TV 2 p) : fZ ps.flatten = ps := by
 unfold fZ
 rw [tD ps fun p hp => (fC (h p hp)).2.1 rfl]
 simp
theorem kS {ps : List (List Nat)} (h : ∀ p ∈ ps, TV 2 p) (hne : ps ≠ []) : bX ps.flatten = 3 := by
 obtain ⟨p, r, rfl⟩ : ∃ p r, ps = p :: r := by cases ps with
  | nil => exact absurd rfl hne
  | cons p r => exact ⟨p, r, rfl⟩
 obtain ⟨q, rfl, _⟩ := (fC (h p (by simp))).2.1 rfl
 unfold bX
 rw [if_pos]
 have := bAt q r.flatten 0
 simpa [aJ] using this
end Go.Dd

namespace Go.Dd
def sd (T : List Tok) (d : Nat) : PSt := ⟨T, (d : Int), 0, 0⟩
theorem gG (t : Tok) (r : List Tok) (d : Nat) : aX (sd (t :: r) d) 0 = some t := by simp [aX, sd]
theorem aBl (t u : Tok) (r : List Tok) (d : Nat) : aX (sd (t :: u :: r) d) 1 = some u := by simp [aX, sd, show min 1 (r.length + 1) = 1 by omega]
theorem eT {t u : Tok} {r : List Tok} {d : Nat} (h : t.kind ≠ 0) : aT (sd (t :: u :: r) d) = some (t, sd (u :: r) d) := by
 unfold aT
 rw [gG, Option.bind_some, if_neg h, if_pos (by simp [sd])]
 rfl
theorem is1 (t : Tok) (r : List Tok) (d : Nat) (k : Int) (x : List Nat) : dQ (sd (t :: r) d) k x = some (decide (t.kind = k) && (decide (x = []) || decide (t.text = x))) := by
 unfold dQ
 rw [gG, Option.bind_some]
 simp [sd]
theorem isT {t : Tok} {r : List Tok} {d : Nat} {k : Int} (h : t.kind = k) : dQ (sd (t :: r) d) k [] = some true := by rw [is1, h]; simp
theorem isN {t : Tok} {r : List Tok} {d : Nat} {k : Int} {x : List Nat} (h : t.kind ≠ k) : dQ (sd (t :: r) d) k x = some false := by rw [is1]; simp [h]
theorem isX {t : Tok} {r : List Tok} {d : Nat} {k : Int} {x : List Nat} (h : t.kind = k) (h2 : t.text = x) : dQ (sd (t :: r) d) k x = some true := by rw [is1, h, h2]; simp
theorem isY {t : Tok} {r : List Tok} {d : Nat} {k : Int} {x : List Nat} (hx : x ≠ []) (h : ¬ (t.kind = k ∧ t.text = x)) : dQ (sd (t :: r) d) k x = some false := by
 rw [is1]
 simp [hx]
 intro a b
 exact h ⟨a, b⟩
theorem aAm {t u : Tok} {r : List Tok} {d : Nat} {k : Int} {x : List Nat} (h : dQ (sd (t :: u :: r) d) k x = some true) (h0 : t.kind ≠ 0) : dZ (sd (t :: u :: r) d) k x = some (t, sd (u :: r) d) := by
 unfold dZ
 rw [h, Option.bind_some, if_pos rfl, eT h0]
theorem Lx.cons {g : Nat} {v : List Nat} {p : Nat} {r : List Tok} (h : Lx g v p r) : ∃ t l, r = t :: l := by
 obtain ⟨a, b, e, _⟩ := h.first
 exact ⟨a, b, e⟩
def Hd (P : Tok → Prop) (r : List Tok) : Prop := ∃ t l, r = t :: l ∧ P t
def pP (t : Tok) : Prop := t.kind ≠ 9
def pU (t : Tok) : Prop := t.kind ≠ 9 ∧ t.kind ≠ 1
def pB (t : Tok) : Prop := t.kind ≠ 9 ∧ t.kind ≠ 1 ∧ t.kind ≠ 3
def pK (t : Tok) : Prop := t.kind ≠ 9 ∧ t.kind ≠ 1 ∧ t.kind ≠ 3 ∧ t.kind ≠ 2
def pE (t : Tok) : Prop := t.kind ≠ 9 ∧ t.kind ≠ 1 ∧ t.kind ≠ 3 ∧ t.kind ≠ 2 ∧ ¬ (t.kind = 10 ∧ t.text = [59])
theorem Hd.mono {P Q : Tok → Prop} (h : ∀ t, P t → Q t) {r : List Tok} : Hd P r → Hd Q r := fun ⟨t, l, e, k⟩ => ⟨t, l, e, h t k⟩
def HG (t : Tok) : Prop := t.kind ≠ 0 ∧ (t.kind ≠ 8 ∧ t.kind ≠ 2) ∧ (t.kind = 3 → t.text = [45]) ∧ (t.kind = 10 → t.text = [40] ∨ t.text = [91])
def NA (T : List Tok) : Prop := ∃ t u l, T = t :: u :: l ∧ HG t ∧ ¬ (t.kind = 1 ∧ u.kind = 9)
def HE (T : List Tok) : Prop := ∃ t u l, T = t :: u :: l ∧ HG t
theorem NA.he {T : List Tok} : NA T → HE T := fun ⟨t, u, l, a, b, _⟩ => ⟨t, u, l, a, b⟩
def PP (f : Nat) : PF := cZ (mO f) (dU f) f
def FU (f : Nat) : PF := fun st => (PP f st).bind fun q => bO f q.1 q.2
def FB (f : Nat) : PF := fun st => (FU f st).bind fun u => bM (PP f) f f u.1 u.2
def FK (f : Nat) : PF := fun st => (FB f st).bind fun w => gW (PP f) f w.1 w.2
def RdP (d : Nat) (x : Node) (tx : List Nat) : Prop := ∀ v p r, p + (tx ++ v).length ≤ 100000 → Stop v → Lx 2001 v (p + tx.length) r → Hd pP r → ∃ T, Lx 2001 (tx ++ v) p T ∧ r.length < T.length ∧ NA T ∧ ∀ f, T.length + 2 ≤ f → PP f (sd T d) = some (x, sd r d)
def RdU (d : Nat) (x : Node) (tx : List Nat) : Prop := ∀ v p r, p + (tx ++ v).length ≤ 100000 → Stop v → Lx 2001 v (p + tx.length) r → Hd pP r → ∃ T, Lx 2001 (tx ++ v) p T ∧ r.length < T.length ∧ NA T ∧ ∀ f, T.length + 2 ≤ f → ∃ g, r.length + 1 ≤ g ∧ FU f (sd T d) = bO g x (sd r d)
def RdB (d : Nat) (x : Node) (tx : List Nat) : Prop := ∀ v p r, p + (tx ++ v).length ≤ 100000 → Stop v → Lx 2001 v (p + tx.length) r → Hd pU r → ∃ T, Lx 2001 (tx ++ v) p T ∧ r.length < T.length ∧ NA T ∧ ∀ f, T.length + 2 ≤ f → ∃ g, r.length + 1 ≤ g ∧ FB f (sd T d) = bM (PP f) f g x (sd r d)
def RdK (d : Nat) (x : Node) (tx : List Nat) : Prop := ∀ v p r, p + (tx ++ v).length ≤ 100000 → Stop v → Lx 2001 v (p + tx.length) r → Hd pK r → ∃ T, Lx 2001 (tx ++ v) p T ∧ r.length < T.length ∧ NA T ∧ ∀ f, T.length + 2 ≤ f → FK f (sd T d) = some (x, sd r d)
def RdE (d : Nat) (x : Node) (tx : List Nat) : Prop := ∀ v p r, p + (tx ++ v).length ≤ 100000 → Stop v → Lx 2001 v (p + tx.length) r → Hd pE r → ∃ T, Lx 2001 (tx ++ v) p T ∧ r.length < T.length ∧ HE T ∧ ∀ f, T.length + 2 ≤ f → dU (f + 1) (sd T d) = some (x, sd r d)
theorem oP {g : Nat} {x : Node} {r : List Tok} {d : Nat} (hg : 1 ≤ g) (h : Hd pU r) : bO g x (sd r d) = some (x, sd r d) := by
 obtain ⟨t, l, rfl, h1, h2⟩ := h
 obtain ⟨g, rfl⟩ : ∃ k, g = k + 1 := ⟨g - 1, by omega⟩
 unfold bO
 rw [isN h2]
 rfl
theorem jW {P : PF} {f g : Nat} {x : Node} {r : List Tok} {d : Nat} (hg : 1 ≤ g) (h : Hd pB r) : bM P f g x (sd r d) = some (x, sd r d) := by
 obtain ⟨t, l, rfl, h1, h2, h3⟩ := h
 obtain ⟨g, rfl⟩ : ∃ k, g = k + 1 := ⟨g - 1, by omega⟩
 unfold bM
 rw [isN h3]
 rfl
theorem aNg {P : PF} {f : Nat} {x : Node} {r : List Tok} {d : Nat} (h : Hd pK r) : gW P f x (sd r d) = some (x, sd r d) := by
 obtain ⟨t, l, rfl, h1, h2, h3, h4⟩ := h
 unfold gW
 rw [isN h4]
 rfl
theorem RdP.u {d : Nat} {x : Node} {tx : List Nat} (h : RdP d x tx) : RdU d x tx := fun v p r hl hv hr hd => by
 obtain ⟨T, a, b, c, e⟩ := h v p r hl hv hr hd
 refine ⟨T, a, b, c, fun f hf => ⟨f, by omega, ?_⟩⟩
 unfold FU
 rw [e f hf]
 rfl
theorem RdU.b {d : Nat} {x : Node} {tx : List Nat} (h : RdU d x tx) : RdB d x tx := fun v p r hl hv hr hd => by
 obtain ⟨T, a, b, c, e⟩ := h v p r hl hv hr (hd.mono fun _ h => h.1)
 refine ⟨T, a, b, c, fun f hf => ⟨f, by omega, ?_⟩⟩
 obtain ⟨g, g1, g2⟩ := e f hf
 unfold FB
 rw [g2, oP (by omega) hd]
 rfl
theorem RdB.k {d : Nat} {x : Node} {tx : List Nat} (h : RdB d x tx) : RdK d x tx := fun v p r hl hv hr hd => by
 obtain ⟨T, a, b, c, e⟩ := h v p r hl hv hr (hd.mono fun _ h => ⟨h.1, h.2.1⟩)
 refine ⟨T, a, b, c, fun f hf => ?_⟩
 obtain ⟨g, g1, g2⟩ := e f hf
 unfold FK
 rw [g2, jW (by omega) (hd.mono fun _ h => ⟨h.1, h.2.1, h.2.2.1⟩), Option.bind_some, aNg hd]
theorem mG (f : Nat) (st : PSt) : fR (PP f) f st = (FK f st).bind fun n => (dQ n.2 10 [59]).bind fun c => if c then
 if n.1.kind = 7 then (n.1.kids[0]?).bind fun k0 => jC (PP f) f f [k0, fH n.1] n.2
 else (aX n.2 0).bind fun t => some (n.1, cP n.2 t 13)
 else some n := by
 unfold fR FK FB FU
 simp only [Option.bind_assoc]
theorem aAx {f : Nat} {T : List Tok} {d : Nat} (h : NA T) : dU (f + 1) (sd T d) = fR (PP f) f (sd T d) := by
 obtain ⟨t, u, l, rfl, h1, h2⟩ := h
 show kP (PP f) (dU f) f (sd (t :: u :: l) d) = _
 unfold kP
 by_cases h3 : t.kind = 1
 ·have h4 : u.kind ≠ 9 := fun h => h2 ⟨h3, h⟩
  rw [isT h3, Option.bind_some, if_pos rfl, aBl]
  simp [h4]
 ·rw [isN h3]
  rfl
theorem RdK.e {d : Nat} {x : Node} {tx : List Nat} (h : RdK d x tx) : RdE d x tx := fun v p r hl hv hr hd => by
 obtain ⟨T, a, b, c, e⟩ := h v p r hl hv hr (hd.mono fun _ h => ⟨h.1, h.2.1, h.2.2.1, h.2.2.2.1⟩)
 refine ⟨T, a, b, c.he, fun f hf => ?_⟩
 rw [aAx c, mG, e f hf, Option.bind_some]
 obtain ⟨t, l, rfl, h1⟩ := hd
 rw [isY (by decide) h1.2.2.2.2]
 rfl
theorem bGl (t : List Nat) : bK 1 t = t := rfl
theorem RdU.send {d : Nat} {x : Node} {tx n : List Nat} (h : RdU d x tx) (hn : TV 1 n) : RdU d (aH n [x]) (tx ++ 32 :: n) := fun v p r hl hv hr hd => by
 obtain ⟨t0, l0, rfl, hd⟩ := hd
 have l1 := hY (p := p + tx.length + 1) hn (by decide) (hv.fol 1) (r := t0 :: l0) (by
  rw [show p + tx.length + 1 + (bK 1 n).length = p + (tx ++ 32 :: n).length by simp [bGl]; omega]
  exact hr)
 obtain ⟨T, a, b, c, e⟩ := h (32 :: (n ++ v)) p _ (by simp only [List.length_append, List.length_cons] at hl ⊢; omega) (fW _) (hD l1) ⟨_, _, rfl, by show (1 : Int) ≠ 9; decide⟩
 simp only [List.length_cons] at b
 refine ⟨T, by simpa using a, by simp only [List.length_cons]; omega, c, fun f hf => ?_⟩
 obtain ⟨g, g1, g2⟩ := e f hf
 simp only [List.length_cons] at g1
 obtain ⟨g, rfl⟩ : ∃ k, g = k + 1 := ⟨g - 1, by omega⟩
 refine ⟨g, by simp only [List.length_cons]; omega, ?_⟩
 rw [g2]
 show bO (g + 1) x (sd (_ :: t0 :: l0) d) = _
 conv => lhs; unfold bO
 rw [isT rfl, Option.bind_some, if_pos rfl, eT (by show (1 : Int) ≠ 0; decide)]
 rfl
theorem RdB.send {d : Nat} {x y : Node} {tx ty s : List Nat} (h : RdB d x tx) (hs : TV 3 s) (hy : RdU d y ty) : RdB d (aH s [x, y]) (tx ++ 32 :: (s ++ 32 :: ty)) := fun v p r hl hv hr hd => by
 obtain ⟨T1, a1, b1, c1, e1⟩ := hy v (p + tx.length + 1 + s.length + 1) r (by simp only [List.length_append, List.length_cons] at hl ⊢; omega) hv (by
  rw [show p + tx.length + 1 + s.length + 1 + ty.length = p + (tx ++ 32 :: (s ++ 32 :: ty)).length by simp; omega]
  exact hr) (hd.mono fun _ h => h.1)
 have l1 := hY (p := p + tx.length + 1) hs (by decide) ((fW (ty ++ v)).fol 3) (r := T1) (hD a1)
 obtain ⟨T, a, b, c, e⟩ := h (32 :: (s ++ 32 :: (ty ++ v))) p _ (by simp only [List.length_append, List.length_cons] at hl ⊢; omega) (fW _) (hD l1) ⟨_, _, rfl, by show (3 : Int) ≠ 9; decide, by show (3 : Int) ≠ 1; decide⟩
 simp only [List.length_cons] at b
 refine ⟨T, by simpa using a, by omega, c, fun f hf => ?_⟩
 obtain ⟨g, g1, g2⟩ := e f hf
 simp only [List.length_cons] at g1
 obtain ⟨g, rfl⟩ : ∃ k, g = k + 1 := ⟨g - 1, by omega⟩
 refine ⟨g, by omega, ?_⟩
 obtain ⟨q, q1, q2⟩ := e1 f (by omega)
 rw [g2]
 obtain ⟨t1, u1, k1, rfl, _⟩ := c1
 conv => lhs; unfold bM
 rw [isT rfl, Option.bind_some, if_pos rfl, eT (by show (3 : Int) ≠ 0; decide), Option.bind_some]
 have : ((PP f (sd (t1 :: u1 :: k1) d)).bind fun q => (bO f q.1 q.2).bind fun u => bM (PP f) f g (aH s [x, u.1]) u.2) = bM (PP f) f g (aH s [x, y]) (sd r d) := by
  rw [← Option.bind_assoc]
  show (FU f (sd (t1 :: u1 :: k1) d)).bind _ = _
  rw [q2, oP (by omega) hd]
  rfl
 exact this
theorem bIm {n : Nat} (h : n ≤ 1000000) : jB ((n : Int) + 1) = ((n + 1 : Nat) : Int) := uW h
theorem bIt {n : Nat} (h : n ≤ 1000000) : jB (((n + 1 : Nat) : Int) - 1) = (n : Int) := by
 unfold jB
 rw [gE _ (by omega) (by omega)]
 omega
theorem lB {t : Tok} {r : List Tok} {d : Nat} (h3 : t.kind ≠ 3) (h4 : t.kind ≠ 4) (h5 : t.kind ≠ 5) (h6 : t.kind ≠ 6) : dO (sd (t :: r) d) = some ((.mk 0 t.text t.num [] [] [], false), sd (t :: r) d) := by
 have hn : oK (sd (t :: r) d) = some false := by
  unfold oK
  obtain ⟨u, hu⟩ : ∃ u, aX (sd (t :: r) d) 1 = some u := by
   cases r with
   | nil => exact ⟨t, by simp [aX, sd]⟩
   | cons u r => exact ⟨u, aBl _ _ _ _⟩
  rw [hu, Option.bind_some, isN h3, Option.bind_some, gG]
  rfl
 unfold dO
 rw [gG, Option.bind_some, if_pos (by rfl), hn, Option.bind_some, if_neg (by decide), if_neg h4, if_neg h5, if_neg h6]
theorem kV {F : PF} {t u : Tok} {r r' : List Tok} {d : Nat} {x : Node} (h0 : t.kind ≠ 0) (hd : d < 20) (h : F (sd (u :: r) (d + 1)) = some (x, sd r' (d + 1))) : cF F (sd (t :: u :: r) d) = some (x, sd r' d) := by
 unfold cF
 rw [eT h0, Option.bind_some]
 have h1 : ¬ ((sd (u :: r) d).deep = 20) := by show ¬ ((d : Int) = 20); omega
 rw [if_neg h1]
 have h2 : ({ (sd (u :: r) d) with deep := jB ((sd (u :: r) d).deep + 1) } : PSt) = sd (u :: r) (d + 1) := by
  show (⟨u :: r, jB ((d : Int) + 1), 0, 0⟩ : PSt) = _
  rw [bIm (by omega)]
  rfl
 show (F ({ (sd (u :: r) d) with deep := jB ((sd (u :: r) d).deep + 1) } : PSt)).bind _ = _
 rw [h2, h]
 show some (x, (⟨r', jB (((d + 1 : Nat) : Int) - 1), 0, 0⟩ : PSt)) = _
 rw [bIt (by omega)]
 rfl
theorem iQ {c : Nat} (h : c ∈ dE) {v : List Nat} {p : Nat} {r : List Tok} (hr : Lx 2001 v (p + 1) r) : Lx 2001 (c :: v) p (⟨10, [c], 0, (p : Int)⟩ :: r) :=
 hY (k := 10) (t := [c]) (aHo h) (by decide) ⟨fun h => absurd h (by decide), fun _ _ _ h => absurd rfl h⟩ hr
theorem RdE.paren {d : Nat} {x : Node} {tx : List Nat} (h : RdE (d + 1) x tx) (hd : d < 20) : RdP d x (40 :: (tx ++ [41])) := fun v p r hl hv hr hr0 => by
 obtain ⟨t0, l0, rfl, _⟩ := hr0
 have l1 := iQ (c := 41) (by decide) (v := v) (p := p + 1 + tx.length) (r := t0 :: l0) (by
  rw [show p + 1 + tx.length + 1 = p + (40 :: (tx ++ [41])).length by simp; omega]
  exact hr)
 obtain ⟨T, a, b, c, e⟩ := h (41 :: v) (p + 1) _ (by simp only [laE, lcE, lnE] at hl ⊢; omega) (jI (by decide) v) l1 ⟨_, _, rfl, by show (10 : Int) ≠ 9; decide, by show (10 : Int) ≠ 1; decide, by show (10 : Int) ≠ 3; decide, by show (10 : Int) ≠ 2; decide, by rintro ⟨_, h⟩; exact absurd h (show ([41] : List Nat) ≠ [59] by decide)⟩
 have l2 := iQ (c := 40) (by decide) a
 simp only [List.length_cons] at b
 obtain ⟨t1, u1, l1, rfl, h1⟩ := c
 refine ⟨_, by simpa using l2, by simp only [List.length_cons] at b ⊢; omega, ⟨_, _, _, rfl, ⟨by show (10 : Int) ≠ 0; decide, by show (10 : Int) ≠ 8 ∧ (10 : Int) ≠ 2; decide, fun h => absurd h (by show (10 : Int) ≠ 3; decide), fun _ => .inl rfl⟩, fun h => absurd h.1 (by show (10 : Int) ≠ 1; decide)⟩, fun f hf => ?_⟩
 obtain ⟨f, rfl⟩ : ∃ k, f = k + 1 := ⟨f - 1, by omega⟩
 have hE := e f (by simp only [List.length_cons] at hf ⊢; omega)
 unfold PP cZ
 rw [lB (by show (10 : Int) ≠ 3; decide) (by show (10 : Int) ≠ 4; decide) (by show (10 : Int) ≠ 5; decide) (by show (10 : Int) ≠ 6; decide), Option.bind_some]
 show (if false = true then _ else (aX (sd (_ :: t1 :: u1 :: l1) d) 0).bind _) = _
 rw [if_neg (by decide), gG, Option.bind_some, if_pos (by rfl), if_neg (by show (10 : Int) ≠ 1; decide), if_neg (by show (10 : Int) ≠ 7; decide)]
 show (dQ (sd (_ :: t1 :: u1 :: l1) d) 10 [40]).bind _ = _
 rw [isX rfl rfl, Option.bind_some, if_pos rfl]
 refine kV (by show (10 : Int) ≠ 0; decide) hd ?_
 unfold jT
 rw [hE, Option.bind_some]
 show (dZ (sd (_ :: t0 :: l0) (d + 1)) 10 [41]).bind _ = _
 rw [aAm (isX rfl rfl) (by show (10 : Int) ≠ 0; decide)]
 rfl
theorem RdE.assign {d : Nat} {x : Node} {tx n : List Nat} (h : RdE d x tx) (hn : TV 1 n) : RdE d (.mk 6 n 0 [] [] [x]) (n ++ 32 :: 58 :: 61 :: 32 :: tx) := fun v p r hl hv hr hr0 => by
 obtain ⟨T, a, b, c, e⟩ := h v (p + n.length + 1 + 2 + 1) r (by simp only [List.length_append, List.length_cons] at hl ⊢; omega) hv (by
  rw [show p + n.length + 1 + 2 + 1 + tx.length = p + (n ++ 32 :: 58 :: 61 :: 32 :: tx).length by simp; omega]
  exact hr) hr0
 have l1 := hY (k := 9) (t := []) (p := p + n.length + 1) aNh (by decide) ⟨fun h => absurd h (by decide), fun _ _ h _ => absurd rfl h⟩ (hD a)
 have l2 := hY (p := p) hn (by decide) ((fW _).fol 1) (r := _) (hD l1)
 obtain ⟨t1, u1, k1, rfl, h1⟩ := c
 refine ⟨_, by simpa [aJ, bK] using l2, by simp only [List.length_cons] at b ⊢; omega, ⟨_, _, _, rfl, by show (1 : Int) ≠ 0; decide, by show (1 : Int) ≠ 8 ∧ (1 : Int) ≠ 2; decide, fun h => absurd h (by show (1 : Int) ≠ 3; decide), fun h => absurd h (by show (1 : Int) ≠ 10; decide)⟩, fun f hf => ?_⟩
 obtain ⟨f, rfl⟩ : ∃ k, f = k + 1 := ⟨f - 1, by omega⟩
 have hE := e f (by simp only [List.length_cons] at hf ⊢; omega)
 show kP (PP (f + 1)) (dU (f + 1)) (f + 1) (sd (_ :: _ :: t1 :: u1 :: k1) d) = _
 unfold kP
 rw [isT rfl, Option.bind_some, if_pos rfl, aBl, Option.bind_some]
 have e9 : ∀ (pp : Int), decide ((⟨9, [], 0, pp⟩ : Tok).kind = 9) = true := fun _ => rfl
 rw [e9, Option.bind_some, if_pos rfl, eT (by show (1 : Int) ≠ 0; decide), Option.bind_some]
 show (aT (sd (_ :: t1 :: u1 :: k1) d)).bind _ = _
 rw [eT (by show (9 : Int) ≠ 0; decide), Option.bind_some]
 show (dU (f + 1) (sd (t1 :: u1 :: k1) d)).bind _ = _
 rw [hE]
 rfl
end Go.Dd

namespace Go.Dd
theorem aCq {t : Tok} {r : List Tok} {d : Nat} (h3 : t.kind ≠ 3) : oK (sd (t :: r) d) = some false := by
 unfold oK
 obtain ⟨u, hu⟩ : ∃ u, aX (sd (t :: r) d) 1 = some u := by
  cases r with
  | nil => exact ⟨t, by simp [aX, sd]⟩
  | cons u r => exact ⟨u, aBl _ _ _ _⟩
 rw [hu, Option.bind_some, isN h3, Option.bind_some, gG]
 rfl
theorem aUa {t u : Tok} {r : List Tok} {d : Nat} (h : t.kind = 4) : dO (sd (t :: u :: r) d) = some ((.mk 1 t.text t.num [] [] [], true), sd (u :: r) d) := by
 unfold dO
 rw [gG, Option.bind_some, if_pos (by rfl), aCq (by omega), Option.bind_some, if_neg (by decide), if_pos h, eT (by omega)]
 rfl
theorem aUz {t u : Tok} {r : List Tok} {d : Nat} (h : t.kind = 5) : dO (sd (t :: u :: r) d) = some ((.mk 2 t.text t.num [] [] [], true), sd (u :: r) d) := by
 unfold dO
 rw [gG, Option.bind_some, if_pos (by rfl), aCq (by omega), Option.bind_some, if_neg (by decide), if_neg (by omega), if_pos h, eT (by omega)]
 rfl
theorem aTk {t u : Tok} {r : List Tok} {d : Nat} (h : t.kind = 6) : dO (sd (t :: u :: r) d) = some ((.mk 3 t.text t.num [] [] [], true), sd (u :: r) d) := by
 unfold dO
 rw [gG, Option.bind_some, if_pos (by rfl), aCq (by omega), Option.bind_some, if_neg (by decide), if_neg (by omega), if_neg (by omega), if_pos h, eT (by omega)]
 rfl
theorem aIl {t u w : Tok} {r : List Tok} {d : Nat} (h : t.kind = 3) (hx : t.text = [45]) (h4 : u.kind = 4) (hp : u.pos = jB (t.pos + 1)) : dO (sd (t :: u :: w :: r) d) = some ((.mk 1 [] (jB (0 - u.num)) [] [] [], true), sd (w :: r) d) := by
 have hn : oK (sd (t :: u :: w :: r) d) = some true := by
  unfold oK
  rw [aBl, Option.bind_some, isX h hx, Option.bind_some, gG, Option.bind_some, h4, hp]
  simp
 unfold dO
 rw [gG, Option.bind_some, if_pos (by rfl), hn, Option.bind_some, if_pos rfl, eT (by omega), Option.bind_some]
 show (aT (sd (u :: w :: r) d)).bind _ = _
 rw [eT (by omega)]
 rfl
def RdL (d : Nat) (x : Node) (tx : List Nat) : Prop := ∀ v p r, p + (tx ++ v).length ≤ 100000 → Stop v → Lx 2001 v (p + tx.length) r → ∃ T, Lx 2001 (tx ++ v) p T ∧ r.length < T.length ∧ HE T ∧ (∀ t u l, T = t :: u :: l → t.kind ≠ 1 ∧ ¬ (t.kind = 10 ∧ t.text = [41])) ∧ dO (sd T d) = some ((x, true), sd r d)
theorem RdL.p {d : Nat} {x : Node} {tx : List Nat} (h : RdL d x tx) : RdP d x tx := fun v p r hl hv hr hd => by
 obtain ⟨T, a, b, ⟨t, u, l, e, c⟩, c2, k⟩ := h v p r hl hv hr
 refine ⟨T, a, b, ⟨t, u, l, e, c, fun h => (c2 t u l e).1 h.1⟩, fun f hf => ?_⟩
 unfold PP cZ
 rw [k]
 rfl
theorem bCe {d : Nat} {t : List Nat} (h : TV 5 t) : RdL d (.mk 2 t 0 [] [] []) (39 :: (cS 39 [39, 39] t ++ [39])) := fun v p r hl hv hr => by
 obtain ⟨t0, l0, rfl⟩ := hr.cons
 have := hY (p := p) h (by decide) (hv.fol 5) hr
 exact ⟨_, this, by simp, ⟨_, _, _, rfl, by show (5 : Int) ≠ 0; decide, by show (5 : Int) ≠ 8 ∧ (5 : Int) ≠ 2; decide, fun h => absurd h (by show (5 : Int) ≠ 3; decide), fun h => absurd h (by show (5 : Int) ≠ 10; decide)⟩, fun _ _ _ e => by
  cases e
  exact ⟨by show (5 : Int) ≠ 1; decide, fun h => absurd h.1 (by show (5 : Int) ≠ 10; decide)⟩, aUz rfl⟩
theorem bHm {d : Nat} {t : List Nat} (h : TV 6 t) : RdL d (.mk 3 t 0 [] [] []) (35 :: t) := fun v p r hl hv hr => by
 obtain ⟨t0, l0, rfl⟩ := hr.cons
 have := hY (p := p) h (by decide) (hv.fol 6) hr
 exact ⟨_, this, by simp, ⟨_, _, _, rfl, by show (6 : Int) ≠ 0; decide, by show (6 : Int) ≠ 8 ∧ (6 : Int) ≠ 2; decide, fun h => absurd h (by show (6 : Int) ≠ 3; decide), fun h => absurd h (by show (6 : Int) ≠ 10; decide)⟩, fun _ _ _ e => by
  cases e
  exact ⟨by show (6 : Int) ≠ 1; decide, fun h => absurd h.1 (by show (6 : Int) ≠ 10; decide)⟩, aTk rfl⟩
theorem aBe (n : Nat) : iV (-((n + 1 : Nat) : Int)) = 45 :: dg (n + 1) := rfl
theorem aRi {d : Nat} {n : Nat} (hn : n ≤ 1152921504606846976) : RdL d (.mk 1 [] (n : Int) [] [] []) (iV (n : Int)) := fun v p r hl hv hr => by
 obtain ⟨t0, l0, rfl⟩ := hr.cons
 have := aOr (p := p) hn hv.name hr
 exact ⟨_, this, by simp, ⟨_, _, _, rfl, by show (4 : Int) ≠ 0; decide, by show (4 : Int) ≠ 8 ∧ (4 : Int) ≠ 2; decide, fun h => absurd h (by show (4 : Int) ≠ 3; decide), fun h => absurd h (by show (4 : Int) ≠ 10; decide)⟩, fun _ _ _ e => by
  cases e
  exact ⟨by show (4 : Int) ≠ 1; decide, fun h => absurd h.1 (by show (4 : Int) ≠ 10; decide)⟩, aUa rfl⟩
theorem bHh {d : Nat} {n : Nat} (hn : n ≤ 1152921504606846976) : RdL d (.mk 1 [] (jB (0 - (n : Int))) [] [] []) (iV (jB (0 - (n : Int)))) := by
 cases n with
 | zero => exact aRi (n := 0) (by omega)
 | succ n =>
  have e : jB (0 - ((n + 1 : Nat) : Int)) = -((n + 1 : Nat) : Int) := by
   unfold jB
   rw [gE _ (by omega) (by omega)]
   omega
  rw [e, aBe]
  intro v p r hl hv hr
  obtain ⟨t0, l0, rfl⟩ := hr.cons
  simp only [List.length_append, List.length_cons] at hl
  have := bHg (p := p) hn hv (r := t0 :: l0) (by
   rw [show p + 1 + (dg (n + 1)).length = p + (45 :: dg (n + 1)).length by simp only [List.length_cons]; omega]
   exact hr)
  refine ⟨_, this, by simp, ⟨_, _, _, rfl, by show (3 : Int) ≠ 0; decide, by show (3 : Int) ≠ 8 ∧ (3 : Int) ≠ 2; decide, fun _ => rfl, fun h => absurd h (by show (3 : Int) ≠ 10; decide)⟩, fun _ _ _ e => by
   cases e
   exact ⟨by show (3 : Int) ≠ 1; decide, fun h => absurd h.1 (by show (3 : Int) ≠ 10; decide)⟩, ?_⟩
  rw [aIl rfl rfl rfl (by show ((p + 1 : Nat) : Int) = jB ((p : Int) + 1); rw [uW (by omega)])]
  show some ((Node.mk 1 [] (jB (0 - ((n + 1 : Nat) : Int))) [] [] [], true), _) = _
  rw [e]
theorem bHr {d : Nat} {n : List Nat} (h : TV 1 n) : RdP d (.mk 5 n 0 [] [] []) n := fun v p r hl hv hr hd => by
 obtain ⟨t0, l0, rfl, h9⟩ := hd
 have := hY (p := p) h (by decide) (hv.fol 1) hr
 refine ⟨_, this, by simp, ⟨_, _, _, rfl, ⟨by show (1 : Int) ≠ 0; decide, by show (1 : Int) ≠ 8 ∧ (1 : Int) ≠ 2; decide, fun h => absurd h (by show (1 : Int) ≠ 3; decide), fun h => absurd h (by show (1 : Int) ≠ 10; decide)⟩, fun h => h9 h.2⟩, fun f hf => ?_⟩
 unfold PP cZ
 rw [lB (by show (1 : Int) ≠ 3; decide) (by show (1 : Int) ≠ 4; decide) (by show (1 : Int) ≠ 5; decide) (by show (1 : Int) ≠ 6; decide), Option.bind_some]
 show (if false = true then _ else (aX (sd (_ :: t0 :: l0) d) 0).bind _) = _
 rw [if_neg (by decide), gG, Option.bind_some, if_pos (by rfl), if_pos (by rfl)]
 show (aT (sd (_ :: t0 :: l0) d)).bind _ = _
 rw [eT (by show (1 : Int) ≠ 0; decide)]
 rfl
def KQ : List (List Nat × Node × List Nat) → List Nat
 | [] => []
 | q :: qs => 32 :: (q.1 ++ 32 :: (q.2.2 ++ KQ qs))
def KOk (d : Nat) (qs : List (List Nat × Node × List Nat)) : Prop := ∀ q ∈ qs, TV 2 q.1 ∧ RdB d q.2.1 q.2.2
theorem KQ.stop {qs : List (List Nat × Node × List Nat)} {v : List Nat} (h : Stop v) : Stop (KQ qs ++ v) := by
 cases qs with
 | nil => exact h
 | cons q qs => exact fW _
theorem wF {d : Nat} : ∀ (qs : List (List Nat × Node × List Nat)) (v : List Nat) (p : Nat) (r : List Tok), KOk d qs → p + (KQ qs ++ v).length ≤ 100000 → Stop v → Lx 2001 v (p + (KQ qs).length) r → Hd pK r →
 ∃ T, Lx 2001 (KQ qs ++ v) p T ∧ r.length + qs.length ≤ T.length ∧ Hd pB T ∧ (qs ≠ [] → ∃ t l, T = t :: l ∧ t.kind = 2) ∧ ∀ f g t ks, T.length + 2 ≤ f → T.length + 1 ≤ g → t.length + (KQ qs).length ≤ 100000 →
  dG (PP f) f g t ks (sd T d) = some (aH (t ++ (qs.map Prod.fst).flatten) (ks ++ qs.map fun q => q.2.1), sd r d)
 | [], v, p, r, hk, hl, hv, hr, hd => by
  refine ⟨r, hr, by simp, hd.mono fun _ h => ⟨h.1, h.2.1, h.2.2.1⟩, fun h => absurd rfl h, fun f g t ks hf hg ht => ?_⟩
  obtain ⟨t0, l0, rfl, h1, h2, h3, h4⟩ := hd
  obtain ⟨g, rfl⟩ : ∃ k, g = k + 1 := ⟨g - 1, by omega⟩
  unfold dG
  rw [isN h4]
  simp
 | q :: qs, v, p, r, hk, hl, hv, hr, hd => by
  have hq := hk q (by simp)
  simp only [KQ, List.length_append, List.length_cons] at hl hr
  obtain ⟨T1, a1, b1, c1, _, e1⟩ := wF qs v (p + 1 + q.1.length + 1 + q.2.2.length) r (fun x hx => hk x (by simp [hx])) (by simp only [List.length_append]; omega) hv (by
   rw [show p + 1 + q.1.length + 1 + q.2.2.length + (KQ qs).length = p + (q.1.length + (q.2.2.length + (KQ qs).length + 1) + 1) by omega]
   exact hr) hd
  obtain ⟨T2, a2, b2, c2, e2⟩ := hq.2 (KQ qs ++ v) (p + 1 + q.1.length + 1) T1 (by simp only [List.length_append]; omega) (KQ.stop hv) a1 (c1.mono fun _ h => ⟨h.1, h.2.1⟩)
  have l1 := hY (p := p + 1) hq.1 (by decide) ((fW (q.2.2 ++ (KQ qs ++ v))).fol 2) (r := T2) (hD a2)
  refine ⟨_, by simpa [aJ, KQ, bK] using hD l1, by simp only [List.length_cons]; omega, ⟨_, _, rfl, by show (2 : Int) ≠ 9; decide, by show (2 : Int) ≠ 1; decide, by show (2 : Int) ≠ 3; decide⟩, fun _ => ⟨_, _, rfl, rfl⟩, fun f g t ks hf hg ht => ?_⟩
  simp only [List.length_cons] at hf hg
  obtain ⟨g, rfl⟩ : ∃ k, g = k + 1 := ⟨g - 1, by omega⟩
  simp only [KQ, List.length_append, List.length_cons] at ht
  obtain ⟨q1, q2, q3⟩ := e2 f (by omega)
  have e3 := e1 f g (t ++ q.1) (ks ++ [q.2.1]) (by omega) (by omega) (by simp only [List.length_append]; omega)
  obtain ⟨t1, u1, k1, rfl, _⟩ := c2
  unfold dG
  rw [isT rfl, Option.bind_some, if_pos rfl, eT (by show (2 : Int) ≠ 0; decide), Option.bind_some]
  show (if t.length + q.1.length ≤ cA then _ else none) = _
  rw [if_pos (by unfold cA; omega)]
  have : ((PP f (sd (t1 :: u1 :: k1) d)).bind fun x => (bO f x.1 x.2).bind fun u => (bM (PP f) f f u.1 u.2).bind fun w => dG (PP f) f g (t ++ q.1) (ks ++ [w.1]) w.2) = dG (PP f) f g (t ++ q.1) (ks ++ [q.2.1]) (sd T1 d) := by
   have h2 : FB f (sd (t1 :: u1 :: k1) d) = some (q.2.1, sd T1 d) := by rw [q3, jW (by omega) c1]
   have h3 : ((PP f (sd (t1 :: u1 :: k1) d)).bind fun x => (bO f x.1 x.2).bind fun u => (bM (PP f) f f u.1 u.2).bind fun w => dG (PP f) f g (t ++ q.1) (ks ++ [w.1]) w.2) = (FB f (sd (t1 :: u1 :: k1) d)).bind fun w => dG (PP f) f g (t ++ q.1) (ks ++ [w.1]) w.2 := by
    unfold FB FU
    simp only [Option.bind_assoc]
   rw [h3, h2]
   rfl
  refine this.trans ?_
  rw [e3]
  simp
theorem RdK.keys {d : Nat} {x : Node} {tx : List Nat} {qs : List (List Nat × Node × List Nat)} (h : RdB d x tx) (hk : KOk d qs) (hne : qs ≠ []) : RdK d (aH (qs.map Prod.fst).flatten (x :: qs.map fun q => q.2.1)) (tx ++ KQ qs) := fun v p r hl hv hr hd => by
 simp only [List.length_append] at hl
 obtain ⟨T1, a1, b1, c1, d1, e1⟩ := wF qs v (p + tx.length) r hk (by simp only [List.length_append]; omega) hv (by
  rw [show p + tx.length + (KQ qs).length = p + (tx ++ KQ qs).length by simp; omega]
  exact hr) hd
 obtain ⟨T, a, b, c, e⟩ := h (KQ qs ++ v) p T1 (by simp only [List.length_append]; omega) (KQ.stop hv) a1 (c1.mono fun _ h => ⟨h.1, h.2.1⟩)
 refine ⟨T, by simpa using a, by omega, c, fun f hf => ?_⟩
 obtain ⟨g, g1, g2⟩ := e f hf
 unfold FK
 rw [g2, jW (by omega) c1, Option.bind_some]
 obtain ⟨t, l, rfl, h2⟩ := d1 hne
 show gW (PP f) f x (sd (t :: l) d) = _
 unfold gW
 rw [isT h2, Option.bind_some, if_pos rfl, e1 f f [] [x] (by omega) (by omega) (by simp; omega)]
 simp
def RdM (d : Nat) (m : Node) (tx : List Nat) : Prop := ∀ v p r, p + (tx ++ v).length ≤ 100000 → Stop v → Lx 2001 v (p + tx.length) r → Hd pK r → ∃ T, Lx 2001 (tx ++ v) p T ∧ r.length < T.length ∧ (∃ t u l, T = t :: u :: l) ∧ ∀ f, T.length + 2 ≤ f → ∃ n, nB (PP f) f (sd T d) = some (n, sd r d) ∧ fH n = m
theorem kZ (t : List Nat) (x : Node) (ks : List Node) : fH (aH t (x :: ks)) = aH t ks := by simp [fH, aH, Node.kids, Node.text]
theorem bMb {d : Nat} {n : List Nat} (h : TV 1 n) : RdM d (aH n []) n := fun v p r hl hv hr hd => by
 obtain ⟨t0, l0, rfl, _⟩ := hd
 have := hY (p := p) h (by decide) (hv.fol 1) hr
 refine ⟨_, this, by simp, ⟨_, _, _, rfl⟩, fun f hf => ⟨aH n [zN], ?_, kZ _ _ _⟩⟩
 unfold nB
 rw [gG, Option.bind_some, if_pos (by rfl), eT (by show (1 : Int) ≠ 0; decide)]
 rfl
theorem bOf {d : Nat} {s : List Nat} {y : Node} {ty : List Nat} (hs : TV 3 s) (hy : RdU d y ty) : RdM d (aH s [y]) (s ++ 32 :: ty) := fun v p r hl hv hr hd => by
 simp only [List.length_append, List.length_cons] at hl
 obtain ⟨T1, a1, b1, c1, e1⟩ := hy v (p + s.length + 1) r (by simp only [List.length_append]; omega) hv (by
  rw [show p + s.length + 1 + ty.length = p + (s ++ 32 :: ty).length by simp; omega]
  exact hr) (hd.mono fun _ h => h.1)
 have l1 := hY (p := p) hs (by decide) ((fW (ty ++ v)).fol 3) (r := T1) (hD a1)
 obtain ⟨t1, u1, k1, rfl, _⟩ := c1
 refine ⟨_, by simpa [aJ, bK] using l1, by simp only [List.length_cons] at b1 ⊢; omega, ⟨_, _, _, rfl⟩, fun f hf => ⟨aH s [zN, y], ?_, kZ _ _ _⟩⟩
 obtain ⟨q, q1, q2⟩ := e1 f (by simp only [List.length_cons] at hf ⊢; omega)
 unfold nB
 rw [gG, Option.bind_some, if_neg (by show (3 : Int) ≠ 1; decide), if_pos (by rfl), eT (by show (3 : Int) ≠ 0; decide), Option.bind_some]
 show ((PP f (sd (t1 :: u1 :: k1) d)).bind fun q => (bO f q.1 q.2).bind fun u => some (aH s [zN, u.1], u.2)) = _
 rw [← Option.bind_assoc]
 show (FU f (sd (t1 :: u1 :: k1) d)).bind _ = _
 rw [q2, oP (by omega) (hd.mono fun _ h => ⟨h.1, h.2.1⟩)]
 rfl
theorem bMk {d : Nat} {qs : List (List Nat × Node × List Nat)} (hk : KOk d qs) (hne : qs ≠ []) : RdM d (aH (qs.map Prod.fst).flatten (qs.map fun q => q.2.1)) ((KQ qs).drop 1) := fun v p r hl hv hr hd => by
 obtain ⟨q, qs, rfl⟩ : ∃ a b, qs = a :: b := by cases qs with
  | nil => exact absurd rfl hne
  | cons a b => exact ⟨a, b, rfl⟩
 simp only [KQ, List.drop_succ_cons, List.drop_zero] at hl hr ⊢
 simp only [List.length_append, List.length_cons] at hl hr
 have hq := hk q (by simp)
 obtain ⟨T1, a1, b1, c1, _, e1⟩ := wF qs v (p + q.1.length + 1 + q.2.2.length) r (fun x hx => hk x (by simp [hx])) (by simp only [List.length_append]; omega) hv (by
  rw [show p + q.1.length + 1 + q.2.2.length + (KQ qs).length = p + (q.1.length + (q.2.2.length + (KQ qs).length + 1)) by omega]
  exact hr) hd
 obtain ⟨T2, a2, b2, c2, e2⟩ := hq.2 (KQ qs ++ v) (p + q.1.length + 1) T1 (by simp only [List.length_append]; omega) (KQ.stop hv) a1 (c1.mono fun _ h => ⟨h.1, h.2.1⟩)
 have l1 := hY (p := p) hq.1 (by decide) ((fW (q.2.2 ++ (KQ qs ++ v))).fol 2) (r := T2) (hD a2)
 obtain ⟨t1, u1, k1, rfl, _⟩ := c2
 refine ⟨_, by simpa [aJ, bK] using l1, by simp only [List.length_cons] at b2 ⊢; omega, ⟨_, _, _, rfl⟩, fun f hf => ⟨aH (q.1 ++ (qs.map Prod.fst).flatten) (zN :: q.2.1 :: qs.map fun q => q.2.1), ?_, by rw [kZ]; simp⟩⟩
 simp only [List.length_cons] at hf
 obtain ⟨g, rfl⟩ : ∃ k, f = k + 1 := ⟨f - 1, by omega⟩
 obtain ⟨q1, q2, q3⟩ := e2 (g + 1) (by simp only [List.length_cons]; omega)
 simp only [List.length_cons] at b2
 have e3 := e1 (g + 1) g q.1 [zN, q.2.1] (by omega) (by omega) (by omega)
 unfold nB
 rw [gG, Option.bind_some, if_neg (by show (2 : Int) ≠ 1; decide), if_neg (by show (2 : Int) ≠ 3; decide), if_pos (by rfl)]
 unfold gW
 rw [isT rfl, Option.bind_some, if_pos rfl]
 conv => lhs; unfold dG
 rw [isT rfl, Option.bind_some, if_pos rfl, eT (by show (2 : Int) ≠ 0; decide), Option.bind_some]
 show (if 0 + q.1.length ≤ cA then _ else none) = _
 rw [if_pos (by unfold cA; omega)]
 have h2 : FB (g + 1) (sd (t1 :: u1 :: k1) d) = some (q.2.1, sd T1 d) := by rw [q3, jW (by omega) c1]
 have h3 : ((PP (g + 1) (sd (t1 :: u1 :: k1) d)).bind fun x => (bO (g + 1) x.1 x.2).bind fun u => (bM (PP (g + 1)) (g + 1) (g + 1) u.1 u.2).bind fun w => dG (PP (g + 1)) (g + 1) g ([] ++ q.1) ([zN] ++ [w.1]) w.2) = (FB (g + 1) (sd (t1 :: u1 :: k1) d)).bind fun w => dG (PP (g + 1)) (g + 1) g ([] ++ q.1) ([zN] ++ [w.1]) w.2 := by
  unfold FB FU
  simp only [Option.bind_assoc]
 refine h3.trans ?_
 rw [h2, Option.bind_some]
 refine Eq.trans ?_ (e3.trans ?_)
 ·rfl
 ·simp
def FQ : List (Node × List Nat) → List Nat
 | [] => []
 | m :: ms => 59 :: 32 :: (m.2 ++ FQ ms)
theorem FQ.stop {ms : List (Node × List Nat)} {v : List Nat} (h : Stop v) : Stop (FQ ms ++ v) := by
 cases ms with
 | nil => exact h
 | cons q qs => exact jI (by decide) _
theorem aPe {d : Nat} : ∀ (ms : List (Node × List Nat)) (v : List Nat) (p : Nat) (r : List Tok), (∀ m ∈ ms, RdM d m.1 m.2) → p + (FQ ms ++ v).length ≤ 100000 → Stop v → Lx 2001 v (p + (FQ ms).length) r → Hd pE r →
 ∃ T, Lx 2001 (FQ ms ++ v) p T ∧ r.length + ms.length ≤ T.length ∧ Hd pK T ∧ (ms ≠ [] → ∃ t l, T = t :: l ∧ t.kind = 10 ∧ t.text = [59]) ∧ ∀ f g ks, T.length + 2 ≤ f → T.length + 1 ≤ g →
  jC (PP f) f g ks (sd T d) = some (.mk 8 [] 0 [] [] (ks ++ ms.map Prod.fst), sd r d)
 | [], v, p, r, hk, hl, hv, hr, hd => by
  refine ⟨r, hr, by simp, hd.mono fun _ h => ⟨h.1, h.2.1, h.2.2.1, h.2.2.2.1⟩, fun h => absurd rfl h, fun f g ks hf hg => ?_⟩
  obtain ⟨t0, l0, rfl, h1⟩ := hd
  obtain ⟨g, rfl⟩ : ∃ k, g = k + 1 := ⟨g - 1, by omega⟩
  unfold jC
  rw [isY (by decide) h1.2.2.2.2]
  simp
 | m :: ms, v, p, r, hk, hl, hv, hr, hd => by
  have hm := hk m (by simp)
  simp only [FQ, List.length_append, List.length_cons] at hl hr
  obtain ⟨T1, a1, b1, c1, _, e1⟩ := aPe ms v (p + 1 + 1 + m.2.length) r (fun x hx => hk x (by simp [hx])) (by simp only [List.length_append]; omega) hv (by
   rw [show p + 1 + 1 + m.2.length + (FQ ms).length = p + (m.2.length + (FQ ms).length + 1 + 1) by omega]
   exact hr) hd
  obtain ⟨T2, a2, b2, c2, e2⟩ := hm (FQ ms ++ v) (p + 1 + 1) T1 (by simp only [List.length_append]; omega) (FQ.stop hv) a1 c1
  have l1 := iQ (c := 59) (by decide) (p := p) (hD a2)
  refine ⟨_, by simpa [aJ, FQ] using l1, by simp only [List.length_cons]; omega, ⟨_, _, rfl, by show (10 : Int) ≠ 9; decide, by show (10 : Int) ≠ 1; decide, by show (10 : Int) ≠ 3; decide, by show (10 : Int) ≠ 2; decide⟩, fun _ => ⟨_, _, rfl, rfl, rfl⟩, fun f g ks hf hg => ?_⟩
  simp only [List.length_cons] at hf hg
  obtain ⟨g, rfl⟩ : ∃ k, g = k + 1 := ⟨g - 1, by omega⟩
  obtain ⟨n, n1, n2⟩ := e2 f (by omega)
  have e3 := e1 f g (ks ++ [m.1]) (by omega) (by omega)
  obtain ⟨t1, u1, k1, rfl⟩ := c2
  unfold jC
  rw [isX rfl rfl, Option.bind_some, if_pos rfl, eT (by show (10 : Int) ≠ 0; decide), Option.bind_some]
  show ((nB (PP f) f (sd (t1 :: u1 :: k1) d)).bind fun q => jC (PP f) f g (ks ++ [fH q.1]) q.2) = _
  rw [n1, Option.bind_some, n2]
  refine e3.trans ?_
  simp
theorem RdE.cascade {d : Nat} {k0 : Node} {t : List Nat} {args : List Node} {tx : List Nat} {ms : List (Node × List Nat)} (h : RdK d (aH t (k0 :: args)) tx) (hk : ∀ m ∈ ms, RdM d m.1 m.2) (hne : ms ≠ []) :
 RdE d (.mk 8 [] 0 [] [] (k0 :: aH t args :: ms.map Prod.fst)) (tx ++ FQ ms) := fun v p r hl hv hr hd => by
 simp only [List.length_append] at hl
 obtain ⟨T1, a1, b1, c1, d1, e1⟩ := aPe ms v (p + tx.length) r hk (by simp only [List.length_append]; omega) hv (by
  rw [show p + tx.length + (FQ ms).length = p + (tx ++ FQ ms).length by simp; omega]
  exact hr) hd
 obtain ⟨T, a, b, c, e⟩ := h (FQ ms ++ v) p T1 (by simp only [List.length_append]; omega) (FQ.stop hv) a1 c1
 refine ⟨T, by simpa using a, by omega, c.he, fun f hf => ?_⟩
 rw [aAx c, mG, e f hf, Option.bind_some]
 obtain ⟨t1, l1, rfl, h2, h3⟩ := d1 hne
 show (dQ (sd (t1 :: l1) d) 10 [59]).bind _ = _
 rw [isX h2 h3, Option.bind_some, if_pos rfl, if_pos (by rfl)]
 show (some k0).bind _ = _
 rw [Option.bind_some, kZ, e1 f f _ (by omega) (by omega)]
 rfl
end Go.Dd

namespace Go.Dd
theorem qS (sep a b : List Nat) (l : List (List Nat)) : aF sep (a :: b :: l) = a ++ (sep ++ aF sep (b :: l)) := rfl
theorem aAy (sep a : List Nat) : aF sep [a] = a := rfl
def RdA (d : Nat) (x : Node) (tx : List Nat) : Prop := ∀ v p r, p + (tx ++ v).length ≤ 100000 → Stop v → Lx 2001 v (p + tx.length) r → ∃ T, Lx 2001 (tx ++ v) p T ∧ r.length < T.length ∧ ∀ f g xs, T.length + 1 ≤ f → cY (mO f) (g + 1) xs (sd T d) = cY (mO f) g (xs ++ [x]) (sd r d)
theorem RdL.a {d : Nat} {x : Node} {tx : List Nat} (h : RdL d x tx) : RdA d x tx := fun v p r hl hv hr => by
 obtain ⟨T, a, b, ⟨t, u, l, e, c⟩, c2, k⟩ := h v p r hl hv hr
 refine ⟨T, a, b, fun f g xs hf => ?_⟩
 conv => lhs; unfold cY
 subst e
 rw [if_pos (by rfl), isY (by decide) (c2 _ _ _ rfl).2, Option.bind_some, if_neg (by decide), k]
 rfl
theorem aAf {d : Nat} : ∀ (es : List (Node × List Nat)) (v : List Nat) (p : Nat) (r : List Tok), (∀ e ∈ es, RdA d e.1 e.2) → p + (aF [32] (es.map Prod.snd) ++ v).length ≤ 100000 → Stop v → Lx 2001 v (p + (aF [32] (es.map Prod.snd)).length) r → Hd (fun t => t.kind = 10 ∧ t.text = [41]) r →
 ∃ T, Lx 2001 (aF [32] (es.map Prod.snd) ++ v) p T ∧ r.length + es.length ≤ T.length ∧ ∀ f g xs, T.length + 1 ≤ f → T.length + 1 ≤ g → cY (mO f) g xs (sd T d) = some (xs ++ es.map Prod.fst, sd r d)
 | [], v, p, r, hk, hl, hv, hr, hd => by
  refine ⟨r, hr, by simp, fun f g xs hf hg => ?_⟩
  obtain ⟨t0, l0, rfl, h1, h2⟩ := hd
  obtain ⟨g, rfl⟩ : ∃ k, g = k + 1 := ⟨g - 1, by omega⟩
  unfold cY
  rw [if_pos (by rfl), isX h1 h2]
  simp
 | [e], v, p, r, hk, hl, hv, hr, hd => by
  obtain ⟨T, a, b, c⟩ := hk e (by simp) v p r hl hv hr
  refine ⟨T, a, by simp only [List.length_cons, List.length_nil]; omega, fun f g xs hf hg => ?_⟩
  obtain ⟨g, rfl⟩ : ∃ k, g = k + 1 := ⟨g - 1, by omega⟩
  rw [c f g xs hf]
  obtain ⟨t0, l0, rfl, h1, h2⟩ := hd
  obtain ⟨g, rfl⟩ : ∃ k, g = k + 1 := ⟨g - 1, by simp only [List.length_cons] at b; omega⟩
  unfold cY
  rw [if_pos (by rfl), isX h1 h2]
  simp
 | e :: e2 :: es, v, p, r, hk, hl, hv, hr, hd => by
  have ej : aF [32] ((e :: e2 :: es).map Prod.snd) = e.2 ++ 32 :: aF [32] ((e2 :: es).map Prod.snd) := qS _ _ _ _
  rw [ej] at hl hr ⊢
  simp only [List.length_append, List.length_cons] at hl hr
  obtain ⟨T1, a1, b1, c1⟩ := aAf (e2 :: es) v (p + e.2.length + 1) r (fun x hx => hk x (by simp only [List.mem_cons] at hx ⊢; exact .inr hx)) (by simp only [List.length_append]; omega) hv (by
   rw [show p + e.2.length + 1 + (aF [32] ((e2 :: es).map Prod.snd)).length = p + (e.2.length + ((aF [32] ((e2 :: es).map Prod.snd)).length + 1)) by omega]
   exact hr) hd
  obtain ⟨T, a, b, c⟩ := hk e (by simp) (32 :: (aF [32] ((e2 :: es).map Prod.snd) ++ v)) p T1 (by simp only [List.length_append, List.length_cons]; omega) (fW _) (hD a1)
  simp only [List.length_cons] at b1
  refine ⟨T, by simpa using a, by simp only [List.length_cons]; omega, fun f g xs hf hg => ?_⟩
  obtain ⟨g, rfl⟩ : ∃ k, g = k + 1 := ⟨g - 1, by omega⟩
  rw [c f g xs hf, c1 f g _ (by omega) (by omega)]
  simp
theorem aNz {d : Nat} {es : List (Node × List Nat)} (hd : d < 20) (hk : ∀ e ∈ es, RdA (d + 1) e.1 e.2) {v : List Nat} {p : Nat} {r : List Tok} (hl : p + (35 :: 40 :: (aF [32] (es.map Prod.snd) ++ [41]) ++ v).length ≤ 100000) (hr : Lx 2001 v (p + (35 :: 40 :: (aF [32] (es.map Prod.snd) ++ [41])).length) r) :
 ∃ T, Lx 2001 (35 :: 40 :: (aF [32] (es.map Prod.snd) ++ [41]) ++ v) p (⟨7, [], 0, (p : Int)⟩ :: T) ∧ r.length < T.length ∧ (∃ a b, T = a :: b) ∧ ∀ f, T.length + 2 ≤ f → cF (mO f) (sd (⟨7, [], 0, (p : Int)⟩ :: T) d) = some (.mk 4 [] 0 [] [] (es.map Prod.fst), sd r d) := by
 obtain ⟨t0, l0, rfl⟩ := hr.cons
 simp only [laE, lcE, lnE, List.cons_append] at hl hr
 have l1 := iQ (c := 41) (by decide) (v := v) (p := p + 2 + (aF [32] (es.map Prod.snd)).length) (r := t0 :: l0) (by
  rw [show p + 2 + (aF [32] (es.map Prod.snd)).length + 1 = p + ((aF [32] (es.map Prod.snd)).length + (0 + 1) + 1 + 1) by omega]
  exact hr)
 obtain ⟨T, a, b, c⟩ := aAf es (41 :: v) (p + 2) _ hk (by simp only [List.length_append, List.length_cons]; omega) (jI (by decide) v) l1 ⟨_, _, rfl, rfl, rfl⟩
 have l2 := hY (k := 7) (t := []) (p := p) aQr (by decide) ⟨fun h => absurd h (by decide), fun _ h => absurd rfl h⟩ a
 simp only [List.length_cons] at b
 obtain ⟨t1, k1, rfl⟩ := a.cons
 refine ⟨_, by simpa [aJ, bK] using l2, by simp only [List.length_cons] at b ⊢; omega, ⟨_, _, rfl⟩, fun f hf => ?_⟩
 refine kV (by show (7 : Int) ≠ 0; decide) hd ?_
 obtain ⟨f, rfl⟩ : ∃ k, f = k + 1 := ⟨f - 1, by omega⟩
 show eQ (mO f) f (sd (t1 :: k1) (d + 1)) = _
 unfold eQ
 rw [c f f [] (by omega) (by omega), Option.bind_some]
 show (aT (sd (_ :: t0 :: l0) (d + 1))).bind _ = _
 rw [eT (by show (10 : Int) ≠ 0; decide)]
 simp
theorem aTm {d : Nat} {es : List (Node × List Nat)} (hd : d < 20) (hk : ∀ e ∈ es, RdA (d + 1) e.1 e.2) : RdA d (.mk 4 [] 0 [] [] (es.map Prod.fst)) (35 :: 40 :: (aF [32] (es.map Prod.snd) ++ [41])) := fun v p r hl hv hr => by
 obtain ⟨T, a, b, ⟨t1, k1, rfl⟩, c⟩ := aNz hd hk hl hr
 refine ⟨_, a, by simp only [List.length_cons] at b ⊢; omega, fun f g xs hf => ?_⟩
 conv => lhs; unfold cY
 rw [if_pos (by rfl), isN (by show (7 : Int) ≠ 10; decide), Option.bind_some, if_neg (by decide), lB (by show (7 : Int) ≠ 3; decide) (by show (7 : Int) ≠ 4; decide) (by show (7 : Int) ≠ 5; decide) (by show (7 : Int) ≠ 6; decide), Option.bind_some]
 show (if false = true then _ else (dQ (sd (_ :: t1 :: k1) d) 7 []).bind _) = _
 rw [if_neg (by decide), isT rfl, Option.bind_some, if_pos rfl, Option.bind_some, if_pos rfl, c f (by simp only [List.length_cons] at hf ⊢; omega)]
 rfl
theorem aZv {d : Nat} {es : List (Node × List Nat)} (hd : d < 20) (hk : ∀ e ∈ es, RdA (d + 1) e.1 e.2) : RdP d (.mk 4 [] 0 [] [] (es.map Prod.fst)) (35 :: 40 :: (aF [32] (es.map Prod.snd) ++ [41])) := fun v p r hl hv hr h9 => by
 obtain ⟨T, a, b, ⟨t1, k1, rfl⟩, c⟩ := aNz hd hk hl hr
 refine ⟨_, a, by simp only [List.length_cons] at b ⊢; omega, ⟨_, _, _, rfl, ⟨by show (7 : Int) ≠ 0; decide, by show (7 : Int) ≠ 8 ∧ (7 : Int) ≠ 2; decide, fun h => absurd h (by show (7 : Int) ≠ 3; decide), fun h => absurd h (by show (7 : Int) ≠ 10; decide)⟩, fun h => absurd h.1 (by show (7 : Int) ≠ 1; decide)⟩, fun f hf => ?_⟩
 unfold PP cZ
 rw [lB (by show (7 : Int) ≠ 3; decide) (by show (7 : Int) ≠ 4; decide) (by show (7 : Int) ≠ 5; decide) (by show (7 : Int) ≠ 6; decide), Option.bind_some]
 show (if false = true then _ else (aX (sd (_ :: t1 :: k1) d) 0).bind _) = _
 rw [if_neg (by decide), gG, Option.bind_some, if_pos (by rfl), if_neg (by show (7 : Int) ≠ 1; decide), if_pos (by rfl)]
 exact c f (by simp only [List.length_cons] at hf ⊢; omega)
inductive SOk (d : Nat) : List (Node × List Nat) → Prop
 | nil : SOk d []
 | cons (x : Node) (tx : List Nat) (l : List (Node × List Nat)) : RdE d x tx → SOk d l → SOk d ((x, tx) :: l)
 | ret (x : Node) (tx : List Nat) : RdE d x tx → SOk d [(.mk 10 [] 0 [] [] [x], 94 :: tx)]
def pEnd (t : Tok) : Prop := t.kind = 0 ∨ (t.kind = 10 ∧ t.text = [93])
theorem pEnd.e {t : Tok} (h : pEnd t) : pE t := by
 rcases h with h | h
 ·exact ⟨by omega, by omega, by omega, by omega, fun h2 => by omega⟩
 ·exact ⟨by omega, by omega, by omega, by omega, fun h2 => by rw [h.2] at h2; exact absurd h2.2 (by decide)⟩
def pS (t : Tok) : Prop := (t.kind ≠ 8 ∧ t.kind ≠ 2) ∧ ¬ (t.kind = 10 ∧ t.text = [124]) ∧ ¬ (t.kind = 3 ∧ t.text = [60])
theorem pEnd.s {t : Tok} (h : pEnd t) : pS t := by
 rcases h with h | h
 ·exact ⟨by omega, fun h2 => by omega, fun h2 => by omega⟩
 ·exact ⟨by omega, fun h2 => by rw [h.2] at h2; exact absurd h2.2 (by decide), fun h2 => by omega⟩
theorem HG.s {t : Tok} (h : HG t) : pS t := by
 refine ⟨h.2.1, fun h2 => ?_, fun h2 => ?_⟩
 ·rcases h.2.2.2 h2.1 with h3 | h3 <;> (rw [h3] at h2; exact absurd h2.2 (by decide))
 ·have h3 := h.2.2.1 h2.1
  rw [h3] at h2
  exact absurd h2.2 (by decide)
theorem aEq {t u : Tok} {l : List Tok} {d : Nat} (h : HG t) : dQ (sd (t :: u :: l) d) 0 [] = some false ∧ dQ (sd (t :: u :: l) d) 10 [93] = some false ∧ dQ (sd (t :: u :: l) d) 10 [94] = some false := by
 refine ⟨isN h.1, isY (by decide) fun h2 => ?_, isY (by decide) fun h2 => ?_⟩ <;> (rcases h.2.2.2 h2.1 with h3 | h3 <;> (rw [h3] at h2; exact absurd h2.2 (by decide)))
theorem aEj {r : List Tok} {d : Nat} (h : Hd pEnd r) : dQ (sd r d) 10 [46] = some false := by
 obtain ⟨t, l, rfl, h⟩ := h
 refine isY (by decide) fun h2 => ?_
 rcases h with h | h
 ·omega
 ·rw [h.2] at h2; exact absurd h2.2 (by decide)
theorem aRj {d : Nat} {l : List (Node × List Nat)} (h : SOk d l) : ∀ (v : List Nat) (p : Nat) (r : List Tok), p + (aF [46, 32] (l.map Prod.snd) ++ v).length ≤ 100000 → Stop v → Lx 2001 v (p + (aF [46, 32] (l.map Prod.snd)).length) r → Hd pEnd r →
 ∃ T, Lx 2001 (aF [46, 32] (l.map Prod.snd) ++ v) p T ∧ r.length ≤ T.length ∧ Hd pS T ∧ ∀ f g xs, T.length + 2 ≤ f → T.length + 1 ≤ g → dD (dU (f + 1)) g xs (sd T d) = some (xs ++ l.map Prod.fst, sd r d) := by
 induction h with
 | nil =>
  intro v p r hl hv hr hd
  refine ⟨r, hr, Nat.le_refl _, hd.mono fun _ h => h.s, fun f g xs hf hg => ?_⟩
  obtain ⟨t, l, rfl, h⟩ := hd
  obtain ⟨g, rfl⟩ : ∃ k, g = k + 1 := ⟨g - 1, by omega⟩
  unfold dD
  rw [if_pos (by rfl)]
  by_cases h0 : t.kind = 0
  ·rw [isT h0]
   simp
  ·have h1 : t.kind = 10 ∧ t.text = [93] := h.resolve_left h0
   rw [isN h0, Option.bind_some, if_neg (by decide), isX h1.1 h1.2]
   simp
 | cons x tx l hx hs ih =>
  intro v p r hl hv hr hd
  cases l with
  | nil =>
   obtain ⟨T, a, b, ⟨t1, u1, k1, rfl, c⟩, e⟩ := hx v p r hl hv hr (hd.mono fun _ h => h.e)
   refine ⟨_, a, by omega, ⟨_, _, rfl, c.s⟩, fun f g xs hf hg => ?_⟩
   obtain ⟨g, rfl⟩ : ∃ k, g = k + 1 := ⟨g - 1, by omega⟩
   obtain ⟨i0, i1, i2⟩ := aEq (d := d) (u := u1) (l := k1) c
   unfold dD
   rw [if_pos (by rfl), i0, Option.bind_some, if_neg (by decide), i1, Option.bind_some, if_neg (by decide), i2, Option.bind_some, if_neg (by decide), e f (by omega), Option.bind_some, aEj hd]
   simp
  | cons y l =>
   have ej : aF [46, 32] (((x, tx) :: y :: l).map Prod.snd) = tx ++ 46 :: 32 :: aF [46, 32] ((y :: l).map Prod.snd) := qS _ _ _ _
   rw [ej] at hl hr ⊢
   simp only [List.length_append, List.length_cons] at hl hr
   obtain ⟨T1, a1, b1, c1, e1⟩ := ih v (p + tx.length + 1 + 1) r (by simp only [List.length_append]; omega) hv (by
    rw [show p + tx.length + 1 + 1 + (aF [46, 32] ((y :: l).map Prod.snd)).length = p + (tx.length + ((aF [46, 32] ((y :: l).map Prod.snd)).length + 1 + 1)) by omega]
    exact hr) hd
   have l1 := iQ (c := 46) (by decide) (p := p + tx.length) (hD a1)
   obtain ⟨T, a, b, ⟨t1, u1, k1, rfl, c⟩, e⟩ := hx (46 :: 32 :: (aF [46, 32] ((y :: l).map Prod.snd) ++ v)) p _ (by simp only [List.length_append, List.length_cons]; omega) (jI (by decide) _) l1 ⟨_, _, rfl, by show (10 : Int) ≠ 9; decide, by show (10 : Int) ≠ 1; decide, by show (10 : Int) ≠ 3; decide, by show (10 : Int) ≠ 2; decide, by rintro ⟨_, h⟩; exact absurd h (show ([46] : List Nat) ≠ [59] by decide)⟩
   simp only [List.length_cons] at b
   refine ⟨_, by simpa using a, by simp only [List.length_cons]; omega, ⟨_, _, rfl, c.s⟩, fun f g xs hf hg => ?_⟩
   simp only [List.length_cons] at hf hg
   obtain ⟨g, rfl⟩ : ∃ k, g = k + 1 := ⟨g - 1, by omega⟩
   obtain ⟨i0, i1, i2⟩ := aEq (d := d) (u := u1) (l := k1) c
   obtain ⟨t2, k2, rfl⟩ := a1.cons
   unfold dD
   rw [if_pos (by rfl), i0, Option.bind_some, if_neg (by decide), i1, Option.bind_some, if_neg (by decide), i2, Option.bind_some, if_neg (by decide), e f (by simp only [List.length_cons]; omega), Option.bind_some]
   show (dQ (sd (_ :: t2 :: k2) d) 10 [46]).bind _ = _
   rw [isX rfl rfl, Option.bind_some, if_pos rfl]
   show (aT (sd (_ :: t2 :: k2) d)).bind _ = _
   rw [eT (by show (10 : Int) ≠ 0; decide), Option.bind_some, e1 f g _ (by omega) (by omega)]
   simp
 | ret x tx hx =>
  intro v p r hl hv hr hd
  have ej : aF [46, 32] ([((.mk 10 [] 0 [] [] [x] : Node), 94 :: tx)].map Prod.snd) = 94 :: tx := rfl
  rw [ej] at hl hr ⊢
  simp only [List.length_append, List.length_cons] at hl hr
  obtain ⟨T, a, b, ⟨t1, u1, k1, rfl, c⟩, e⟩ := hx v (p + 1) r (by simp only [List.length_append]; omega) hv (by
   rw [show p + 1 + tx.length = p + (tx.length + 1) by omega]
   exact hr) (hd.mono fun _ h => h.e)
  have l1 := iQ (c := 94) (by decide) (p := p) a
  refine ⟨_, l1, by simp only [List.length_cons] at b ⊢; omega, ⟨_, _, rfl, by show (10 : Int) ≠ 8 ∧ (10 : Int) ≠ 2; decide, by rintro ⟨_, h⟩; exact absurd h (show ([94] : List Nat) ≠ [124] by decide), fun h => absurd h.1 (by show (10 : Int) ≠ 3; decide)⟩, fun f g xs hf hg => ?_⟩
  obtain ⟨g, rfl⟩ : ∃ k, g = k + 1 := ⟨g - 1, by omega⟩
  unfold dD
  rw [if_pos (by rfl), isN (by show (10 : Int) ≠ 0; decide), Option.bind_some, if_neg (by decide), isY (by decide) (by rintro ⟨_, h⟩; exact absurd h (show ([94] : List Nat) ≠ [93] by decide)), Option.bind_some, if_neg (by decide), isX rfl rfl, Option.bind_some, if_pos rfl, eT (by show (10 : Int) ≠ 0; decide), Option.bind_some]
  show (dU (f + 1) (sd (t1 :: u1 :: k1) d)).bind _ = _
  rw [e f (by simp only [List.length_cons] at hf ⊢; omega), Option.bind_some, aEj hd]
  simp
end Go.Dd

namespace Go.Dd
open Go.Proofs
section
variable {I : Im} {A Q L : Ls} {h : Hp}
end
section
variable {I : Im} {A L : Ls} {h : Hp}
end
end Go.Dd

namespace Go.Dd
def NQ : List (List Nat) → List Nat
 | [] => []
 | t :: l => t ++ 32 :: NQ l
theorem aHk : ∀ (ts : List (List Nat)) (s : List Nat), ts ≠ [] → aF [32] ts ++ (32 :: s) = NQ ts ++ s
 | [], s, h => absurd rfl h
 | [t], s, h => by simp [aAy, NQ]
 | t :: u :: l, s, h => by
  have := aHk (u :: l) s (by simp)
  rw [qS]
  show t ++ ([32] ++ aF [32] (u :: l)) ++ (32 :: s) = (t ++ 32 :: NQ (u :: l)) ++ s
  simp only [List.append_assoc, List.cons_append, List.nil_append]
  rw [this]
theorem aAe {d : Nat} : ∀ (ts : List (List Nat)) (v : List Nat) (p : Nat) (r : List Tok), (∀ t ∈ ts, TV 1 t) → Lx 2001 v (p + (NQ ts).length + 2) r →
 ∃ T, Lx 2001 (NQ ts ++ 124 :: 32 :: v) p T ∧ r.length < T.length ∧ (∃ a b, T = a :: b) ∧ ∀ g l, T.length ≤ g → eU g l (sd T d) = some (l ++ ts, sd r d)
 | [], v, p, r, ht, hr => by
  obtain ⟨t0, l0, rfl⟩ := hr.cons
  have l1 := iQ (c := 124) (by decide) (p := p) (hD hr)
  refine ⟨_, l1, by simp, ⟨_, _, rfl⟩, fun g l hg => ?_⟩
  simp only [List.length_cons] at hg
  obtain ⟨g, rfl⟩ : ∃ k, g = k + 1 := ⟨g - 1, by omega⟩
  unfold eU
  rw [isN (by show (10 : Int) ≠ 1; decide), Option.bind_some, if_neg (by decide), aAm (isX rfl rfl) (by show (10 : Int) ≠ 0; decide)]
  simp
 | t :: ts, v, p, r, ht, hr => by
  simp only [NQ, List.length_append, List.length_cons] at hr
  obtain ⟨T, a, b, ⟨t1, k1, rfl⟩, e⟩ := aAe ts v (p + t.length + 1) r (fun x hx => ht x (by simp [hx])) (by
   rw [show p + t.length + 1 + (NQ ts).length + 2 = p + (t.length + ((NQ ts).length + 1)) + 2 by omega]
   exact hr)
  have l1 := hY (p := p) (ht t (by simp)) (by decide) ((fW _).fol 1) (hD a)
  refine ⟨_, by simpa [aJ, NQ, bK] using l1, by simp only [List.length_cons] at b ⊢; omega, ⟨_, _, rfl⟩, fun g l hg => ?_⟩
  simp only [List.length_cons] at hg
  obtain ⟨g, rfl⟩ : ∃ k, g = k + 1 := ⟨g - 1, by omega⟩
  unfold eU
  rw [isT rfl, Option.bind_some, if_pos rfl, eT (by show (1 : Int) ≠ 0; decide), Option.bind_some]
  show eU g (l ++ [t]) (sd (t1 :: k1) d) = _
  rw [e g _ (by simp only [List.length_cons]; omega)]
  simp
def pT (t : Tok) : Prop := (t.kind ≠ 8 ∧ t.kind ≠ 2) ∧ ¬ (t.kind = 3 ∧ t.text = [60])
theorem aEl {d : Nat} {ts : List (List Nat)} {l : List (Node × List Nat)} (ht : ∀ t ∈ ts, TV 1 t) (h : SOk d l) (v : List Nat) (p : Nat) (r : List Tok) (hl : p + (aV ts (l.map Prod.snd) ++ v).length ≤ 100000) (hv : Stop v) (hr : Lx 2001 v (p + (aV ts (l.map Prod.snd)).length) r) (hd : Hd pEnd r) :
 ∃ T, Lx 2001 (aV ts (l.map Prod.snd) ++ v) p T ∧ r.length ≤ T.length ∧ Hd pT T ∧ ∀ f g k, T.length + 2 ≤ f → T.length + 1 ≤ g → T.length + 1 ≤ k → ∃ s2, hO k (sd T d) = some (ts, s2) ∧ dD (dU (f + 1)) g [] s2 = some (l.map Prod.fst, sd r d) := by
 by_cases h0 : ts = []
 ·subst h0
  have e0 : aV [] (l.map Prod.snd) = aF [46, 32] (l.map Prod.snd) := by simp [aV]
  rw [e0] at hl hr ⊢
  obtain ⟨T, a, b, ⟨t1, k1, rfl, c⟩, e⟩ := aRj h v p r hl hv hr hd
  refine ⟨_, a, b, ⟨_, _, rfl, c.1, c.2.2⟩, fun f g k hf hg hk => ⟨_, ?_, (e f g [] hf hg).trans (by simp)⟩⟩
  unfold hO
  rw [isY (by decide) c.2.1]
  rfl
 ·have e0 : ∀ w : List Nat, aV ts (l.map Prod.snd) ++ w = 124 :: 32 :: (NQ ts ++ 124 :: 32 :: (aF [46, 32] (l.map Prod.snd) ++ w)) := fun w => by
   unfold aV
   rw [if_neg (by simpa using h0)]
   have := aHk ts (124 :: 32 :: (aF [46, 32] (l.map Prod.snd) ++ w)) h0
   simp only [List.append_assoc, List.cons_append, List.nil_append]
   rw [this]
  have e1 := congrArg List.length (e0 [])
  rw [e0] at hl ⊢
  simp only [List.length_append, List.length_cons, List.append_nil] at hl e1
  obtain ⟨T1, a1, b1, ⟨t1, k1, rfl, c1⟩, q1⟩ := aRj h v (p + 2 + (NQ ts).length + 2) r (by simp only [List.length_append]; omega) hv (by
   rw [show p + 2 + (NQ ts).length + 2 + (aF [46, 32] (l.map Prod.snd)).length = p + (aV ts (l.map Prod.snd)).length by omega]
   exact hr) hd
  obtain ⟨T2, a2, b2, ⟨t2, k2, rfl⟩, q2⟩ := aAe (d := d) ts _ (p + 2) _ ht a1
  have l1 := iQ (c := 124) (by decide) (p := p) (hD a2)
  simp only [List.length_cons] at b1 b2
  refine ⟨_, l1, by simp only [List.length_cons]; omega, ⟨_, _, rfl, by show (10 : Int) ≠ 8 ∧ (10 : Int) ≠ 2; decide, fun h => absurd h.1 (by show (10 : Int) ≠ 3; decide)⟩, fun f g k hf hg hk => ⟨sd (t1 :: k1) d, ?_, ?_⟩⟩
  ·simp only [List.length_cons] at hk
   unfold hO
   rw [isX rfl rfl, Option.bind_some, if_pos rfl, eT (by show (10 : Int) ≠ 0; decide), Option.bind_some]
   show eU k [] (sd (t2 :: k2) d) = _
   rw [q2 k [] (by simp only [List.length_cons]; omega)]
   rfl
  ·simp only [List.length_cons] at hf hg
   exact (q1 f g [] (by simp only [List.length_cons]; omega) (by simp only [List.length_cons]; omega)).trans (by simp)
theorem aNv (t : List Nat) : bK 8 t = 58 :: t := rfl
theorem uR {d : Nat} : ∀ (ns : List (List Nat)) (v : List Nat) (p : Nat) (r : List Tok), (∀ t ∈ ns, TV 8 t) → Lx 2001 v (p + (bC ns).length) r → Hd (fun t => t.kind ≠ 8) r →
 ∃ T, Lx 2001 (bC ns ++ v) p T ∧ r.length ≤ T.length ∧ (∃ a b, T = a :: b) ∧ ∀ g l, T.length + 1 ≤ g → l.length + ns.length ≤ 4 → eH g l (sd T d) = some (l ++ ns, sd r d)
 | [], v, p, r, ht, hr, hd => by
  obtain ⟨t0, l0, rfl, h⟩ := hd
  refine ⟨_, hr, Nat.le_refl _, ⟨_, _, rfl⟩, fun g l hg hn => ?_⟩
  obtain ⟨g, rfl⟩ : ∃ k, g = k + 1 := ⟨g - 1, by omega⟩
  unfold eH
  rw [isN h]
  simp
 | t :: ns, v, p, r, ht, hr, hd => by
  simp only [bC, List.length_append, List.length_cons] at hr
  obtain ⟨T, a, b, ⟨t1, k1, rfl⟩, e⟩ := uR ns v (p + 1 + t.length + 1) r (fun x hx => ht x (by simp [hx])) (by
   rw [show p + 1 + t.length + 1 + (bC ns).length = p + (t.length + ((bC ns).length + 1) + 1) by omega]
   exact hr) hd
  have l1 := hY (p := p) (ht t (by simp)) (by decide) ((fW _).fol 8) (r := t1 :: k1) (v := 32 :: (bC ns ++ v)) (hD (by
   rw [aNv, List.length_cons, show p + (t.length + 1) + 1 = p + 1 + t.length + 1 by omega]
   exact a))
  refine ⟨_, by simpa [aJ, bC, bK] using l1, by simp only [List.length_cons] at b ⊢; omega, ⟨_, _, rfl⟩, fun g l hg hn => ?_⟩
  simp only [List.length_cons] at hg hn
  obtain ⟨g, rfl⟩ : ∃ k, g = k + 1 := ⟨g - 1, by omega⟩
  unfold eH nC
  rw [isT rfl, Option.bind_some, if_pos rfl, aAm (isT rfl) (by show (8 : Int) ≠ 0; decide), Option.bind_some]
  show eH g (l ++ [t]) (if l.length = 4 then _ else sd (t1 :: k1) d) = _
  rw [if_neg (by omega), e g _ (by simp only [List.length_cons]; omega) (by simp only [laE, lcE, lnE]; omega)]
  simp
theorem aQn {d : Nat} {ns ts : List (List Nat)} {l : List (Node × List Nat)} (hd20 : d < 20) (hn : ∀ t ∈ ns, TV 8 t) (hn4 : ns.length ≤ 4) (ht : ∀ t ∈ ts, TV 1 t) (h : SOk (d + 1) l) :
 RdP d (.mk 9 [] 0 ns ts (l.map Prod.fst)) (91 :: ((if bC ns = [] then [] else bC ns ++ [124, 32]) ++ (aV ts (l.map Prod.snd) ++ [93]))) := fun v p r hl hv hr h9 => by
 obtain ⟨t0, l0, rfl, _⟩ := h9
 generalize eh : (if bC ns = [] then [] else bC ns ++ [124, 32]) = hh at *
 simp only [laE, lcE, lnE, List.cons_append] at hl hr
 have l1 := iQ (c := 93) (by decide) (v := v) (p := p + 1 + hh.length + (aV ts (l.map Prod.snd)).length) (r := t0 :: l0) (by
  rw [show p + 1 + hh.length + (aV ts (l.map Prod.snd)).length + 1 = p + (hh.length + ((aV ts (l.map Prod.snd)).length + (0 + 1)) + 1) by omega]
  exact hr)
 obtain ⟨T1, a1, b1, ⟨t1, k1, rfl, c1⟩, e1⟩ := aEl (d := d + 1) ht h (93 :: v) (p + 1 + hh.length) _ (by simp only [List.length_append, List.length_cons]; omega) (jI (by decide) v) l1 ⟨_, _, rfl, .inr ⟨rfl, rfl⟩⟩
 have H : ∃ T2, Lx 2001 (hh ++ (aV ts (l.map Prod.snd) ++ 93 :: v)) (p + 1) T2 ∧ (t1 :: k1).length ≤ T2.length ∧ (∃ a b, T2 = a :: b) ∧ ∀ g, T2.length + 1 ≤ g → ∃ s1, eH g [] (sd T2 (d + 1)) = some (ns, s1) ∧ bar ns s1 = some (sd (t1 :: k1) (d + 1)) := by
  cases ns with
  | nil =>
   have : hh = [] := by rw [← eh]; rfl
   subst this
   refine ⟨_, a1, Nat.le_refl _, ⟨_, _, rfl⟩, fun g hg => ⟨sd (t1 :: k1) (d + 1), ?_, ?_⟩⟩
   ·obtain ⟨g, rfl⟩ : ∃ k, g = k + 1 := ⟨g - 1, by omega⟩
    unfold eH
    rw [isN c1.1.1]
    rfl
   ·unfold bar
    rw [if_neg (by simp)]
  | cons n ns =>
   have e2 : hh = bC (n :: ns) ++ [124, 32] := by rw [← eh, if_neg (by simp [bC])]
   have l2 := iQ (c := 124) (by decide) (p := p + 1 + (bC (n :: ns)).length) (v := 32 :: (aV ts (l.map Prod.snd) ++ 93 :: v)) (r := t1 :: k1) (hD (by
    rw [show p + 1 + (bC (n :: ns)).length + 1 + 1 = p + 1 + hh.length by rw [e2]; simp only [laE, lcE, lnE]; omega]
    exact a1))
   obtain ⟨T2, a2, b2, c2, q2⟩ := uR (d := d + 1) (n :: ns) _ (p + 1) _ hn l2 ⟨_, _, rfl, by show (10 : Int) ≠ 8; decide⟩
   refine ⟨T2, by rw [e2]; simpa using a2, by simp only [List.length_cons] at b2 ⊢; omega, c2, fun g hg => ⟨_, (q2 g [] hg (by simpa using hn4)), ?_⟩⟩
   unfold bar
   rw [if_pos (by simp), isY (by decide) (by rintro ⟨_, h⟩; exact absurd h (show ([124] : List Nat) ≠ [93] by decide)), Option.bind_some, if_neg (by decide), aAm (isX rfl rfl) (by show (10 : Int) ≠ 0; decide)]
   rfl
 obtain ⟨T2, a2, b2, ⟨t2, k2, rfl⟩, q2⟩ := H
 have l3 := iQ (c := 91) (by decide) (p := p) a2
 simp only [List.length_cons] at b1 b2
 refine ⟨_, by simpa using l3, by simp only [List.length_cons]; omega, ⟨_, _, _, rfl, ⟨by show (10 : Int) ≠ 0; decide, by show (10 : Int) ≠ 8 ∧ (10 : Int) ≠ 2; decide, fun h => absurd h (by show (10 : Int) ≠ 3; decide), fun _ => .inr rfl⟩, fun h => absurd h.1 (by show (10 : Int) ≠ 1; decide)⟩, fun f hf => ?_⟩
 simp only [List.length_cons] at hf
 obtain ⟨f, rfl⟩ : ∃ k, f = k + 1 := ⟨f - 1, by omega⟩
 unfold PP cZ
 rw [lB (by show (10 : Int) ≠ 3; decide) (by show (10 : Int) ≠ 4; decide) (by show (10 : Int) ≠ 5; decide) (by show (10 : Int) ≠ 6; decide), Option.bind_some]
 show (if false = true then _ else (aX (sd (_ :: t2 :: k2) d) 0).bind _) = _
 rw [if_neg (by decide), gG, Option.bind_some, if_pos (by rfl), if_neg (by show (10 : Int) ≠ 1; decide), if_neg (by show (10 : Int) ≠ 7; decide)]
 show (dQ (sd (_ :: t2 :: k2) d) 10 [40]).bind _ = _
 rw [isY (by decide) (by rintro ⟨_, h⟩; exact absurd h (show ([91] : List Nat) ≠ [40] by decide)), Option.bind_some, if_neg (by decide)]
 show (dQ (sd (_ :: t2 :: k2) d) 10 [91]).bind _ = _
 rw [isX rfl rfl, Option.bind_some, if_pos rfl]
 refine kV (by show (10 : Int) ≠ 0; decide) hd20 ?_
 obtain ⟨s1, p1, p2⟩ := q2 (f + 1) (by simp only [List.length_cons]; omega)
 obtain ⟨s2, p3, p4⟩ := e1 f (f + 1) (f + 1) (by simp only [List.length_cons]; omega) (by simp only [List.length_cons]; omega) (by simp only [List.length_cons]; omega)
 unfold iX
 rw [p1, Option.bind_some]
 show (bar ns s1).bind _ = _
 rw [p2, Option.bind_some, p3, Option.bind_some]
 show (dD (dU (f + 1)) (f + 1) [] s2).bind _ = _
 rw [p4, Option.bind_some]
 show (dZ (sd (_ :: t0 :: l0) (d + 1)) 10 [93]).bind _ = _
 rw [aAm (isX rfl rfl) (by show (10 : Int) ≠ 0; decide)]
 rfl
theorem aZx {u : List Nat} {T : List Tok} (hu : u.length ≤ 2000) (h : Lx 2001 u 0 T) : lR u = (T, 0, 0) := by
 have e := nR u
 unfold nM at e
 rw [if_neg (by omega), aXz (s := u) T u 0 2001 [] h rfl (by omega) (by omega)] at e
 simpa using e.symm
theorem aPg {p d : Nat} : dZ (sd [⟨0, [], 0, (p : Int)⟩] d) 0 [] = some (⟨0, [], 0, (p : Int)⟩, sd [⟨0, [], 0, (p : Int)⟩] d) := by
 unfold dZ
 rw [isT rfl, Option.bind_some, if_pos rfl]
 unfold aT
 rw [gG, Option.bind_some, if_pos (by rfl)]
theorem aNa {g : Nat} : ∀ (l : List Tok) (v : List Nat) (p : Nat), Lx g v p l → l.length ≤ v.length + 1
 | [], v, p, h => by cases h
 | t :: l, v, p, h => by
  cases h with
  | fin _ _ hw => simp
  | tok w u _ k rs l hw h1 h2 h3 h4 h5 h6 h7 =>
   have := aNa l _ _ h7
   simp only [List.length_drop] at this
   simp only [List.length_append, List.length_cons]
   omega
theorem aVf {ts : List (List Nat)} {l : List (Node × List Nat)} (ht : ∀ t ∈ ts, TV 1 t) (h : SOk 0 l) (hu : (aV ts (l.map Prod.snd)).length ≤ 1990) :
 cW (aV ts (l.map Prod.snd)) = (.mk 11 [100, 111, 73, 116] 0 [] ts (l.map Prod.fst), 0, 0) := by
 have l0 := Lx.fin (g := 2001) [] (0 + (aV ts (l.map Prod.snd)).length) .nil
 obtain ⟨T, a, b, c, e⟩ := aEl ht h [] 0 _ (by simp; omega) stop_nil l0 ⟨_, _, rfl, .inl rfl⟩
 rw [List.append_nil] at a
 have hT := aNa _ _ _ a
 obtain ⟨s2, p1, p2⟩ := e 2003 2004 2004 (by omega) (by omega) (by omega)
 have q := kR (aV ts (l.map Prod.snd))
 rw [aZx (by omega) a] at q
 unfold iW pI at q
 rw [if_pos rfl, Option.bind_some] at q
 have q1 : ((hO 2004 (sd T 0)).bind fun b => (dD (dU 2004) 2004 [] b.2).bind fun c => (dZ c.2 0 []).bind fun d =>
  if d.2.err = 0 then some ((Node.mk 11 [100, 111, 73, 116] 0 [] [] []).with b.1 c.1, 0, 0) else some (zN, d.2.pos, d.2.err)) = some (cW (aV ts (l.map Prod.snd))) := q
 rw [p1, Option.bind_some] at q1
 have q2 : ((dD (dU 2004) 2004 [] s2).bind fun c => (dZ c.2 0 []).bind fun d =>
  if d.2.err = 0 then some ((Node.mk 11 [100, 111, 73, 116] 0 [] [] []).with ts c.1, (0 : Int), (0 : Int)) else some (zN, d.2.pos, d.2.err)) = some (cW (aV ts (l.map Prod.snd))) := q1
 rw [p2, Option.bind_some, aPg, Option.bind_some, if_pos (by rfl)] at q2
 exact (Option.some.inj q2).symm
end Go.Dd

namespace Go.Dd
end Go.Dd

namespace Go.Dd
def TKV (t : Tok) : Prop := AB t.text ∧ ((t.kind = 0 ∧ t.text = [] ∧ t.num = 0) ∨ (t.kind = 4 ∧ t.text = [] ∧ ∃ n : Nat, t.num = (n : Int) ∧ n ≤ 1152921504606846976) ∨ (t.kind ≠ 0 ∧ t.kind ≠ 4 ∧ TV t.kind t.text ∧ t.num = 0))
def kL (t : Tok) : Nat := if t.kind = 0 then 0 else if t.kind = 4 then (iV t.num).length + 2 else (bK t.kind t.text).length + 2
def mu (l : List Tok) : Nat := (l.map kL).sum
def VT (l : List Tok) : Prop := ∀ t ∈ l, TKV t
theorem vG (t : Tok) (l : List Tok) : mu (t :: l) = kL t + mu l := by simp [mu]
theorem aAa : ∀ (w : List Nat) (a n : Int), (∀ c ∈ w, aS c = true) → 0 ≤ a → fB a w = (n, 0) → 0 ≤ n ∧ (a ≤ 1152921504606846976 → n ≤ 1152921504606846976) ∧ n < (a + 1) * (10 ^ w.length : Nat)
 | [], a, n, hc, ha, h => by
  cases h
  refine ⟨ha, id, by simp; omega⟩
 | c :: w, a, n, hc, ha, h => by
  have hd := hc c (by simp)
  simp [aS] at hd
  unfold fB at h
  split at h
  ·cases h
  split at h
  ·cases h
  ·rename_i h1 h2
   obtain ⟨q1, q2, q3⟩ := aAa w _ n (fun d hd => hc d (by simp [hd])) (by omega) h
   refine ⟨q1, fun _ => q2 (by omega), ?_⟩
   refine Int.lt_of_lt_of_le q3 ?_
   rw [List.length_cons, Nat.pow_succ]
   have hp : (0 : Int) ≤ ((10 ^ w.length : Nat) : Int) := Int.natCast_nonneg _
   generalize ((10 ^ w.length : Nat)) = K at *
   rw [Nat.mul_comm, Int.natCast_mul, ← Int.mul_assoc]
   refine Int.mul_le_mul_of_nonneg_right ?_ hp
   have : ((10 : Nat) : Int) = 10 := rfl
   rw [this]
   omega
theorem aIv {u : List Nat} (h : (cV u).2.1 = 0) : ∃ n : Nat, (cV u).1 = (n : Int) ∧ n ≤ 1152921504606846976 ∧ ((u.takeWhile aS).length = 0 ∨ (dg n).length ≤ (u.takeWhile aS).length) := by
 have e : fB 0 (u.takeWhile aS) = ((cV u).1, 0) := by
  have h1 : (fB 0 (u.takeWhile aS)).2 = 0 := h
  exact Prod.ext rfl h1
 obtain ⟨q1, q2, q3⟩ := aAa _ 0 _ (fun c hc => qO aS u c hc) (by omega) e
 refine ⟨(cV u).1.toNat, by omega, by have := q2 (by omega); omega, ?_⟩
 rcases Nat.eq_zero_or_pos (u.takeWhile aS).length with h0 | h0
 ·exact .inl h0
 ·refine .inr ?_
  obtain ⟨k, hk⟩ : ∃ k, (u.takeWhile aS).length = k + 1 := ⟨(u.takeWhile aS).length - 1, by omega⟩
  rw [hk] at q3 ⊢
  have := rF 20 (cV u).1.toNat k [] (by omega)
  simpa [aJ, dg] using this
theorem bQh : ∀ {t : List Nat}, AB (cS 39 [39, 39] t) → AB t
 | [], h => AB.nil
 | c :: t, h => by
  have e : cS 39 [39, 39] (c :: t) = bif Nat.beq c 39 then [39, 39] ++ cS 39 [39, 39] t else c :: cS 39 [39, 39] t := rfl
  rw [e] at h
  cases hc : Nat.beq c 39 with
  | true =>
   rw [hc] at h
   have : c = 39 := Nat.eq_of_beq_eq_true hc
   refine AB.cons (by omega) (bQh fun x hx => h x (by simp [hx]))
  | false =>
   rw [hc] at h
   exact AB.cons (h c (by simp)) (bQh fun x hx => h x (by simp [hx]))
theorem bRb {k : Int} {t : List Nat} (h : AB (bK k t)) (h7 : k = 7 ∨ k = 9 → t = []) : AB t := by
 unfold bK at h
 split at h
 ·exact bQh fun c hc => h c (by simp [hc])
 split at h
 ·exact fun c hc => h c (by simp [hc])
 split at h
 ·rename_i e
  rw [h7 (.inl e)]
  exact AB.nil
 split at h
 ·exact fun c hc => h c (by simp [hc])
 split at h
 ·rename_i e
  rw [h7 (.inr e)]
  exact AB.nil
 ·exact h
theorem zY {k : Int} {t : List Nat} (h : TV k t) (hk : k = 7 ∨ k = 9) : t = [] := by
 rcases hk with rfl | rfl
 ·have := h.2 [] (stop_nil.fol 7)
  have e : bK 7 t = [35, 40] := rfl
  rw [e] at this
  have e2 : aY 2001 ([35, 40] ++ []) = some (7, [], 0, 0, 2) := rfl
  rw [e2] at this
  simp only [aW, bR] at this
  exact this.2.1.symm
 ·have := h.2 [] (stop_nil.fol 9)
  have e : bK 9 t = [58, 61] := rfl
  rw [e] at this
  have e2 : aY 2001 ([58, 61] ++ []) = some (9, [], 0, 0, 2) := rfl
  rw [e2] at this
  simp only [aW, bR] at this
  exact this.2.1.symm
theorem aMd {f : Nat} {u : List Nat} {rs : Int × List Nat × Int × Int × Nat} (h : aY f u = some rs) (he : rs.2.2.2.1 = 0) (h4 : rs.1 = 4) : rs.2.1 = [] ∧ rs.2.2.1 = (cV u).1 ∧ rs.2.2.2.2 = (cV u).2.2 ∧ (cV u).2.1 = 0 := by
 rcases uF h he with ⟨_, a, b, c, d⟩ | ⟨a, _⟩
 ·exact ⟨a, b, c, d⟩
 ·exact absurd h4 a
theorem zZ : ∀ (l : List Tok) (v : List Nat) (p : Nat), AB v → Lx 2001 v p l → VT l ∧ mu l ≤ 3 * v.length
 | [], v, p, hb, h => by cases h
 | t :: l, v, p, hb, h => by
  cases h with
  | fin _ _ hw =>
   refine ⟨fun t ht => ?_, by simp [mu, kL]⟩
   have : t = ⟨0, [], 0, ((p + v.length : Nat) : Int)⟩ := by simpa using ht
   subst this
   exact ⟨AB.nil, .inl ⟨rfl, rfl, rfl⟩⟩
  | tok w u _ k rs _ hw h1 h2 h3 h4 h5 h6 h7 =>
   have hbu : AB u := fun c hc => hb c (by simp [hc])
   obtain ⟨q1, q2⟩ := zZ l (u.drop k) _ (fun c hc => hbu c (List.mem_of_mem_drop hc)) h7
   rw [List.length_drop] at q2
   subst h3
   by_cases hk : rs.1 = 4
   ·obtain ⟨a1, a2, a3, a4⟩ := aMd h1 h2 hk
    obtain ⟨n, b1, b2, b3⟩ := aIv a4
    have e3 : (cV u).2.2 = (u.takeWhile aS).length := rfl
    rw [e3] at a3
    have b4 := b3.resolve_left (by omega)
    refine ⟨fun t ht => ?_, ?_⟩
    ·rcases List.mem_cons.1 ht with rfl | ht
     ·exact ⟨by show AB rs.2.1; rw [a1]; exact AB.nil, .inr (.inl ⟨hk, a1, n, by rw [← b1]; exact a2, b2⟩)⟩
     ·exact q1 t ht
    ·rw [vG]
     have : kL ⟨rs.1, rs.2.1, rs.2.2.1, ((p + w.length : Nat) : Int)⟩ = (dg n).length + 2 := by
      unfold kL
      rw [if_neg h6, if_pos hk]
      show (iV rs.2.2.1).length + 2 = _
      rw [a2, b1]
      rfl
     rw [this, List.length_append]
     omega
   ·obtain ⟨a1, a2, a3⟩ := bDt h1 h2 h4 h5 hk
    refine ⟨fun t ht => ?_, ?_⟩
    ·rcases List.mem_cons.1 ht with rfl | ht
     ·refine ⟨bRb (k := rs.1) ?_ (zY a1), .inr (.inr ⟨h6, hk, a1, a2⟩)⟩
      rw [← a3]
      exact fun c hc => hbu c (List.mem_of_mem_take hc)
     ·exact q1 t ht
    ·rw [vG]
     have : kL ⟨rs.1, rs.2.1, rs.2.2.1, ((p + w.length : Nat) : Int)⟩ = rs.2.2.2.2 + 2 := by
      unfold kL
      rw [if_neg h6, if_neg hk]
      show (bK rs.1 rs.2.1).length + 2 = _
      rw [← a3, List.length_take, Nat.min_eq_left h5]
     rw [this, List.length_append]
     omega
def Sst (st : PSt) (d m : Nat) : Prop := st.err = 0 ∧ st.deep = (d : Int) ∧ d ≤ 20 ∧ VT st.toks ∧ mu st.toks = m ∧ m ≤ 100000
def SO {α : Type} (P : PSt → Prop) (F : PSt → Option (α × PSt)) (C : Nat → α → Nat → Prop) : Prop := ∀ st x st', P st → F st = some (x, st') → st'.err = 0 → st.err = 0 ∧ ∀ d m, Sst st d m → ∃ n m', m' + n = m ∧ Sst st' d m' ∧ C d x n
def Any (_ : PSt) : Prop := True
def Hk (k : Int) (x : List Nat) (st : PSt) : Prop := ∃ t, aX st 0 = some t ∧ t.kind = k ∧ (x ≠ [] → t.text = x)
section
variable {α β : Type} {P P' : PSt → Prop} {F G : PSt → Option (α × PSt)} {C D : Nat → α → Nat → Prop}
theorem SO.mono (h : SO P F C) (k : ∀ d x n, d ≤ 20 → n ≤ 100000 → C d x n → D d x n) : SO P F D := fun st x st' hp he h0 => by
 obtain ⟨a, b⟩ := h st x st' hp he h0
 refine ⟨a, fun d m S => ?_⟩
 obtain ⟨n, m', e, S', c⟩ := b d m S
 exact ⟨n, m', e, S', k d x n S.2.2.1 (by have := S.2.2.2.2.2; omega) c⟩
theorem SO.pre (h : SO P F C) (k : ∀ st, P' st → P st) : SO P' F C := fun st x st' hp he h0 => h st x st' (k st hp) he h0
theorem SO.bind {K : α × PSt → Option (β × PSt)} {E : α → Nat → β → Nat → Prop} (h : SO P F C) (k : ∀ x, SO Any (fun st => K (x, st)) (E x)) : SO P (fun st => (F st).bind K) (fun d y n => ∃ x a b, a + b = n ∧ C d x a ∧ E x d y b) := fun st y st' hp he h0 => by
 obtain ⟨⟨x, s1⟩, e1, e2⟩ := bD he
 obtain ⟨k1, k2⟩ := k x s1 y st' trivial e2 h0
 obtain ⟨a1, a2⟩ := h st x s1 hp e1 k1
 refine ⟨a1, fun d m S => ?_⟩
 obtain ⟨n, m', q1, q2, q3⟩ := a2 d m S
 obtain ⟨n2, m2, q4, q5, q6⟩ := k2 d m' q2
 exact ⟨n + n2, m2, by omega, q5, x, n, n2, rfl, q3, q6⟩
theorem SO.ret (x : α) : SO P (fun st => some (x, st)) (fun d y n => y = x ∧ n = 0) := fun st y st' hp he h0 => by
 cases he
 exact ⟨h0, fun d m S => ⟨0, m, rfl, S, rfl, rfl⟩⟩
theorem jE {st : PSt} {k : Int} {x : List Nat} (h : dQ st k x = some true) : st.err = 0 ∧ Hk k x st := by
 unfold dQ at h
 obtain ⟨t, ht, h⟩ := bD h
 simp at h
 refine ⟨h.1.1, t, ht, h.1.2, fun hx => h.2.resolve_left hx⟩
theorem uY {st : PSt} {k : Int} {x : List Nat} (h : dQ st k x = some false) (he : st.err = 0) : ¬ Hk k x st := by
 unfold dQ at h
 obtain ⟨t, ht, h⟩ := bD h
 rintro ⟨u, h1, h2, h3⟩
 rw [ht] at h1
 cases h1
 simp [he, h2] at h
 exact h.2 (h3 h.1)
theorem bQb {k : Int} {x : List Nat} (h : SO (fun st => P st ∧ Hk k x st) F C) (g : SO (fun st => P st ∧ (st.err = 0 → ¬ Hk k x st)) G C) : SO P (fun st => (dQ st k x).bind fun c => if c then F st else G st) C := fun st y st' hp he h0 => by
 obtain ⟨c, e1, e2⟩ := bD he
 cases c with
 | true => exact h st y st' ⟨hp, (jE e1).2⟩ e2 h0
 | false => exact g st y st' ⟨hp, uY e1⟩ e2 h0
theorem bQp {t : Tok} {e : Int} (he : e ≠ 0) (x : α) : SO P (fun st => some (x, cP st t e)) C := fun st y st' hp hs h0 => by
 exfalso
 cases hs
 unfold cP at h0
 split at h0
 ·exact he h0
 ·exact absurd h0 (by assumption)
end
theorem take_so {Q : Tok → Prop} : SO (fun st => ∃ t, aX st 0 = some t ∧ Q t) aT (fun d t n => Q t ∧ TKV t ∧ n = kL t) := fun st y st' ⟨t, ht, hq⟩ he h0 => by
 unfold aT at he
 rw [ht, Option.bind_some] at he
 have hmem : t ∈ st.toks := by
  unfold aX at ht
  exact List.mem_of_getElem? ht
 by_cases hk : t.kind = 0
 ·rw [if_pos hk] at he
  obtain ⟨rfl, rfl⟩ : t = y ∧ st = st' := by simpa using he
  refine ⟨h0, fun d m S => ⟨0, m, rfl, S, hq, S.2.2.2.1 _ hmem, ?_⟩⟩
  unfold kL
  rw [if_pos hk]
 ·rw [if_neg hk] at he
  by_cases h2 : 2 ≤ st.toks.length
  ·rw [if_pos h2] at he
   obtain ⟨rfl, rfl⟩ : t = y ∧ ({ st with toks := st.toks.drop 1 } : PSt) = st' := by simpa using he
   refine ⟨h0, fun d m S => ?_⟩
   obtain ⟨s1, s2, s3, s4, s5, s6⟩ := S
   have ht0 : st.toks[0]? = some t := by
    unfold aX at ht
    simpa using ht
   obtain ⟨r, hr⟩ : ∃ r, st.toks = t :: r := by
    cases e : st.toks with
    | nil => rw [e] at ht0; cases ht0
    | cons a r => rw [e] at ht0; cases ht0; exact ⟨r, rfl⟩
   rw [hr, vG] at s5
   refine ⟨kL t, mu r, by omega, ⟨s1, s2, s3, ?_, ?_, by omega⟩, hq, s4 _ hmem, rfl⟩
   ·show VT (st.toks.drop 1)
    exact fun x hx => s4 x (List.mem_of_mem_drop hx)
   ·show mu (st.toks.drop 1) = _
    rw [hr]
    rfl
  ·rw [if_neg h2] at he
   cases he
theorem dI {k : Int} {x : List Nat} {P : PSt → Prop} : SO (fun st => P st ∧ Hk k x st) aT (fun d t n => (t.kind = k ∧ (x ≠ [] → t.text = x)) ∧ TKV t ∧ n = kL t) := take_so.pre fun st h => h.2
theorem lN {P : PSt → Prop} (k : Int) (x : List Nat) : SO P (fun st => dZ st k x) (fun d t n => (t.kind = k ∧ (x ≠ [] → t.text = x)) ∧ TKV t ∧ n = kL t) := by
 unfold dZ
 refine bQb dI ?_
 intro st y st' hp he h0
 obtain ⟨t, _, he⟩ := bD he
 exact bQp (P := Any) (C := fun d t n => (t.kind = k ∧ (x ≠ [] → t.text = x)) ∧ TKV t ∧ n = kL t) (t := t) (e := 13) (by decide) z4 st y st' trivial he h0
end Go.Dd

namespace Go.Dd
def nht (x : Node) : Nat := iR x.kind x.text
def eJ (x : Node) : List Nat := (nf x).tx
theorem bLc : ∀ (x : Node), (nf x).ht = (nht x, eJ x)
 | .mk k t m ns ts ks => rfl
def jA (h : Nat) (x : Node) : List Nat := if nht x > h then 40 :: (eJ x ++ [41]) else eJ x
def oW (l : List Node) : List (Nat × List Nat) := l.map fun x => (nht x, eJ x)
theorem aIh (l : List Node) : (oE l).map Nf.ht = oW l := by
 rw [nV, List.map_map]
 exact List.map_congr_left fun x _ => bLc x
theorem aKj (l : List Node) : (oE l).map Nf.tx = l.map eJ := by
 rw [nV, List.map_map]
 rfl
theorem qD (h : Nat) (x : Node) : (eJ x).length ≤ (jA h x).length ∧ (jA h x).length ≤ (eJ x).length + 2 := by
 unfold jA
 split
 ·simp; omega
 ·omega
theorem lM (t : List Nat) (x : Node) (args : List Node) : eJ (aH t (x :: args)) = jA (if bX t = 1 then 1 else 2) x ++ 32 :: aQ t (oW args) := by
 show tN 7 t 0 [] [] (oE (x :: args)) = _
 show eP t ((oE (x :: args)).map Nf.ht) = _
 rw [aIh]
 unfold eP
 rw [if_neg (by simp [oW])]
 rfl
theorem aTp {t : List Nat} (h : TV 1 t) (a : List (Nat × List Nat)) : aQ t a = t := by
 unfold aQ
 rw [if_pos ((fC h).1 rfl).1]
theorem aZq {t : List Nat} (h : TV 3 t) (x : Node) : aQ t (oW [x]) = t ++ 32 :: jA 1 x := by
 unfold aQ
 have := ((fC h).2.2 rfl).1
 rw [if_neg (by omega), if_pos this]
 rfl
def q3 (z : List Nat × Node) : List Nat × Node × List Nat := (z.1, z.2, jA 2 z.2)
theorem tT : ∀ (zs : List (List Nat × Node)) (pre : List (Nat × List Nat)), eX (zs.map Prod.fst) (pre ++ oW (zs.map Prod.snd)) pre.length = zs.map fun z => z.1 ++ 32 :: jA 2 z.2
 | [], pre => rfl
 | z :: zs, pre => by
  have ih := tT zs (pre ++ [(nht z.2, eJ z.2)])
  have e : bI (pre ++ oW ((z :: zs).map Prod.snd)) pre.length 2 = jA 2 z.2 := by
   unfold bI
   simp [oW]
   rfl
  show (z.1 ++ 32 :: bI (pre ++ oW ((z :: zs).map Prod.snd)) pre.length 2) :: eX (zs.map Prod.fst) (pre ++ oW ((z :: zs).map Prod.snd)) (pre.length + 1) = _
  rw [e]
  simp only [List.append_assoc, laE, lcE, lnE, List.cons_append, List.nil_append] at ih
  simp only [List.map_cons]
  rw [← ih]
  rfl
theorem aGp : ∀ (zs : List (List Nat × Node)), zs ≠ [] → 32 :: aF [32] (zs.map fun z => z.1 ++ 32 :: jA 2 z.2) = KQ (zs.map q3)
 | [], h => absurd rfl h
 | [z], h => by simp [aAy, KQ, q3]
 | z :: u :: l, h => by
  have := aGp (u :: l) (by simp)
  show 32 :: ((z.1 ++ 32 :: jA 2 z.2) ++ ([32] ++ aF [32] ((u :: l).map fun z => z.1 ++ 32 :: jA 2 z.2))) = 32 :: (z.1 ++ 32 :: (jA 2 z.2 ++ KQ ((u :: l).map q3)))
  rw [← this]
  simp
theorem aWc {zs : List (List Nat × Node)} (h : ∀ z ∈ zs, TV 2 z.1) (hne : zs ≠ []) : 32 :: aQ (zs.map Prod.fst).flatten (oW (zs.map Prod.snd)) = KQ (zs.map q3) := by
 have hk : ∀ q ∈ zs.map Prod.fst, TV 2 q := fun q hq => by
  obtain ⟨z, h1, rfl⟩ := List.mem_map.1 hq
  exact h z h1
 have h3 := kS hk (by simpa using hne)
 unfold aQ
 rw [if_neg (by omega), if_neg (by omega), xY hk, show eX (zs.map Prod.fst) (oW (zs.map Prod.snd)) 0 = _ from tT zs []]
 exact aGp zs hne
def WU (d : Nat) (x : Node) : Prop := ∀ e, e ≤ d → RdU e x (jA 1 x)
def WB (d : Nat) (x : Node) : Prop := ∀ e, e ≤ d → RdB e x (jA 2 x)
def MsgOk (d : Nat) (t : List Nat) (args : List Node) : Prop := (TV 1 t ∧ args = []) ∨ (TV 3 t ∧ ∃ a, args = [a] ∧ WU d a) ∨ ∃ zs : List (List Nat × Node), zs ≠ [] ∧ t = (zs.map Prod.fst).flatten ∧ args = zs.map Prod.snd ∧ ∀ z ∈ zs, TV 2 z.1 ∧ WB d z.2
def SendOk (d : Nat) (x : Node) : Prop := ∃ t k0 args, x = aH t (k0 :: args) ∧ MsgOk d t args ∧ (bX t = 1 → WU d k0) ∧ (bX t ≠ 1 → WB d k0)
structure GG (d : Nat) (x : Node) : Prop where
 u : ∀ e, e ≤ d → nht x ≤ 1 → RdU e x (eJ x)
 b : ∀ e, e ≤ d → nht x ≤ 2 → RdB e x (eJ x)
 e : ∀ e, e ≤ d → RdE e x (eJ x)
 s : x.kind = 7 → SendOk d x
structure PU (d : Nat) (x : Node) : Prop where
 g : GG d x
 u : WU d x
 b : WB d x
structure PB (d : Nat) (x : Node) : Prop where
 g : GG d x
 b : WB d x
theorem PU.pb {d : Nat} {x : Node} (h : PU d x) : PB d x := ⟨h.g, h.b⟩
theorem MsgOk.le {d e : Nat} {t : List Nat} {args : List Node} (h : MsgOk d t args) (he : e ≤ d) : MsgOk e t args := by
 rcases h with h | ⟨h, a, h1, h2⟩ | ⟨zs, h1, h2, h3, h4⟩
 ·exact .inl h
 ·exact .inr (.inl ⟨h, a, h1, fun k hk => h2 k (by omega)⟩)
 ·exact .inr (.inr ⟨zs, h1, h2, h3, fun z hz => ⟨(h4 z hz).1, fun k hk => (h4 z hz).2 k (by omega)⟩⟩)
theorem SendOk.le {d e : Nat} {x : Node} (h : SendOk d x) (he : e ≤ d) : SendOk e x := by
 obtain ⟨t, k0, args, h1, h2, h3, h4⟩ := h
 exact ⟨t, k0, args, h1, h2.le he, fun k q hq => h3 k q (by omega), fun k q hq => h4 k q (by omega)⟩
theorem GG.le {d e : Nat} {x : Node} (h : GG d x) (he : e ≤ d) : GG e x := ⟨fun k hk => h.u k (by omega), fun k hk => h.b k (by omega), fun k hk => h.e k (by omega), fun k => (h.s k).le he⟩
theorem PU.low {d : Nat} {x : Node} (h0 : nht x = 0) (h7 : x.kind ≠ 7) (h : ∀ e, e ≤ d → RdP e x (eJ x)) : PU d x := by
 have e1 : jA 1 x = eJ x := by unfold jA; rw [if_neg (by omega)]
 have e2 : jA 2 x = eJ x := by unfold jA; rw [if_neg (by omega)]
 exact ⟨⟨fun e he _ => (h e he).u, fun e he _ => (h e he).u.b, fun e he => (h e he).u.b.k.e, fun k => absurd k h7⟩, fun e he => by rw [e1]; exact (h e he).u, fun e he => by rw [e2]; exact (h e he).u.b⟩
theorem PU.paren {d : Nat} {x : Node} (h : GG (d + 1) x) (hd : d < 20) : PU d x := by
 refine ⟨h.le (by omega), fun e he => ?_, fun e he => ?_⟩
 ·unfold jA
  split
  ·exact (RdE.paren (h.e (e + 1) (by omega)) (by omega)).u
  ·exact h.u e (by omega) (by omega)
 ·unfold jA
  split
  ·exact (RdE.paren (h.e (e + 1) (by omega)) (by omega)).u.b
  ·exact h.b e (by omega) (by omega)
theorem hJ (t : List Nat) (ks : List Node) : nht (aH t ks) = bX t := rfl
theorem PU.send {d : Nat} {x : Node} {n : List Nat} (h : PU d x) (hn : TV 1 n) : PU d (aH n [x]) ∧ eJ (aH n [x]) = jA 1 x ++ 32 :: n := by
 have hk := ((fC hn).1 rfl).1
 have e0 : eJ (aH n [x]) = jA 1 x ++ 32 :: n := by rw [lM, hk, aTp hn]; rfl
 have e1 : jA 1 (aH n [x]) = eJ (aH n [x]) := by unfold jA; rw [if_neg (by rw [hJ]; omega)]
 have e2 : jA 2 (aH n [x]) = eJ (aH n [x]) := by unfold jA; rw [if_neg (by rw [hJ]; omega)]
 have H : ∀ e, e ≤ d → RdU e (aH n [x]) (eJ (aH n [x])) := fun e he => by rw [e0]; exact (h.u e he).send hn
 refine ⟨⟨⟨fun e he _ => H e he, fun e he _ => (H e he).b, fun e he => (H e he).b.k.e, fun _ => ⟨n, x, [], rfl, .inl ⟨hn, rfl⟩, fun _ => h.u, fun k => absurd hk k⟩⟩, fun e he => by rw [e1]; exact H e he, fun e he => by rw [e2]; exact (H e he).b⟩, e0⟩
theorem PB.send {d : Nat} {x y : Node} {s : List Nat} (h : PB d x) (hs : TV 3 s) (hy : PU d y) : PB d (aH s [x, y]) ∧ eJ (aH s [x, y]) = jA 2 x ++ 32 :: (s ++ 32 :: jA 1 y) := by
 have hk := ((fC hs).2.2 rfl).1
 have e0 : eJ (aH s [x, y]) = jA 2 x ++ 32 :: (s ++ 32 :: jA 1 y) := by rw [lM, hk, aZq hs]; rfl
 have e2 : jA 2 (aH s [x, y]) = eJ (aH s [x, y]) := by unfold jA; rw [if_neg (by rw [hJ]; omega)]
 have H : ∀ e, e ≤ d → RdB e (aH s [x, y]) (eJ (aH s [x, y])) := fun e he => by rw [e0]; exact (h.b e he).send hs (hy.u e he)
 exact ⟨⟨⟨fun e he h1 => by rw [hJ] at h1; omega, fun e he _ => H e he, fun e he => (H e he).k.e, fun _ => ⟨s, x, [y], rfl, .inr (.inl ⟨hs, y, rfl, hy.u⟩), fun k => by omega, fun _ => h.b⟩⟩, fun e he => by rw [e2]; exact H e he⟩, e0⟩
theorem GG.keys {d : Nat} {x : Node} {zs : List (List Nat × Node)} (h : PB d x) (hne : zs ≠ []) (hz : ∀ z ∈ zs, TV 2 z.1 ∧ WB d z.2) :
 GG d (aH (zs.map Prod.fst).flatten (x :: zs.map Prod.snd)) ∧ eJ (aH (zs.map Prod.fst).flatten (x :: zs.map Prod.snd)) = jA 2 x ++ KQ (zs.map q3) ∧ ∀ e, e ≤ d → RdK e (aH (zs.map Prod.fst).flatten (x :: zs.map Prod.snd)) (eJ (aH (zs.map Prod.fst).flatten (x :: zs.map Prod.snd))) := by
 have hk : ∀ q ∈ zs.map Prod.fst, TV 2 q := fun q hq => by
  obtain ⟨z, h1, rfl⟩ := List.mem_map.1 hq
  exact (hz z h1).1
 have h3 := kS hk (by simpa using hne)
 have e0 : eJ (aH (zs.map Prod.fst).flatten (x :: zs.map Prod.snd)) = jA 2 x ++ KQ (zs.map q3) := by
  rw [lM, h3, aWc (fun z h => (hz z h).1) hne]
  rfl
 have ef : (zs.map q3).map Prod.fst = zs.map Prod.fst := by rw [List.map_map]; rfl
 have es : ((zs.map q3).map fun q => q.2.1) = zs.map Prod.snd := by rw [List.map_map]; rfl
 have H : ∀ e, e ≤ d → RdK e (aH (zs.map Prod.fst).flatten (x :: zs.map Prod.snd)) (eJ (aH (zs.map Prod.fst).flatten (x :: zs.map Prod.snd))) := fun e he => by
  have := RdK.keys (qs := zs.map q3) (h.b e he) (fun q hq => by
   obtain ⟨z, h1, rfl⟩ := List.mem_map.1 hq
   exact ⟨(hz z h1).1, (hz z h1).2 e he⟩) (by simpa using hne)
  rw [ef, es] at this
  rw [e0]
  exact this
 refine ⟨⟨fun e he h1 => by rw [hJ] at h1; omega, fun e he h1 => by rw [hJ] at h1; omega, fun e he => (H e he).e, fun _ => ⟨_, x, _, rfl, .inr (.inr ⟨zs, hne, rfl, rfl, hz⟩), fun k => by omega, fun _ => h.b⟩⟩, e0, H⟩
theorem SendOk.k {d : Nat} {t : List Nat} {k0 : Node} {args : List Node} (hm : MsgOk d t args) (h1 : bX t = 1 → WU d k0) (h2 : bX t ≠ 1 → WB d k0) : ∀ e, e ≤ d → RdK e (aH t (k0 :: args)) (eJ (aH t (k0 :: args))) := fun e he => by
 rcases hm with ⟨h, rfl⟩ | ⟨h, a, rfl, ha⟩ | ⟨zs, hne, rfl, rfl, hz⟩
 ·have hk := ((fC h).1 rfl).1
  rw [lM, hk, aTp h]
  exact ((h1 hk) e he |>.send h).b.k
 ·have hk := ((fC h).2.2 rfl).1
  rw [lM, hk, aZq h]
  exact ((h2 (by omega)) e he |>.send h (ha e he)).k
 ·have hk : ∀ q ∈ zs.map Prod.fst, TV 2 q := fun q hq => by
   obtain ⟨z, h1, rfl⟩ := List.mem_map.1 hq
   exact (hz z h1).1
  have h3 := kS hk (by simpa using hne)
  have ef : (zs.map q3).map Prod.fst = zs.map Prod.fst := by rw [List.map_map]; rfl
  have es : ((zs.map q3).map fun q => q.2.1) = zs.map Prod.snd := by rw [List.map_map]; rfl
  have := RdK.keys (qs := zs.map q3) ((h2 (by omega)) e he) (fun q hq => by
   obtain ⟨z, h1, rfl⟩ := List.mem_map.1 hq
   exact ⟨(hz z h1).1, (hz z h1).2 e he⟩) (by simpa using hne)
  rw [ef, es] at this
  rw [lM, h3, aWc (fun z h => (hz z h).1) hne]
  exact this
theorem MsgOk.m {d : Nat} {t : List Nat} {args : List Node} (hm : MsgOk d t args) : ∀ e, e ≤ d → RdM e (aH t args) (aQ t (oW args)) := fun e he => by
 rcases hm with ⟨h, rfl⟩ | ⟨h, a, rfl, ha⟩ | ⟨zs, hne, rfl, rfl, hz⟩
 ·rw [aTp h]
  exact bMb h
 ·rw [aZq h]
  exact bOf h (ha e he)
 ·have ef : (zs.map q3).map Prod.fst = zs.map Prod.fst := by rw [List.map_map]; rfl
  have es : ((zs.map q3).map fun q => q.2.1) = zs.map Prod.snd := by rw [List.map_map]; rfl
  have := bMk (d := e) (qs := zs.map q3) (fun q hq => by
   obtain ⟨z, h1, rfl⟩ := List.mem_map.1 hq
   exact ⟨(hz z h1).1, (hz z h1).2 e he⟩) (by simpa using hne)
  rw [ef, es, ← aWc (fun z h => (hz z h).1) hne] at this
  exact this
theorem GG.cascade {d : Nat} {t : List Nat} {k0 : Node} {args : List Node} {ms : List (List Nat × List Node)} (hm : MsgOk d t args) (h1 : bX t = 1 → WU d k0) (h2 : bX t ≠ 1 → WB d k0) (hs : ∀ m ∈ ms, MsgOk d m.1 m.2) (hne : ms ≠ []) :
 GG d (.mk 8 [] 0 [] [] (k0 :: aH t args :: ms.map fun m => aH m.1 m.2)) ∧ eJ (.mk 8 [] 0 [] [] (k0 :: aH t args :: ms.map fun m => aH m.1 m.2)) = eJ (aH t (k0 :: args)) ++ FQ (ms.map fun m => (aH m.1 m.2, aQ m.1 (oW m.2))) := by
 have ek : (ms.map fun m => (aH m.1 m.2, aQ m.1 (oW m.2))).map Prod.fst = ms.map fun m => aH m.1 m.2 := by rw [List.map_map]; rfl
 have e0 : eJ (.mk 8 [] 0 [] [] (k0 :: aH t args :: ms.map fun m => aH m.1 m.2)) = eJ (aH t (k0 :: args)) ++ FQ (ms.map fun m => (aH m.1 m.2, aQ m.1 (oW m.2))) := by
  show eP t ((nf k0).ht :: (oE args).map Nf.ht) ++ aF [] ((oE (ms.map fun m => aH m.1 m.2)).map fun x => 59 :: 32 :: aQ x.t x.ks) = _
  congr 1
  clear ek hs hne
  induction ms with
  | nil => rfl
  | cons m ms ih =>
   have e : (nf (aH m.1 m.2)).t = m.1 ∧ (nf (aH m.1 m.2)).ks = oW m.2 := ⟨rfl, aIh m.2⟩
   cases ms with
   | nil =>
    show 59 :: 32 :: aQ (nf (aH m.1 m.2)).t (nf (aH m.1 m.2)).ks = 59 :: 32 :: (aQ m.1 (oW m.2) ++ [])
    rw [e.1, e.2, List.append_nil]
   | cons m2 ms =>
    show (59 :: 32 :: aQ (nf (aH m.1 m.2)).t (nf (aH m.1 m.2)).ks) ++ ([] ++ aF [] ((oE ((m2 :: ms).map fun m => aH m.1 m.2)).map fun x => 59 :: 32 :: aQ x.t x.ks)) = 59 :: 32 :: (aQ m.1 (oW m.2) ++ FQ _)
    rw [e.1, e.2, List.nil_append, ih]
    rfl
 have hh : nht (.mk 8 [] 0 [] [] (k0 :: aH t args :: ms.map fun m => aH m.1 m.2)) = 4 := rfl
 refine ⟨⟨fun e he h1 => by omega, fun e he h1 => by omega, fun e he => ?_, fun k => absurd k (by show (8 : Int) ≠ 7; decide)⟩, e0⟩
 have := RdE.cascade (SendOk.k hm h1 h2 e he) (ms := ms.map fun m => (aH m.1 m.2, aQ m.1 (oW m.2))) (fun m hm => by
  obtain ⟨z, h1, rfl⟩ := List.mem_map.1 hm
  exact (hs z h1).m e he) (by simpa using hne)
 rw [ek, ← e0] at this
 exact this
theorem GG.assign {d : Nat} {x : Node} {n : List Nat} (h : GG d x) (hn : TV 1 n) : GG d (.mk 6 n 0 [] [] [x]) ∧ eJ (.mk 6 n 0 [] [] [x]) = n ++ 32 :: 58 :: 61 :: 32 :: eJ x := by
 have e0 : eJ (.mk 6 n 0 [] [] [x]) = n ++ 32 :: 58 :: 61 :: 32 :: eJ x := rfl
 have hh : nht (.mk 6 n 0 [] [] [x]) = 5 := rfl
 exact ⟨⟨fun e he h1 => by omega, fun e he h1 => by omega, fun e he => by rw [e0]; exact (h.e e he).assign hn, fun k => absurd k (by show (6 : Int) ≠ 7; decide)⟩, e0⟩
end Go.Dd

namespace Go.Dd
theorem aLh {k : Int} {t : List Nat} (h : k = 7 ∨ k = 9 → t = []) : t.length ≤ (bK k t).length := by
 unfold bK
 split
 ·simp only [List.length_cons, List.length_append]
  have : t.length ≤ (cS 39 [39, 39] t).length := by
   induction t with
   | nil => exact Nat.le_refl _
   | cons c t ih =>
    have e : cS 39 [39, 39] (c :: t) = bif Nat.beq c 39 then [39, 39] ++ cS 39 [39, 39] t else c :: cS 39 [39, 39] t := rfl
    have ih := ih (fun hk => by have := h hk; cases this)
    rw [e]
    cases Nat.beq c 39 with
    | true => simp; omega
    | false => simp; omega
  omega
 split
 ·simp
 split
 ·rename_i e; rw [h (.inl e)]; simp
 split
 ·simp
 split
 ·rename_i e; rw [h (.inr e)]; simp
 ·exact Nat.le_refl _
theorem zR {t : Tok} {k : Int} (h : TKV t) (hk : t.kind = k) (h0 : k ≠ 0) (h4 : k ≠ 4) : TV k t.text ∧ kL t = (bK k t.text).length + 2 ∧ t.num = 0 ∧ AB t.text ∧ t.text.length + 2 ≤ kL t := by
 obtain ⟨a, h⟩ := h
 rcases h with h | h | ⟨h1, h2, h3, h5⟩
 ·omega
 ·omega
 ·rw [hk] at h3
  have e : kL t = (bK k t.text).length + 2 := by unfold kL; rw [if_neg h1, if_neg h2, hk]
  exact ⟨h3, e, h5, a, by have := aLh (k := k) (zY h3); omega⟩
theorem bOq {α β : Type} {P : PSt → Prop} {F : PSt → Option (α × PSt)} {C : Nat → α → Nat → Prop} {E : α → Nat → β → Nat → Prop} (K : α → PSt → Option (β × PSt)) (h : SO P F C) (k : ∀ x, SO Any (K x) (E x)) : SO P (fun st => (F st).bind fun r => K r.1 r.2) (fun d y n => ∃ x a b, a + b = n ∧ C d x a ∧ E x d y b) :=
 SO.bind (K := fun r => K r.1 r.2) h k
theorem nU : ∀ {l : List Node}, (∀ x ∈ l, Sk x) → SkL l
 | [], h => trivial
 | x :: l, h => ⟨h x (by simp), nU fun y hy => h y (by simp [hy])⟩
theorem nX : ∀ {l : List Node}, (∀ x ∈ l, By x) → ByL l
 | [], h => trivial
 | x :: l, h => ⟨h x (by simp), nX fun y hy => h y (by simp [hy])⟩
theorem qC {t : List Nat} {ks : List Node} (h : t.length ≤ 100000) (h2 : ks.length ≤ 100001) (hk : ∀ x ∈ ks, Sk x) : Sk (aH t ks) := ⟨by omega, by omega, by omega, by unfold cA; omega, nU hk⟩
theorem pX {t : List Nat} {ks : List Node} (h : AB t) (hk : ∀ x ∈ ks, By x) : By (aH t ks) := ⟨h, fun x hx => by (cases hx), fun x hx => by (cases hx), nX hk⟩
def CU (d : Nat) (x : Node) (n : Nat) : Prop := PU d x ∧ (jA 1 x).length + 2 ≤ n ∧ Sk x ∧ By x
def CB (d : Nat) (x : Node) (n : Nat) : Prop := PB d x ∧ (jA 2 x).length + 2 ≤ n ∧ Sk x ∧ By x
def CE (d : Nat) (x : Node) (n : Nat) : Prop := GG d x ∧ (eJ x).length + 2 ≤ n ∧ Sk x ∧ By x
theorem kH {h : Nat} {x : Node} (hx : nht x ≤ h) : jA h x = eJ x := by unfold jA; rw [if_neg (by omega)]
theorem aQs (x : Node) : (jA 2 x).length ≤ (jA 1 x).length := by
 have := qD 1 x
 have := qD 2 x
 by_cases h : nht x ≤ 2
 ·rw [kH h]; omega
 ·unfold jA
  rw [if_pos (by omega), if_pos (by omega)]
  exact Nat.le_refl _
theorem CU.cb {d : Nat} {x : Node} {n : Nat} (h : CU d x n) : CB d x n := ⟨h.1.pb, by have := aQs x; have := h.2.1; omega, h.2.2⟩
theorem CB.ce {d : Nat} {x : Node} {n : Nat} (h : CB d x n) : CE d x n := ⟨h.1.g, by have := qD 2 x; have := h.2.1; omega, h.2.2⟩
theorem nD : ∀ (f : Nat) (x : Node), SO Any (bO f x) (fun d y n => ∀ a, CU d x a → CU d y (a + n))
 | 0, x => fun st y st' _ h => by cases h
 | f + 1, x => by
  show SO Any (fun st => (dQ st 1 []).bind fun c => if c then (aT st).bind fun r => bO f (aH r.1.text [x]) r.2 else some (x, st)) _
  refine bQb ((bOq (fun t st => bO f (aH t.text [x]) st) dI (fun t => nD f (aH t.text [x]))).mono ?_) ((SO.ret x).mono ?_)
  ·rintro d y n hd hn ⟨t, a, b, rfl, ⟨⟨hk, _⟩, hv, rfl⟩, H⟩ c ⟨h1, h2, h3, h4⟩
   obtain ⟨k1, k2, k3, k4, k5⟩ := zR hv hk (by decide) (by decide)
   obtain ⟨p1, p2⟩ := h1.send k1
   have := H (c + kL t) ⟨p1, by
    rw [kH (by rw [hJ, ((fC k1).1 rfl).1]; omega), p2, List.length_append, List.length_cons]
    omega, qC (by omega) (by simp) (by simpa using h3), pX k4 (by simpa using h4)⟩
   rw [← Nat.add_assoc]
   exact this
  ·rintro d y n hd hn ⟨rfl, rfl⟩ a h
   exact h
theorem uU {P : PF} {g : Nat} (hP : SO Any P CU) : ∀ (f : Nat) (x : Node), SO Any (bM P g f x) (fun d y n => ∀ a, CB d x a → CB d y (a + n))
 | 0, x => fun st y st' _ h => by cases h
 | f + 1, x => by
  show SO Any (fun st => (dQ st 3 []).bind fun c => if c then (aT st).bind fun r => (P r.2).bind fun q => (bO g q.1 q.2).bind fun u => bM P g f (aH r.1.text [x, u.1]) u.2 else some (x, st)) _
  refine bQb ((bOq (fun t st => (P st).bind fun q => (bO g q.1 q.2).bind fun u => bM P g f (aH t.text [x, u.1]) u.2) dI (fun t => bOq (fun q st => (bO g q st).bind fun u => bM P g f (aH t.text [x, u.1]) u.2) hP fun q => bOq (fun u st => bM P g f (aH t.text [x, u]) st) (nD g q) fun u => uU hP f (aH t.text [x, u]))).mono ?_) ((SO.ret x).mono ?_)
  ·rintro d y n hd hn ⟨t, a, b, rfl, ⟨⟨hk, _⟩, hv, rfl⟩, q, a2, b2, rfl, hq, u, a3, b3, rfl, hu, H⟩ c ⟨h1, h2, h3, h4⟩
   obtain ⟨k1, k2, k3, k4, k5⟩ := zR hv hk (by decide) (by decide)
   obtain ⟨q1, q2, q3, q4⟩ := hu a2 hq
   obtain ⟨p1, p2⟩ := h1.send k1 q1
   have := H (c + (kL t + (a2 + a3))) ⟨p1, by
    rw [kH (by rw [hJ, ((fC k1).2.2 rfl).1]; omega), p2]
    simp only [List.length_append, List.length_cons]
    omega, qC (by omega) (by simp) (by
     intro z hz
     rcases List.mem_cons.1 hz with rfl | hz
     ·exact h3
     ·have : z = u := by simpa using hz
      rw [this]; exact q3), pX k4 (by
     intro z hz
     rcases List.mem_cons.1 hz with rfl | hz
     ·exact h4
     ·have : z = u := by simpa using hz
      rw [this]; exact q4)⟩
   rw [show c + (kL t + (a2 + (a3 + b3))) = c + (kL t + (a2 + a3)) + b3 by omega]
   exact this
  ·rintro d y n hd hn ⟨rfl, rfl⟩ a h
   exact h
theorem aGm {P : PF} {g : Nat} (hP : SO Any P CU) : SO Any (fun st => (P st).bind fun q => (bO g q.1 q.2).bind fun u => bM P g g u.1 u.2) CB :=
 (bOq (fun q st => (bO g q st).bind fun u => bM P g g u.1 u.2) hP fun q => bOq (fun u st => bM P g g u st) (nD g q) fun u => uU hP g u).mono fun d x n _ _ h => by
  obtain ⟨q, a, b, e, h1, u, a2, b2, e2, h2, h3⟩ := h
  have := h3 _ (h2 a h1).cb
  rw [show n = a + a2 + b2 by omega]
  exact this
def KZ (d : Nat) (zs : List (List Nat × Node)) (n : Nat) : Prop := (∀ z ∈ zs, (TV 2 z.1 ∧ WB d z.2) ∧ AB z.1 ∧ Sk z.2 ∧ By z.2) ∧ (KQ (zs.map q3)).length + 2 * zs.length ≤ n ∧ zs.length ≤ n ∧ (zs.map Prod.fst).flatten.length ≤ n
theorem KZ.nil {d : Nat} : KZ d [] 0 := ⟨fun z hz => (by cases hz), Nat.le_refl _, Nat.le_refl _, Nat.le_refl _⟩
theorem KZ.cons {d : Nat} {p : List Nat} {x : Node} {zs : List (List Nat × Node)} {n a w : Nat} (h : KZ d zs n) (hp : TV 2 p) (hb : AB p) (hw : p.length + 2 ≤ w) (hx : CB d x a) : KZ d ((p, x) :: zs) (w + (a + n)) := by
 obtain ⟨h1, h2, h3, h4⟩ := h
 obtain ⟨x1, x2, x3, x4⟩ := hx
 refine ⟨fun z hz => ?_, ?_, ?_, ?_⟩
 ·rcases List.mem_cons.1 hz with rfl | hz
  ·exact ⟨⟨hp, x1.b⟩, hb, x3, x4⟩
  ·exact h1 z hz
 ·show (32 :: (p ++ 32 :: (jA 2 x ++ KQ (zs.map q3)))).length + 2 * (zs.length + 1) ≤ _
  simp only [List.length_cons, List.length_append]
  omega
 ·simp only [List.length_cons]; omega
 ·simp only [List.map_cons, List.flatten_cons, List.length_append]; omega
theorem aAk {P : PF} {g : Nat} (hP : SO Any P CU) : ∀ (f : Nat) (t : List Nat) (ks : List Node), SO Any (dG P g f t ks) (fun d y n => ∃ zs, y = aH (t ++ (zs.map Prod.fst).flatten) (ks ++ zs.map Prod.snd) ∧ KZ d zs n)
 | 0, t, ks => fun st y st' _ h => by cases h
 | f + 1, t, ks => by
  show SO Any (fun st => (dQ st 2 []).bind fun c => if c then (aT st).bind fun r => if t.length + r.1.text.length ≤ cA then
   (P r.2).bind fun q => (bO g q.1 q.2).bind fun u => (bM P g g u.1 u.2).bind fun w => dG P g f (t ++ r.1.text) (ks ++ [w.1]) w.2 else none
   else some (aH t ks, st)) _
  refine bQb ((bOq (fun r st => if t.length + r.text.length ≤ cA then
   (P st).bind fun q => (bO g q.1 q.2).bind fun u => (bM P g g u.1 u.2).bind fun w => dG P g f (t ++ r.text) (ks ++ [w.1]) w.2 else none) dI (E := fun r d y n => ∃ x a b, a + b = n ∧ CB d x a ∧ ∃ zs, y = aH (t ++ r.text ++ (zs.map Prod.fst).flatten) (ks ++ [x] ++ zs.map Prod.snd) ∧ KZ d zs b) (fun r => ?_)).mono ?_) ((SO.ret _).mono ?_)
  ·by_cases hl : t.length + r.text.length ≤ cA
   ·have := bOq (fun w st => dG P g f (t ++ r.text) (ks ++ [w]) st) (aGm (g := g) hP) fun w => aAk hP f (t ++ r.text) (ks ++ [w])
    intro st y st' hp he h0
    refine this st y st' hp ?_ h0
    have he : (if t.length + r.text.length ≤ cA then (P st).bind fun q => (bO g q.1 q.2).bind fun u => (bM P g g u.1 u.2).bind fun w => dG P g f (t ++ r.text) (ks ++ [w.1]) w.2 else none) = some (y, st') := he
    rw [if_pos hl] at he
    rw [← he]
    simp only [Option.bind_assoc]
   ·intro st y st' hp he h0
    have he : (if t.length + r.text.length ≤ cA then (P st).bind fun q => (bO g q.1 q.2).bind fun u => (bM P g g u.1 u.2).bind fun w => dG P g f (t ++ r.text) (ks ++ [w.1]) w.2 else none) = some (y, st') := he
    rw [if_neg hl] at he
    cases he
  ·rintro d y n hd hn ⟨r, a, b, rfl, ⟨⟨hk, _⟩, hv, rfl⟩, x, a2, b2, rfl, hx, zs, rfl, hz⟩
   obtain ⟨k1, k2, k3, k4, k5⟩ := zR hv hk (by decide) (by decide)
   exact ⟨(r.text, x) :: zs, by simp, hz.cons k1 k4 k5 hx⟩
  ·rintro d y n hd hn ⟨rfl, rfl⟩
   exact ⟨[], by simp, KZ.nil⟩
theorem SO.pick {α : Type} {P : PSt → Prop} {F : PSt → Option (α × PSt)} {C D : Nat → α → Nat → Prop} (h : SO P F C) (k : ∀ st x st', P st → F st = some (x, st') → st'.err = 0 → ∀ d n, C d x n → D d x n) : SO P F D := fun st x st' hp he h0 => by
 obtain ⟨a, b⟩ := h st x st' hp he h0
 refine ⟨a, fun d m S => ?_⟩
 obtain ⟨n, m', e, S', c⟩ := b d m S
 exact ⟨n, m', e, S', k st x st' hp he h0 d n c⟩
theorem rV {P : PF} {g : Nat} : ∀ (f : Nat) (t : List Nat) (ks : List Node) (st : PSt) (y : Node) (st' : PSt), dG P g f t ks st = some (y, st') → ks.length ≤ y.kids.length
 | 0, t, ks, st, y, st', h => by cases h
 | f + 1, t, ks, st, y, st', h => by
  unfold dG at h
  obtain ⟨c, e1, h⟩ := bD h
  cases c with
  | true =>
   rw [if_pos rfl] at h
   obtain ⟨r, e2, h⟩ := bD h
   split at h
   ·obtain ⟨q, e3, h⟩ := bD h
    obtain ⟨u, e4, h⟩ := bD h
    obtain ⟨w, e5, h⟩ := bD h
    have := rV f _ _ _ y st' h
    simp at this
    omega
   ·cases h
  | false =>
   rw [if_neg (by decide)] at h
   cases h
   exact Nat.le_refl _
theorem tZ {P : PF} {g f : Nat} {t : List Nat} {ks : List Node} {st : PSt} {y : Node} {st' : PSt} (h : dG P g f t ks st = some (y, st')) (hk : dQ st 2 [] = some true) : ks.length < y.kids.length := by
 cases f with
 | zero => cases h
 | succ f =>
  unfold dG at h
  rw [hk, Option.bind_some, if_pos rfl] at h
  obtain ⟨r, e2, h⟩ := bD h
  split at h
  ·obtain ⟨q, e3, h⟩ := bD h
   obtain ⟨u, e4, h⟩ := bD h
   obtain ⟨w, e5, h⟩ := bD h
   have := rV f _ _ _ y st' h
   simp at this
   omega
  ·cases h
theorem aAr {P : PF} {g : Nat} (hP : SO Any P CU) (x : Node) : SO Any (gW P g x) (fun d y n => (y = x ∧ n = 0) ∨ ∃ zs, zs ≠ [] ∧ y = aH (zs.map Prod.fst).flatten (x :: zs.map Prod.snd) ∧ KZ d zs n) := fun st y st' hp he h0 => by
 unfold gW at he
 obtain ⟨c, e1, he⟩ := bD he
 cases c with
 | true =>
  rw [if_pos rfl] at he
  obtain ⟨a, b⟩ := aAk hP g [] [x] st y st' trivial he h0
  refine ⟨a, fun d m S => ?_⟩
  obtain ⟨n, m', e, S', zs, q1, q2⟩ := b d m S
  refine ⟨n, m', e, S', .inr ⟨zs, ?_, by simpa using q1, q2⟩⟩
  rintro rfl
  have := tZ he e1
  rw [q1] at this
  simp [aH, Node.kids] at this
 | false =>
  rw [if_neg (by decide)] at he
  cases he
  exact ⟨h0, fun d m S => ⟨0, m, rfl, S, .inl ⟨rfl, rfl⟩⟩⟩
end Go.Dd

namespace Go.Dd
theorem bRe {α β : Type} {P : PSt → Prop} {F : PSt → Option (α × PSt)} {C : Nat → α → Nat → Prop} {E : α → Nat → β → Nat → Prop} (Q : α → PSt → Prop) (K : α → PSt → Option (β × PSt)) (h : SO P F C) (hq : ∀ st x s1, P st → F st = some (x, s1) → Q x s1) (k : ∀ x, SO (Q x) (K x) (E x)) : SO P (fun st => (F st).bind fun r => K r.1 r.2) (fun d y n => ∃ x a b, a + b = n ∧ C d x a ∧ E x d y b) := fun st y st' hp he h0 => by
 obtain ⟨⟨x, s1⟩, e1, e2⟩ := bD he
 obtain ⟨k1, k2⟩ := k x s1 y st' (hq st x s1 hp e1) e2 h0
 obtain ⟨a1, a2⟩ := h st x s1 hp e1 k1
 refine ⟨a1, fun d m S => ?_⟩
 obtain ⟨n, m', q1, q2, q3⟩ := a2 d m S
 obtain ⟨n2, m2, q4, q5, q6⟩ := k2 d m' q2
 exact ⟨n + n2, m2, by omega, q5, x, n, n2, rfl, q3, q6⟩
theorem SO.look {α : Type} {P : PSt → Prop} {C : Nat → α → Nat → Prop} (K : Tok → PSt → Option (α × PSt)) (h : ∀ t, SO (fun st => P st ∧ aX st 0 = some t) (K t) C) : SO P (fun st => (aX st 0).bind fun t => K t st) C := fun st y st' hp he h0 => by
 obtain ⟨t, e1, e2⟩ := bD he
 exact h t st y st' ⟨hp, e1⟩ e2 h0
theorem bPt {α : Type} {P : PSt → Prop} {F G : PSt → Option (α × PSt)} {C : Nat → α → Nat → Prop} (e : ∀ st, F st = G st) (h : SO P G C) : SO P F C := fun st y st' hp he h0 => h st y st' hp ((e st).symm.trans he) h0
theorem hC {t : Tok} {P : PSt → Prop} : SO (fun st => P st ∧ aX st 0 = some t) aT (fun d u n => u = t ∧ TKV t ∧ n = kL t) :=
 ((take_so (Q := fun u => u = t)).pre fun st h => ⟨t, h.2, rfl⟩).mono fun d u n _ _ h => by
   obtain ⟨rfl, b, c⟩ := h
   exact ⟨rfl, b, c⟩
theorem bRc : ∀ {l : List (List Nat)}, (∀ x ∈ l, AB x) → AB l.flatten
 | [], h => AB.nil
 | x :: l, h => by
  rw [List.flatten_cons]
  exact AB.app (h x (by simp)) (bRc fun y hy => h y (by simp [hy]))
def AC (d : Nat) (t : List Nat) (args : List Node) (n : Nat) : Prop := MsgOk d t args ∧ (aQ t (oW args)).length + 2 ≤ n ∧ AB t ∧ t.length ≤ n ∧ args.length ≤ n ∧ ∀ a ∈ args, Sk a ∧ By a
theorem bEd {P : PF} {g : Nat} (hP : SO Any P CU) : SO Any (nB P g) (fun d y n => ∃ t args, fH y = aH t args ∧ AC d t args n) := by
 unfold nB
 refine SO.look (fun t st => if t.kind = 1 then (aT st).bind fun r => some (aH t.text [zN], r.2)
  else if t.kind = 3 then (aT st).bind fun r => (P r.2).bind fun q => (bO g q.1 q.2).bind fun u => some (aH t.text [zN, u.1], u.2)
  else if t.kind = 2 then gW P g zN st
  else some (zN, cP st t 13)) fun t => ?_
 by_cases h1 : t.kind = 1
 ·refine bPt (fun st => if_pos h1) ((bOq (fun (r : Tok) st => some (aH t.text [zN], st)) (hC (t := t) (P := Any)) fun r => SO.ret _).mono ?_)
  rintro d y n hd hn ⟨r, a, b, rfl, ⟨rfl, hv, rfl⟩, rfl, rfl⟩
  obtain ⟨k1, k2, k3, k4, k5⟩ := zR hv h1 (by decide) (by decide)
  exact ⟨r.text, [], kZ _ _ _, .inl ⟨k1, rfl⟩, by rw [aTp k1]; omega, k4, by omega, Nat.zero_le _, fun a ha => by cases ha⟩
 by_cases h3 : t.kind = 3
 ·refine bPt (fun st => (if_neg h1).trans (if_pos h3)) ((bOq (fun (r : Tok) st => (P st).bind fun q => (bO g q.1 q.2).bind fun u => some (aH t.text [zN, u.1], u.2)) (hC (t := t) (P := Any)) fun r => bOq (fun q st => (bO g q st).bind fun u => some (aH t.text [zN, u.1], u.2)) hP fun q => bOq (fun u st => some (aH t.text [zN, u], st)) (nD g q) fun u => SO.ret _).mono ?_)
  rintro d y n hd hn ⟨r, a, b, rfl, ⟨rfl, hv, rfl⟩, q, a2, b2, rfl, hq, u, a3, b3, rfl, hu, rfl, rfl⟩
  obtain ⟨k1, k2, k3, k4, k5⟩ := zR hv h3 (by decide) (by decide)
  obtain ⟨q1, q2, q3, q4⟩ := hu a2 hq
  refine ⟨r.text, [u], kZ _ _ _, .inr (.inl ⟨k1, u, rfl, q1.u⟩), ?_, k4, by omega, by simp; omega, fun a ha => ?_⟩
  ·rw [aZq k1]
   simp only [List.length_append, List.length_cons]
   omega
  ·have : a = u := by simpa using ha
   rw [this]
   exact ⟨q3, q4⟩
 by_cases h2 : t.kind = 2
 ·refine bPt (fun st => (if_neg h1).trans ((if_neg h3).trans (if_pos h2))) ((SO.pick ((aAr (g := g) hP zN).pre (P' := fun st => Any st ∧ aX st 0 = some t) fun _ _ => trivial) (D := fun d y n => ∃ zs, zs ≠ [] ∧ y = aH (zs.map Prod.fst).flatten (zN :: zs.map Prod.snd) ∧ KZ d zs n) ?_).mono ?_)
  ·intro st y st' hp he h0 d n hc
   rcases hc with ⟨rfl, _⟩ | hc
   ·exfalso
    unfold gW at he
    obtain ⟨c, e1, he⟩ := bD he
    cases c with
    | true =>
     rw [if_pos rfl] at he
     have := tZ he e1
     simp [zN, Node.kids] at this
    | false =>
     rw [if_neg (by decide)] at he
     cases he
     exact uY e1 h0 ⟨t, hp.2, h2, fun h => absurd rfl h⟩
   ·exact hc
  ·rintro d y n hd hn ⟨zs, hne, rfl, hz1, hz2, hz3, hz4⟩
   refine ⟨_, _, kZ _ _ _, .inr (.inr ⟨zs, hne, rfl, rfl, fun z hz => (hz1 z hz).1⟩), ?_, ?_, hz4, by simpa using hz3, fun a ha => ?_⟩
   ·have := congrArg List.length (aWc (fun z hz => (hz1 z hz).1.1) hne)
    simp only [List.length_cons] at this
    have : 1 ≤ zs.length := by
     cases zs with
     | nil => exact absurd rfl hne
     | cons a b => simp
    omega
   ·exact bRc fun p hp => by
     obtain ⟨z, hz, rfl⟩ := List.mem_map.1 hp
     exact (hz1 z hz).2.1
   ·obtain ⟨z, hz, rfl⟩ := List.mem_map.1 ha
    exact (hz1 z hz).2.2
 ·exact bPt (fun st => (if_neg h1).trans ((if_neg h3).trans (if_neg h2))) (bQp (by decide) _)
def MZ (d : Nat) (ms : List (List Nat × List Node)) (n : Nat) : Prop := (∀ m ∈ ms, MsgOk d m.1 m.2 ∧ AB m.1 ∧ m.1.length ≤ 100000 ∧ m.2.length ≤ 100000 ∧ ∀ a ∈ m.2, Sk a ∧ By a) ∧ (FQ (ms.map fun m => (aH m.1 m.2, aQ m.1 (oW m.2)))).length ≤ n ∧ ms.length ≤ n
theorem aKi {P : PF} {g : Nat} (hP : SO Any P CU) : ∀ (f : Nat) (ks : List Node), SO Any (jC P g f ks) (fun d y n => ∃ ms, y = .mk 8 [] 0 [] [] (ks ++ ms.map fun m => aH m.1 m.2) ∧ MZ d ms n)
 | 0, ks => fun st y st' _ h => by cases h
 | f + 1, ks => by
  show SO Any (fun st => (dQ st 10 [59]).bind fun c => if c then (aT st).bind fun r => (nB P g r.2).bind fun q => jC P g f (ks ++ [fH q.1]) q.2 else some (.mk 8 [] 0 [] [] ks, st)) _
  refine bQb ((bOq (fun (t : Tok) st => (nB P g st).bind fun q => jC P g f (ks ++ [fH q.1]) q.2) dI (fun t => bOq (fun q st => jC P g f (ks ++ [fH q]) st) (bEd hP) fun q => aKi hP f (ks ++ [fH q]))).mono ?_) ((SO.ret _).mono ?_)
  ·rintro d y n hd hn ⟨t, a, b, rfl, ⟨⟨hk, _⟩, hv, rfl⟩, q, a2, b2, rfl, ⟨t2, args, e2, m1, m2, m3, m4, m5, m6⟩, ms, rfl, z1, z2, z3⟩
   obtain ⟨k1, k2, k3, k4, k5⟩ := zR hv hk (by decide) (by decide)
   refine ⟨(t2, args) :: ms, by simp [e2], fun m hm => ?_, ?_, ?_⟩
   ·rcases List.mem_cons.1 hm with rfl | hm
    ·exact ⟨m1, m3, by show t2.length ≤ _; omega, by show args.length ≤ _; omega, m6⟩
    ·exact z1 m hm
   ·show (59 :: 32 :: (aQ t2 (oW args) ++ FQ _)).length ≤ _
    simp only [List.length_cons, List.length_append]
    omega
   ·simp only [List.length_cons]
    omega
  ·rintro d y n hd hn ⟨rfl, rfl⟩
   exact ⟨[], by simp, fun m hm => (by cases hm), Nat.le_refl _, Nat.le_refl _⟩
theorem uG {P : PF} {g : Nat} : ∀ (f : Nat) (ks : List Node) (st : PSt) (y : Node) (st' : PSt), jC P g f ks st = some (y, st') → ks.length ≤ y.kids.length
 | 0, ks, st, y, st', h => by cases h
 | f + 1, ks, st, y, st', h => by
  unfold jC at h
  obtain ⟨c, e1, h⟩ := bD h
  cases c with
  | true =>
   rw [if_pos rfl] at h
   obtain ⟨r, e2, h⟩ := bD h
   obtain ⟨q, e3, h⟩ := bD h
   have := uG f _ _ y st' h
   simp at this
   omega
  | false =>
   rw [if_neg (by decide)] at h
   cases h
   exact Nat.le_refl _
theorem aPl {P : PF} {g f : Nat} {ks : List Node} {st : PSt} {y : Node} {st' : PSt} (h : jC P g f ks st = some (y, st')) (hk : dQ st 10 [59] = some true) : ks.length < y.kids.length := by
 cases f with
 | zero => cases h
 | succ f =>
  unfold jC at h
  rw [hk, Option.bind_some, if_pos rfl] at h
  obtain ⟨r, e2, h⟩ := bD h
  obtain ⟨q, e3, h⟩ := bD h
  have := uG f _ _ y st' h
  simp at this
  omega
theorem aWx {d : Nat} {w : Node} {a n : Nat} {zs : List (List Nat × Node)} (hw : CB d w a) (hne : zs ≠ []) (hz : KZ d zs n) (hn : a + n ≤ 100000) : CE d (aH (zs.map Prod.fst).flatten (w :: zs.map Prod.snd)) (a + n) := by
 obtain ⟨z1, z2, z3, z4⟩ := hz
 obtain ⟨w1, w2, w3, w4⟩ := hw
 obtain ⟨g1, g2, _⟩ := GG.keys w1 hne fun z h => (z1 z h).1
 refine ⟨g1, ?_, qC (by omega) (by simp; omega) fun x hx => ?_, pX (bRc fun p hp => ?_) fun x hx => ?_⟩
 ·rw [g2, List.length_append]
  omega
 ·rcases List.mem_cons.1 hx with rfl | hx
  ·exact w3
  ·obtain ⟨z, hz, rfl⟩ := List.mem_map.1 hx
   exact (z1 z hz).2.2.1
 ·obtain ⟨z, hz, rfl⟩ := List.mem_map.1 hp
  exact (z1 z hz).2.1
 ·rcases List.mem_cons.1 hx with rfl | hx
  ·exact w4
  ·obtain ⟨z, hz, rfl⟩ := List.mem_map.1 hx
   exact (z1 z hz).2.2.2
theorem bHc {f : Nat} (hP : SO Any (PP f) CU) : SO Any (FK f) CE := by
 have := bOq (fun w st => gW (PP f) f w st) (aGm (g := f) hP) fun w => aAr (g := f) hP w
 refine bPt (fun st => ?_) (this.mono ?_)
 ·unfold FK FB FU
  simp only [Option.bind_assoc]
 ·rintro d y n hd hn ⟨w, a, b, rfl, hw, ⟨rfl, rfl⟩ | ⟨zs, hne, rfl, hz⟩⟩
  ·exact hw.ce
  ·exact aWx hw hne hz hn
theorem sK {f : Nat} (hP : SO Any (PP f) CU) : SO Any (fR (PP f) f) CE := by
 refine bPt (mG f) ?_
 refine SO.mono (bOq (fun (x : Node) st => (dQ st 10 [59]).bind fun c => if c then
  if x.kind = 7 then (x.kids[0]?).bind fun k0 => jC (PP f) f f [k0, fH x] st
  else (aX st 0).bind fun t => some (x, cP st t 13)
  else some (x, st)) (E := fun x d y n => ∀ a, a + n ≤ 100000 → CE d x a → CE d y (a + n)) (bHc hP) fun x => ?_) ?_
 ·refine bQb ?_ ((SO.ret x).mono ?_)
  ·by_cases h7 : x.kind = 7
   ·refine bPt (fun st => if_pos h7) ?_
    intro st y st' hp he h0
    obtain ⟨k0, e1, e2⟩ := bD he
    obtain ⟨q1, q2⟩ := aKi hP f [k0, fH x] st y st' trivial e2 h0
    have hi : dQ st 10 [59] = some true := by
     obtain ⟨t, t1, t2, t3⟩ := hp.2
     unfold dQ
     rw [t1, Option.bind_some, q1, t2, t3 (by decide)]
     simp
    have hgrow := aPl e2 hi
    refine ⟨q1, fun d m S => ?_⟩
    obtain ⟨n, m', q3, q4, ms, rfl, z1, z2, z3⟩ := q2 d m S
    refine ⟨n, m', q3, q4, fun a ha ⟨x1, x2, x3, x4⟩ => ?_⟩
    obtain ⟨t, k1, args, rfl, s2, s3, s4⟩ := x1.s h7
    have ek : k1 = k0 := by simpa [aJ, aH, Node.kids] using e1
    subst ek
    have hne : ms ≠ [] := by
     rintro rfl
     simp [Node.kids] at hgrow
    obtain ⟨g1, g2⟩ := GG.cascade (ms := ms) s2 s3 s4 (fun m hm => (z1 m hm).1) hne
    obtain ⟨b1, _, _, b4, b5, b6⟩ := x3
    obtain ⟨c1, _, _, c4, c5⟩ := x4
    have e3 : [k1, fH (aH t (k1 :: args))] ++ ms.map (fun m => aH m.1 m.2) = k1 :: aH t args :: ms.map fun m => aH m.1 m.2 := by rw [kZ]; rfl
    rw [e3]
    refine ⟨g1, by rw [g2, List.length_append]; omega, ⟨by simp, by omega, by omega, ?_, b5, ?_⟩, ⟨AB.nil, fun x hx => (by cases hx), fun x hx => (by cases hx), c4, ?_⟩⟩
    ·simp only [List.length_cons, List.length_map]
     unfold cA
     omega
    ·refine ⟨⟨b1, by omega, by omega, ?_, b6⟩, nU fun x hx => ?_⟩
     ·simp only [List.length_cons] at b4
      omega
     ·obtain ⟨m, hm, rfl⟩ := List.mem_map.1 hx
      obtain ⟨_, m2, m3, m4, m5⟩ := z1 m hm
      exact qC m3 (by omega) fun a ha => (m5 a ha).1
    ·refine ⟨⟨c1, fun x hx => (by cases hx), fun x hx => (by cases hx), c5⟩, nX fun x hx => ?_⟩
     obtain ⟨m, hm, rfl⟩ := List.mem_map.1 hx
     obtain ⟨_, m2, m3, m4, m5⟩ := z1 m hm
     exact pX m2 fun a ha => (m5 a ha).2
   ·refine bPt (fun st => if_neg h7) ?_
    refine SO.look (fun t st => some (x, cP st t 13)) fun t => bQp (by decide) x
  ·rintro d y n hd hn ⟨rfl, rfl⟩ a _ h
   exact h
 ·rintro d y n hd hn ⟨x, a, b, rfl, hx, H⟩
  exact H a hn hx
end Go.Dd

namespace Go.Dd
theorem uD {st s1 : PSt} {t t2 : Tok} (h : aT st = some (t, s1)) (h0 : t.kind ≠ 0) (h1 : aX st 1 = some t2) : aX s1 0 = some t2 := by
 unfold aT at h
 obtain ⟨u, e1, h⟩ := bD h
 by_cases hk : u.kind = 0
 ·rw [if_pos hk] at h
  cases h
  exact absurd hk h0
 ·rw [if_neg hk] at h
  by_cases h2 : 2 ≤ st.toks.length
  ·rw [if_pos h2] at h
   cases h
   unfold aX at h1 ⊢
   have e : min 1 (st.toks.length - 1) = 1 := by omega
   rw [e] at h1
   simpa using h1
  ·rw [if_neg h2] at h
   cases h
theorem sD {st s1 : PSt} {t : Tok} (h : aT st = some (t, s1)) : s1.err = st.err ∧ aX st 0 = some t := by
 unfold aT at h
 obtain ⟨u, e1, h⟩ := bD h
 split at h
 ·cases h
  exact ⟨rfl, e1⟩
 ·split at h
  ·cases h
   exact ⟨rfl, e1⟩
  ·cases h
def CL (x : Node) (n : Nat) : Prop := (∀ e, RdL e x (eJ x)) ∧ nht x = 0 ∧ x.kind ≠ 7 ∧ (eJ x).length + 2 ≤ n ∧ Sk x ∧ By x
theorem SO.err {α : Type} {P : PSt → Prop} {F : PSt → Option (α × PSt)} {x : α} {C : Nat → α → Nat → Prop} : SO (fun st => P st ∧ st.err ≠ 0) (fun st => some (x, st)) C := fun st y st' hp he h0 => by
 cases he
 exact absurd h0 hp.2
theorem SO.ok {α : Type} {P : PSt → Prop} {F G : PSt → Option (α × PSt)} {C : Nat → α → Nat → Prop} (h : SO (fun st => P st ∧ st.err = 0) F C) (g : SO (fun st => P st ∧ st.err ≠ 0) G C) : SO P (fun st => if st.err = 0 then F st else G st) C := fun st y st' hp he h0 => by
 by_cases h1 : st.err = 0
 ·have he : (if st.err = 0 then F st else G st) = some (y, st') := he
  rw [if_pos h1] at he
  exact h st y st' ⟨hp, h1⟩ he h0
 ·have he : (if st.err = 0 then F st else G st) = some (y, st') := he
  rw [if_neg h1] at he
  exact g st y st' ⟨hp, h1⟩ he h0
theorem plain_so : SO Any dO (fun d r n => (r.2 = true ∧ CL r.1 n) ∨ (r.2 = false ∧ n = 0)) := by
 unfold dO
 refine SO.look (fun t st => if st.err = 0 then (oK st).bind fun c =>
  if c then (aT st).bind fun r => (aT r.2).bind fun q => some ((Node.mk 1 [] (jB (0 - q.1.num)) [] [] [], true), q.2)
  else if t.kind = 4 then (aT st).bind fun r => some ((Node.mk 1 t.text t.num [] [] [], true), r.2)
  else if t.kind = 5 then (aT st).bind fun r => some ((Node.mk 2 t.text t.num [] [] [], true), r.2)
  else if t.kind = 6 then (aT st).bind fun r => some ((Node.mk 3 t.text t.num [] [] [], true), r.2)
  else some ((Node.mk 0 t.text t.num [] [] [], false), st)
  else some ((Node.mk 0 t.text t.num [] [] [], false), st)) fun t => ?_
 refine SO.ok ?_ (SO.err (F := dO))
 intro st y st' hp he h0
 obtain ⟨c, e1, he⟩ := bD he
 obtain ⟨⟨_, ht⟩, herr⟩ := hp
 cases c with
 | true =>
  have hn : ∃ t2, aX st 1 = some t2 ∧ t2.kind = 4 ∧ Hk 3 [45] st := by
   unfold oK at e1
   obtain ⟨t2, l1, e1⟩ := bD e1
   obtain ⟨c, l2, e1⟩ := bD e1
   obtain ⟨u, l3, e1⟩ := bD e1
   simp at e1
   refine ⟨t2, l1, e1.1.2, ?_⟩
   rw [e1.1.1] at l2
   exact (jE l2).2
  obtain ⟨t2, l1, l2, l3⟩ := hn
  have := bRe (P := fun s => Any s ∧ Hk 3 [45] s ∧ aX s 1 = some t2) (fun _ s => Any s ∧ aX s 0 = some t2) (fun (_ : Tok) s => (aT s).bind fun q => some (((Node.mk 1 [] (jB (0 - q.1.num)) [] [] [] : Node), true), q.2)) ((dI (P := Any) (k := 3) (x := [45])).pre fun s h => ⟨trivial, h.2.1⟩) (fun s x s1 h1 h2 => by
   obtain ⟨a, b, c⟩ := h1
   obtain ⟨u, u1, u2, _⟩ := b
   have := (sD h2).2
   rw [u1] at this
   cases this
   exact ⟨trivial, uD h2 (by omega) c⟩) (fun x => bOq (fun (q : Tok) s => some (((Node.mk 1 [] (jB (0 - q.num)) [] [] [] : Node), true), s)) hC fun q => SO.ret _)
  obtain ⟨q1, q2⟩ := this st y st' ⟨trivial, l3, l1⟩ he h0
  refine ⟨q1, fun d m S => ?_⟩
  obtain ⟨n, m', r1, r2, t1, a, b, rfl, ⟨⟨hk1, hx⟩, hv, rfl⟩, u, a2, b2, rfl, ⟨rfl, hv2, rfl⟩, rfl, rfl⟩ := q2 d m S
  refine ⟨_, m', r1, r2, .inl ⟨rfl, ?_⟩⟩
  obtain ⟨k1, k2, k3, k4, k5⟩ := zR hv hk1 (by decide) (by decide)
  have k6 := hx (by decide)
  rw [k6] at k2
  have k7 : kL t1 = 3 := k2
  obtain ⟨_, hv2⟩ := hv2
  rcases hv2 with hv2 | ⟨_, _, k, hk, hle⟩ | hv2
  ·omega
  ·have hw : kL u = (dg k).length + 2 := by
    unfold kL
    rw [if_neg (by omega), if_pos l2, hk]
    rfl
   rw [hk, k7, hw]
   have hlen : (iV (jB (0 - (k : Int)))).length ≤ (dg k).length + 1 := by
    cases k with
    | zero => decide
    | succ k =>
     have e : jB (0 - ((k + 1 : Nat) : Int)) = -((k + 1 : Nat) : Int) := by
      unfold jB
      rw [gE _ (by omega) (by omega)]
      omega
     rw [e, aBe]
     simp
   have hr : -9223372036854775808 ≤ jB (0 - (k : Int)) ∧ jB (0 - (k : Int)) ≤ 9223372036854775807 := by
    unfold jB
    rw [gE _ (by omega) (by omega)]
    omega
   exact ⟨fun e => bHh hle, rfl, by show (1 : Int) ≠ 7; decide, by show (iV _).length + 2 ≤ _; omega, ⟨by simp, hr.1, hr.2, by unfold cA; simp, trivial⟩, ⟨AB.nil, fun x hx => (by cases hx), fun x hx => (by cases hx), trivial⟩⟩
  ·exact absurd l2 hv2.2.1
 | false =>
  rw [if_neg (by decide)] at he
  by_cases h4 : t.kind = 4
  ·rw [if_pos h4] at he
   have := bOq (fun (_ : Tok) s => some (((Node.mk 1 t.text t.num [] [] [] : Node), true), s)) (hC (t := t) (P := Any)) fun q => SO.ret _
   obtain ⟨q1, q2⟩ := this st y st' ⟨trivial, ht⟩ he h0
   refine ⟨q1, fun d m S => ?_⟩
   obtain ⟨n, m', r1, r2, t1, a, b, rfl, ⟨rfl, hv, rfl⟩, rfl, rfl⟩ := q2 d m S
   refine ⟨_, m', r1, r2, .inl ⟨rfl, ?_⟩⟩
   obtain ⟨_, hv2⟩ := hv
   rcases hv2 with hv2 | ⟨_, hx, k, hk, hle⟩ | hv2
   ·omega
   ·have hw : kL t1 = (dg k).length + 2 := by
     unfold kL
     rw [if_neg (by omega), if_pos h4, hk]
     rfl
    rw [hk, hw, hx]
    exact ⟨fun e => aRi hle, rfl, by show (1 : Int) ≠ 7; decide, Nat.le_refl _, ⟨by simp, by omega, by omega, by unfold cA; simp, trivial⟩, ⟨AB.nil, fun x hx => (by cases hx), fun x hx => (by cases hx), trivial⟩⟩
   ·exact absurd h4 hv2.2.1
  rw [if_neg h4] at he
  by_cases h5 : t.kind = 5
  ·rw [if_pos h5] at he
   have := bOq (fun (_ : Tok) s => some (((Node.mk 2 t.text t.num [] [] [] : Node), true), s)) (hC (t := t) (P := Any)) fun q => SO.ret _
   obtain ⟨q1, q2⟩ := this st y st' ⟨trivial, ht⟩ he h0
   refine ⟨q1, fun d m S => ?_⟩
   have hm := S.2.2.2.2.2
   obtain ⟨n, m', r1, r2, t1, a, b, rfl, ⟨rfl, hv, rfl⟩, rfl, rfl⟩ := q2 d m S
   refine ⟨_, m', r1, r2, .inl ⟨rfl, ?_⟩⟩
   obtain ⟨k1, k2, k3, k4, k5⟩ := zR hv h5 (by decide) (by decide)
   rw [k3]
   exact ⟨fun e => bCe k1, rfl, by show (2 : Int) ≠ 7; decide, by rw [k2]; exact Nat.le_refl _, ⟨by omega, by omega, by omega, by unfold cA; simp, trivial⟩, ⟨k4, fun x hx => (by cases hx), fun x hx => (by cases hx), trivial⟩⟩
  rw [if_neg h5] at he
  by_cases h6 : t.kind = 6
  ·rw [if_pos h6] at he
   have := bOq (fun (_ : Tok) s => some (((Node.mk 3 t.text t.num [] [] [] : Node), true), s)) (hC (t := t) (P := Any)) fun q => SO.ret _
   obtain ⟨q1, q2⟩ := this st y st' ⟨trivial, ht⟩ he h0
   refine ⟨q1, fun d m S => ?_⟩
   have hm := S.2.2.2.2.2
   obtain ⟨n, m', r1, r2, t1, a, b, rfl, ⟨rfl, hv, rfl⟩, rfl, rfl⟩ := q2 d m S
   refine ⟨_, m', r1, r2, .inl ⟨rfl, ?_⟩⟩
   obtain ⟨k1, k2, k3, k4, k5⟩ := zR hv h6 (by decide) (by decide)
   rw [k3]
   exact ⟨fun e => bHm k1, rfl, by show (3 : Int) ≠ 7; decide, by rw [k2]; exact Nat.le_refl _, ⟨by omega, by omega, by omega, by unfold cA; simp, trivial⟩, ⟨k4, fun x hx => (by cases hx), fun x hx => (by cases hx), trivial⟩⟩
  rw [if_neg h6] at he
  cases he
  exact ⟨h0, fun d m S => ⟨0, m, rfl, S, .inr ⟨rfl, rfl⟩⟩⟩
theorem lG {F : PF} {P : PSt → Prop} {k : Int} {tx : List Nat} {C : Nat → Node → Nat → Prop} (h : SO Any F C) : SO (fun st => P st ∧ Hk k tx st) (cF F) (fun d x n => d < 20 ∧ ∃ t a, (t.kind = k ∧ (tx ≠ [] → t.text = tx)) ∧ TKV t ∧ n = kL t + a ∧ C (d + 1) x a) := fun st y st' hp he h0 => by
 unfold cF at he
 obtain ⟨⟨t, s1⟩, e1, he⟩ := bD he
 by_cases h20 : s1.deep = 20
 ·have he : (if s1.deep = 20 then some (zN, cP s1 t 14) else _) = some (y, st') := he
  rw [if_pos h20] at he
  exfalso
  exact (bQp (P := Any) (C := fun _ _ _ => True) (t := t) (e := 14) (by decide) zN s1 y st' trivial he h0).2 |> fun _ => by
   cases he
   unfold cP at h0
   split at h0
   ·cases h0
   ·exact absurd h0 (by assumption)
 ·have he : (if s1.deep = 20 then some (zN, cP s1 t 14) else (F { s1 with deep := jB (s1.deep + 1) }).bind fun q => some (q.1, { q.2 with deep := jB (q.2.deep - 1) })) = some (y, st') := he
  rw [if_neg h20] at he
  obtain ⟨⟨x, s2⟩, e2, he⟩ := bD he
  cases he
  have h0 : s2.err = 0 := h0
  obtain ⟨a1, a2⟩ := h _ x s2 trivial e2 h0
  obtain ⟨b1, b2⟩ := dI (P := P) st t s1 hp e1 a1
  refine ⟨b1, fun d m S => ?_⟩
  obtain ⟨n, m', c1, ⟨c2, c3, c4, c5, c6, c7⟩, c8, c9, rfl⟩ := b2 d m S
  have hd : d < 20 := by
   apply Decidable.byContradiction
   intro hc
   have : d = 20 := by omega
   rw [c3, this] at h20
   exact h20 rfl
  have S2 : Sst { s1 with deep := jB (s1.deep + 1) } (d + 1) m' := ⟨c2, by show jB (s1.deep + 1) = _; rw [c3, bIm (by omega)], by omega, c5, c6, c7⟩
  obtain ⟨n2, m2, d1, ⟨d2, d3, d4, d5, d6, d7⟩, d8⟩ := a2 (d + 1) m' S2
  exact ⟨kL t + n2, m2, by omega, ⟨d2, by show jB (s2.deep - 1) = _; rw [d3, bIt (by omega)], by omega, d5, d6, d7⟩, hd, t, n2, c8, c9, rfl, d8⟩
end Go.Dd

namespace Go.Dd
def LZ (d : Nat) (es : List Node) (n : Nat) : Prop := (∀ x ∈ es, (∀ e, e ≤ d → RdA e x (eJ x)) ∧ Sk x ∧ By x) ∧ iP (es.map eJ) + 2 * es.length ≤ n
def CLs (d : Nat) (x : Node) (n : Nat) : Prop := ∃ es k, x = .mk 4 [] 0 [] [] es ∧ LZ d es k ∧ k + 3 = n
theorem aCs (es : List Node) : eJ (.mk 4 [] 0 [] [] es) = 35 :: 40 :: (aF [32] (es.map eJ) ++ [41]) := by
 show tN 4 [] 0 [] [] (oE es) = _
 unfold tN
 rw [aKj]
 rfl
theorem aSl {d : Nat} {es : List Node} {n : Nat} (hd : d < 20) (h : LZ (d + 1) es n) (hn : n ≤ 100000) : (∀ e, e ≤ d → RdA e (.mk 4 [] 0 [] [] es) (eJ (.mk 4 [] 0 [] [] es))) ∧ (∀ e, e ≤ d → RdP e (.mk 4 [] 0 [] [] es) (eJ (.mk 4 [] 0 [] [] es))) ∧ (eJ (.mk 4 [] 0 [] [] es)).length ≤ n + 3 ∧ Sk (.mk 4 [] 0 [] [] es) ∧ By (.mk 4 [] 0 [] [] es) := by
 obtain ⟨h1, h2⟩ := h
 have e1 : (es.map fun x => (x, eJ x)).map Prod.fst = es := by rw [List.map_map]; exact List.map_id es
 have e2 : (es.map fun x => (x, eJ x)).map Prod.snd = es.map eJ := by rw [List.map_map]; rfl
 have hk : ∀ e, e ≤ d → ∀ z ∈ (es.map fun x => (x, eJ x)), RdA (e + 1) z.1 z.2 := fun e he z hz => by
  obtain ⟨x, hx, rfl⟩ := List.mem_map.1 hz
  exact (h1 x hx).1 (e + 1) (by omega)
 refine ⟨fun e he => ?_, fun e he => ?_, ?_, ?_, ?_⟩
 ·have := aTm (d := e) (by omega) (hk e he)
  rw [e1, e2, ← aCs] at this
  exact this
 ·have := aZv (d := e) (by omega) (hk e he)
  rw [e1, e2, ← aCs] at this
  exact this
 ·rw [aCs]
  have := kT [32] (es.map eJ)
  simp only [List.length_map, List.length_cons, List.length_nil, List.length_append] at this ⊢
  omega
 ·exact ⟨by simp, by omega, by omega, by unfold cA; omega, nU fun x hx => (h1 x hx).2.1⟩
 ·exact ⟨AB.nil, fun x hx => (by cases hx), fun x hx => (by cases hx), nX fun x hx => (h1 x hx).2.2⟩
theorem LZ.cons {d : Nat} {x : Node} {es : List Node} {a n : Nat} (h : LZ d es n) (h1 : ∀ e, e ≤ d → RdA e x (eJ x)) (h2 : (eJ x).length + 2 ≤ a) (h3 : Sk x) (h4 : By x) : LZ d (x :: es) (a + n) := by
 obtain ⟨q1, q2⟩ := h
 refine ⟨fun y hy => ?_, ?_⟩
 ·rcases List.mem_cons.1 hy with rfl | hy
  ·exact ⟨h1, h3, h4⟩
  ·exact q1 y hy
 ·show iP (eJ x :: es.map eJ) + 2 * (es.length + 1) ≤ _
  have : iP (eJ x :: es.map eJ) = (eJ x).length + iP (es.map eJ) := by simp [iP]
  omega
theorem nL {t : Tok} {c : Nat} (hv : TKV t) (h : t.kind = 10) (hx : t.text = [c]) : kL t = 3 := by
 obtain ⟨_, h2, _⟩ := zR hv h (by decide) (by decide)
 rw [h2, hx]
 rfl
theorem pW {LI : PF} (hL : SO Any LI CLs) : ∀ (f : Nat) (xs : List Node), SO Any (cY LI f xs) (fun d ys n => ∃ es, ys = xs ++ es ∧ LZ d es n)
 | 0, xs => fun st y st' _ h => by cases h
 | f + 1, xs => by
  show SO Any (fun st => if st.err = 0 then (dQ st 10 [41]).bind fun c => if c then some (xs, st) else
   (dO st).bind fun r => if r.1.2 then cY LI f (xs ++ [r.1.1]) r.2 else
    (dQ r.2 7 []).bind fun c1 => (if c1 then some true else dQ r.2 10 [40]).bind fun c2 =>
     if c2 then (cF LI r.2).bind fun q => cY LI f (xs ++ [q.1]) q.2 else (aX r.2 0).bind fun t => cY LI f (xs ++ [r.1.1]) (cP r.2 t 13)
   else some (xs, st)) _
  refine SO.ok (bQb ((SO.ret xs).mono ?_) (SO.mono (bOq (fun (r : Node × Bool) st => if r.2 then cY LI f (xs ++ [r.1]) st else
   (dQ st 7 []).bind fun c1 => (if c1 then some true else dQ st 10 [40]).bind fun c2 =>
    if c2 then (cF LI st).bind fun q => cY LI f (xs ++ [q.1]) q.2 else (aX st 0).bind fun t => cY LI f (xs ++ [r.1]) (cP st t 13)) (E := fun r d ys n => (r.2 = true ∧ ∃ es, ys = xs ++ [r.1] ++ es ∧ LZ d es n) ∨ (r.2 = false ∧ ∃ es, ys = xs ++ es ∧ LZ d es n)) (plain_so.pre fun _ _ => trivial) fun r => ?_) ?_)) (SO.err (F := cY LI f xs))
  ·rintro d y n hd hn ⟨rfl, rfl⟩
   exact ⟨[], by simp, fun x hx => (by cases hx), Nat.le_refl _⟩
  ·obtain ⟨x, b⟩ := r
   cases b with
   | true =>
    refine SO.mono (pW hL f (xs ++ [x])) fun d y n hd hn h => .inl ⟨rfl, h⟩
   | false =>
    have key : ∀ (k : Int) (tx : List Nat), (k = 7 ∧ tx = [] ∨ k = 10 ∧ tx = [40]) → SO (fun s => Any s ∧ Hk k tx s) (fun st => (cF LI st).bind fun q => cY LI f (xs ++ [q.1]) q.2) (fun d ys n => ∃ es, ys = xs ++ es ∧ LZ d es n) := fun k tx hk => by
     refine SO.mono (bOq (fun q st => cY LI f (xs ++ [q]) st) (lG hL) fun q => pW hL f (xs ++ [q])) ?_
     rintro d y n hd hn ⟨q, a, b, rfl, ⟨h20, t, a2, ⟨ht, htx⟩, hv, rfl, es, m, rfl, hz, rfl⟩, es2, rfl, hz2⟩
     have hw : 3 ≤ kL t := by
      rcases hk with ⟨rfl, rfl⟩ | ⟨rfl, rfl⟩
      ·obtain ⟨k1, k2, _⟩ := zR hv ht (by decide) (by decide)
       have : (bK 7 t.text).length = 2 := rfl
       omega
      ·rw [nL hv ht (htx (by decide))]
       exact Nat.le_refl _
     obtain ⟨p1, p2, p3, p4, p5⟩ := aSl h20 hz (by omega)
     exact ⟨_ :: es2, by simp, hz2.cons p1 (by omega) p4 p5⟩
    refine SO.mono (C := fun d ys n => ∃ es, ys = xs ++ es ∧ LZ d es n) ?_ fun d y n hd hn h => .inr ⟨rfl, h⟩
    intro st y st' hp he h0
    obtain ⟨c1, e1, he⟩ := bD he
    cases c1 with
    | true =>
     rw [if_pos rfl, Option.bind_some, if_pos rfl] at he
     exact key 7 [] (.inl ⟨rfl, rfl⟩) st y st' ⟨trivial, (jE e1).2⟩ he h0
    | false =>
     rw [if_neg (by decide)] at he
     obtain ⟨c2, e2, h2⟩ := bD he
     cases c2 with
     | true =>
      rw [if_pos rfl] at h2
      exact key 10 [40] (.inr ⟨rfl, rfl⟩) st y st' ⟨trivial, (jE e2).2⟩ h2 h0
     | false =>
      rw [if_neg (by decide)] at h2
      obtain ⟨t, _, h3⟩ := bD h2
      have := (pW hL f _ _ y st' trivial h3 h0).1
      exfalso
      unfold cP at this
      split at this
      ·cases this
      ·exact absurd this (by assumption)
  ·rintro d y n hd hn ⟨r, a, b, rfl, h1, h2⟩
   rcases h2 with ⟨hr, es, rfl, hz⟩ | ⟨hr, es, rfl, hz⟩
   ·rcases h1 with ⟨_, c1, c2, c3, c4, c5, c6⟩ | ⟨h1, _⟩
    ·exact ⟨r.1 :: es, by simp, hz.cons (fun e _ => (c1 e).a) c4 c5 c6⟩
    ·rw [hr] at h1; cases h1
   ·rcases h1 with ⟨h1, _⟩ | ⟨_, rfl⟩
    ·rw [hr] at h1; cases h1
    ·exact ⟨es, rfl, by rw [Nat.zero_add]; exact hz⟩
theorem nK {LI : PF} : ∀ (f : Nat) (xs : List Node) (st : PSt) (ys : List Node) (st' : PSt), cY LI f xs st = some (ys, st') → st'.err = 0 → Hk 10 [41] st'
 | 0, xs, st, ys, st', h, h0 => by cases h
 | f + 1, xs, st, ys, st', h, h0 => by
  unfold cY at h
  by_cases he : st.err = 0
  ·rw [if_pos he] at h
   obtain ⟨c, e1, h⟩ := bD h
   cases c with
   | true =>
    rw [if_pos rfl] at h
    cases h
    exact (jE e1).2
   | false =>
    rw [if_neg (by decide)] at h
    obtain ⟨r, e2, h⟩ := bD h
    split at h
    ·exact nK f _ _ _ _ h h0
    ·obtain ⟨c1, e3, h⟩ := bD h
     obtain ⟨c2, e4, h⟩ := bD h
     split at h
     ·obtain ⟨q, e5, h⟩ := bD h
      exact nK f _ _ _ _ h h0
     ·obtain ⟨t, e5, h⟩ := bD h
      exact nK f _ _ _ _ h h0
  ·rw [if_neg he] at h
   cases h
   exact absurd h0 he
theorem aEz : ∀ f, SO Any (mO f) CLs
 | 0 => fun st y st' _ h => by cases h
 | f + 1 => by
  show SO Any (fun st => (cY (mO f) f [] st).bind fun r => (aT r.2).bind fun q => some (Node.mk 4 [] 0 [] [] r.1, q.2)) _
  intro st y st' hp he h0
  obtain ⟨⟨ys, s1⟩, e1, he⟩ := bD he
  obtain ⟨⟨t, s2⟩, e2, he⟩ := bD he
  cases he
  have h1 : s1.err = 0 := by rw [← (sD e2).1]; exact h0
  obtain ⟨a1, a2⟩ := pW (aEz f) f [] st ys s1 trivial e1 h1
  obtain ⟨b1, b2⟩ := dI (P := Any) s1 t s2 ⟨trivial, nK f [] st ys s1 e1 h1⟩ e2 h0
  refine ⟨a1, fun d m S => ?_⟩
  obtain ⟨n, m', c1, c2, es, rfl, c3⟩ := a2 d m S
  obtain ⟨n2, m2, d1, d2, ⟨d3, d4⟩, d5, rfl⟩ := b2 d m' c2
  exact ⟨n + kL t, m2, by omega, d2, ys, n, rfl, c3, by rw [nL d5 d3 (d4 (by decide))]⟩
end Go.Dd

namespace Go.Dd
def hdB (ts : List (List Nat)) : List Nat := if ts.length = 0 then [] else 124 :: 32 :: (aF [32] ts ++ [32, 124, 32])
theorem aIj (ts kids : List (List Nat)) : aV ts kids = hdB ts ++ aF [46, 32] kids := rfl
def TZ (ts : List (List Nat)) : Prop := ∀ t ∈ ts, TV 1 t ∧ AB t
theorem lY (t : List Nat) (l : List (List Nat)) : iP (t :: l) = t.length + iP l := by simp [iP]
theorem uA : ∀ (f : Nat) (l : List (List Nat)), SO Any (eU f l) (fun d ys n => ∃ ts, ys = l ++ ts ∧ TZ ts ∧ iP ts + 2 * ts.length + 3 ≤ n)
 | 0, l => fun st y st' _ h => by cases h
 | f + 1, l => by
  show SO Any (fun st => (dQ st 1 []).bind fun c => if c then (aT st).bind fun r => eU f (l ++ [r.1.text]) r.2 else (dZ st 10 [124]).bind fun r => some (l, r.2)) _
  refine bQb ((bOq (fun (t : Tok) st => eU f (l ++ [t.text]) st) dI (fun t => uA f (l ++ [t.text]))).mono ?_) ((bOq (fun (_ : Tok) st => some (l, st)) (lN 10 [124]) fun _ => SO.ret l).mono ?_)
  ·rintro d y n hd hn ⟨t, a, b, rfl, ⟨⟨hk, _⟩, hv, rfl⟩, ts, rfl, h1, h2⟩
   obtain ⟨k1, k2, k3, k4, k5⟩ := zR hv hk (by decide) (by decide)
   refine ⟨t.text :: ts, by simp, fun x hx => ?_, ?_⟩
   ·rcases List.mem_cons.1 hx with rfl | hx
    ·exact ⟨k1, k4⟩
    ·exact h1 x hx
   ·rw [lY, List.length_cons]
    omega
  ·rintro d y n hd hn ⟨t, a, b, rfl, ⟨⟨hk, hx⟩, hv, rfl⟩, rfl, rfl⟩
   refine ⟨[], by simp, fun x hx => (by cases hx), ?_⟩
   rw [nL hv hk (hx (by decide))]
   exact Nat.le_refl _
theorem zP (f : Nat) : SO Any (hO f) (fun d ts n => TZ ts ∧ (hdB ts).length ≤ n) := by
 show SO Any (fun st => (dQ st 10 [124]).bind fun c => if c then (aT st).bind fun r => eU f [] r.2 else some ([], st)) _
 refine bQb ((bOq (fun (_ : Tok) st => eU f [] st) dI (fun t => uA f [])).mono ?_) ((SO.ret _).mono ?_)
 ·rintro d y n hd hn ⟨t, a, b, rfl, ⟨⟨hk, hx⟩, hv, rfl⟩, ts, rfl, h1, h2⟩
  refine ⟨h1, ?_⟩
  have := nL hv hk (hx (by decide))
  have := kT [32] y
  show (hdB y).length ≤ _
  unfold hdB
  split
  ·simp
  ·simp only [List.length_cons, List.length_append, List.length_nil] at this ⊢
   omega
 ·rintro d y n hd hn ⟨rfl, rfl⟩
  exact ⟨fun x hx => (by cases hx), Nat.le_refl _⟩
theorem uC : ∀ (f : Nat) (l : List (List Nat)), SO Any (eH f l) (fun d ys n => ∃ ns, ys = l ++ ns ∧ (∀ t ∈ ns, TV 8 t ∧ AB t) ∧ (bC ns).length + ns.length ≤ n ∧ (l.length ≤ 4 → l.length + ns.length ≤ 4))
 | 0, l => fun st y st' _ h => by cases h
 | f + 1, l => by
  show SO Any (fun st => (dQ st 8 []).bind fun c => if c then (nC st 8 l.length).bind fun r => eH f (l ++ [r.1]) r.2 else some (l, st)) _
  refine bQb ?_ ((SO.ret l).mono ?_)
  ·intro st y st' hp he h0
   obtain ⟨r, e1, he⟩ := bD he
   unfold nC at e1
   obtain ⟨⟨t, s1⟩, e2, e1⟩ := bD e1
   have := uC f (l ++ [r.1])
   obtain ⟨a1, a2⟩ := this r.2 y st' trivial he h0
   by_cases h4 : l.length = 4
   ·rw [if_pos h4] at e1
    cases e1
    exfalso
    have a1 : (cP s1 t 18).err = 0 := a1
    unfold cP at a1
    split at a1
    ·cases a1
    ·exact absurd a1 (by assumption)
   ·rw [if_neg h4] at e1
    cases e1
    obtain ⟨b1, b2⟩ := lN (P := Any) 8 [] st t s1 trivial e2 a1
    refine ⟨b1, fun d m S => ?_⟩
    obtain ⟨n, m', c1, c2, ⟨c3, _⟩, c4, rfl⟩ := b2 d m S
    obtain ⟨n2, m2, d1, d2, ns, rfl, d3, d4, d5⟩ := a2 d m' c2
    obtain ⟨k1, k2, k3, k4, k5⟩ := zR c4 c3 (by decide) (by decide)
    refine ⟨kL t + n2, m2, by omega, d2, t.text :: ns, by simp, fun x hx => ?_, ?_, fun hl => ?_⟩
    ·rcases List.mem_cons.1 hx with rfl | hx
     ·exact ⟨k1, k4⟩
     ·exact d3 x hx
    ·rw [k2, aNv]
     show (58 :: (t.text ++ 32 :: bC ns)).length + (ns.length + 1) ≤ _
     simp only [List.length_cons, List.length_append]
     omega
    ·have := d5 (by simp; omega)
     simp only [laE, lcE, lnE] at this ⊢
     omega
  ·rintro d y n hd hn ⟨rfl, rfl⟩
   exact ⟨[], by simp, fun x hx => (by cases hx), Nat.le_refl _, fun h => by simpa using h⟩
def SZ (d : Nat) (l : List (Node × List Nat)) (n : Nat) : Prop := (∀ e, e ≤ d → SOk e l) ∧ (∀ z ∈ l, z.2 = eJ z.1 ∧ Sk z.1 ∧ By z.1) ∧ iP (l.map Prod.snd) + 2 * l.length ≤ n
theorem SZ.nil {d : Nat} : SZ d [] 0 := ⟨fun e _ => .nil, fun z hz => (by cases hz), Nat.le_refl _⟩
theorem SZ.cons {d : Nat} {x : Node} {a n : Nat} {l : List (Node × List Nat)} (h : SZ d l n) (hx : CE d x a) : SZ d ((x, eJ x) :: l) (a + n) := by
 obtain ⟨h1, h2, h3⟩ := h
 obtain ⟨x1, x2, x3, x4⟩ := hx
 refine ⟨fun e he => .cons _ _ _ (x1.e e he) (h1 e he), fun z hz => ?_, ?_⟩
 ·rcases List.mem_cons.1 hz with rfl | hz
  ·exact ⟨rfl, x3, x4⟩
  ·exact h2 z hz
 ·rw [List.map_cons, lY, List.length_cons]
  show (eJ x).length + _ + _ ≤ _
  omega
theorem SZ.ret {d : Nat} {x : Node} {a : Nat} (hx : CE d x a) : SZ d [(.mk 10 [] 0 [] [] [x], 94 :: eJ x)] (3 + a) := by
 obtain ⟨x1, x2, x3, x4⟩ := hx
 refine ⟨fun e he => .ret _ _ (x1.e e he), fun z hz => ?_, ?_⟩
 ·have : z = (.mk 10 [] 0 [] [] [x], 94 :: eJ x) := by simpa using hz
  subst this
  exact ⟨rfl, ⟨by simp, by omega, by omega, by unfold cA; simp, x3, trivial⟩, ⟨AB.nil, fun x hx => (by cases hx), fun x hx => (by cases hx), x4, trivial⟩⟩
 ·show iP [94 :: eJ x] + 2 * 1 ≤ _
  rw [lY]
  simp [iP]
  omega
theorem SZ.more {d : Nat} {l : List (Node × List Nat)} {n m : Nat} (h : SZ d l n) (hm : n ≤ m) : SZ d l m := ⟨h.1, h.2.1, by have := h.2.2; omega⟩
theorem sR {E : PF} (hE : SO Any E CE) : ∀ (f : Nat) (xs : List Node), SO Any (dD E f xs) (fun d ys n => ∃ l : List (Node × List Nat), ys = xs ++ l.map Prod.fst ∧ SZ d l n)
 | 0, xs => fun st y st' _ h => by cases h
 | f + 1, xs => by
  show SO Any (fun st => if st.err = 0 then (dQ st 0 []).bind fun c => if c then some (xs, st) else (dQ st 10 [93]).bind fun c => if c then some (xs, st) else
   (dQ st 10 [94]).bind fun c =>
    if c then (aT st).bind fun r => (E r.2).bind fun q => (dQ q.2 10 [46]).bind fun d => if d then (aT q.2).bind fun u => some (xs ++ [Node.mk 10 [] 0 [] [] [q.1]], u.2) else some (xs ++ [Node.mk 10 [] 0 [] [] [q.1]], q.2)
    else (E st).bind fun q => (dQ q.2 10 [46]).bind fun d => if d then (aT q.2).bind fun u => dD E f (xs ++ [q.1]) u.2 else some (xs ++ [q.1], q.2)
   else some (xs, st)) _
  have r0 : ∀ {P : PSt → Prop}, SO P (fun st => some (xs, st)) (fun d ys n => ∃ l : List (Node × List Nat), ys = xs ++ l.map Prod.fst ∧ SZ d l n) := (SO.ret xs).mono fun d y n hd hn h => by
   obtain ⟨rfl, rfl⟩ := h
   exact ⟨[], by simp, SZ.nil⟩
  refine SO.ok (bQb r0 (bQb r0 (bQb ?_ ?_))) (SO.err (F := dD E f xs))
  ·refine (bOq (fun (_ : Tok) st => (E st).bind fun q => (dQ q.2 10 [46]).bind fun d => if d then (aT q.2).bind fun u => some (xs ++ [Node.mk 10 [] 0 [] [] [q.1]], u.2) else some (xs ++ [Node.mk 10 [] 0 [] [] [q.1]], q.2)) dI fun t => bOq (fun q st => (dQ st 10 [46]).bind fun d => if d then (aT st).bind fun u => some (xs ++ [Node.mk 10 [] 0 [] [] [q]], u.2) else some (xs ++ [Node.mk 10 [] 0 [] [] [q]], st)) hE fun q => bQb (C := fun d ys n => ys = xs ++ [Node.mk 10 [] 0 [] [] [q]]) ((bOq (fun (_ : Tok) st => some (xs ++ [Node.mk 10 [] 0 [] [] [q]], st)) dI fun _ => SO.ret _).mono ?_) ((SO.ret _).mono ?_)).mono ?_
   ·rintro d y n hd hn ⟨t, a, b, rfl, _, rfl, rfl⟩
    rfl
   ·rintro d y n hd hn ⟨rfl, rfl⟩
    rfl
   ·rintro d y n hd hn ⟨t, a, b, rfl, ⟨⟨hk, hx⟩, hv, rfl⟩, q, a2, b2, rfl, hq, rfl⟩
    have := nL hv hk (hx (by decide))
    exact ⟨[(.mk 10 [] 0 [] [] [q], 94 :: eJ q)], by simp, (SZ.ret hq).more (by omega)⟩
  ·refine SO.mono (bOq (fun q st => (dQ st 10 [46]).bind fun d => if d then (aT st).bind fun u => dD E f (xs ++ [q]) u.2 else some (xs ++ [q], st)) (hE.pre fun _ _ => trivial) fun q => bQb (C := fun d ys n => ∃ l : List (Node × List Nat), ys = xs ++ [q] ++ l.map Prod.fst ∧ SZ d l n) ((bOq (fun (_ : Tok) st => dD E f (xs ++ [q]) st) dI fun _ => sR hE f (xs ++ [q])).mono ?_) ((SO.ret _).mono ?_)) ?_
   ·rintro d y n hd hn ⟨t, a, b, rfl, _, l, rfl, h⟩
    exact ⟨l, rfl, h.more (by omega)⟩
   ·rintro d y n hd hn ⟨rfl, rfl⟩
    exact ⟨[], by simp, SZ.nil⟩
   ·rintro d y n hd hn ⟨q, a, b, rfl, hq, l, rfl, h⟩
    exact ⟨(q, eJ q) :: l, by simp, h.cons hq⟩
end Go.Dd

namespace Go.Dd
theorem aBv (ns ts : List (List Nat)) (ks : List Node) : eJ (.mk 9 [] 0 ns ts ks) = 91 :: ((if bC ns = [] then [] else bC ns ++ [124, 32]) ++ (aV ts (ks.map eJ) ++ [93])) := by
 show tN 9 [] 0 ns ts (oE ks) = _
 unfold tN
 rw [aKj]
 rfl
def CBl (d : Nat) (x : Node) (n : Nat) : Prop := ∃ ns ts l, x = .mk 9 [] 0 ns ts (l.map Prod.fst) ∧ (∀ t ∈ ns, TV 8 t ∧ AB t) ∧ ns.length ≤ 4 ∧ TZ ts ∧ (∃ k, SZ d l k ∧ (bC ns).length + ns.length + (hdB ts).length + k + 3 ≤ n)
theorem aMx {l : List (List Nat)} {st s1 : PSt} (h : bar l st = some s1) (h0 : s1.err = 0) : st.err = 0 ∧ ∀ d m, Sst st d m → ∃ n m', m' + n = m ∧ Sst s1 d m' := by
 unfold bar at h
 split at h
 ·obtain ⟨c, e1, h⟩ := bD h
  cases c with
  | true =>
   rw [if_pos rfl] at h
   cases h
   exact ⟨h0, fun d m S => ⟨0, m, rfl, S⟩⟩
  | false =>
   rw [if_neg (by decide)] at h
   obtain ⟨⟨t, s2⟩, e2, h⟩ := bD h
   cases h
   obtain ⟨a1, a2⟩ := lN (P := Any) 10 [124] st t s2 trivial e2 h0
   refine ⟨a1, fun d m S => ?_⟩
   obtain ⟨n, m', c1, c2, _⟩ := a2 d m S
   exact ⟨n, m', c1, c2⟩
 ·cases h
  exact ⟨h0, fun d m S => ⟨0, m, rfl, S⟩⟩
theorem aPf {E : PF} (hE : SO Any E CE) (f : Nat) : SO Any (iX E f) CBl := fun st y st' hp he h0 => by
 unfold iX at he
 obtain ⟨⟨ns, s1⟩, e1, he⟩ := bD he
 obtain ⟨s2, e2, he⟩ := bD he
 obtain ⟨⟨ts, s3⟩, e3, he⟩ := bD he
 obtain ⟨⟨ks, s4⟩, e4, he⟩ := bD he
 obtain ⟨⟨t, s5⟩, e5, he⟩ := bD he
 cases he
 obtain ⟨a1, a2⟩ := lN (P := Any) 10 [93] s4 t s5 trivial e5 h0
 obtain ⟨b1, b2⟩ := sR hE f [] s3 ks s4 trivial e4 a1
 obtain ⟨c1, c2⟩ := zP f s2 ts s3 trivial e3 b1
 obtain ⟨d1, d2⟩ := aMx e2 c1
 obtain ⟨g1, g2⟩ := uC f [] st ns s1 trivial e1 d1
 refine ⟨g1, fun d m S => ?_⟩
 obtain ⟨n1, m1, i1, i2, ns', rfl, i3, i4, i5⟩ := g2 d m S
 obtain ⟨n2, m2, j1, j2⟩ := d2 d m1 i2
 obtain ⟨n3, m3, k1, k2, k3, k4⟩ := c2 d m2 j2
 obtain ⟨n4, m4, l1, l2, l, rfl, l3⟩ := b2 d m3 k2
 obtain ⟨n5, m5, o1, o2, ⟨o3, o4⟩, o5, rfl⟩ := a2 d m4 l2
 have := nL o5 o3 (o4 (by decide))
 refine ⟨n1 + n2 + n3 + n4 + kL t, m5, by omega, o2, ns, ts, l, rfl, i3, by simpa using i5 (by simp), k3, n4, l3, by omega⟩
theorem aSd {d : Nat} {x : Node} {n : Nat} (hd : d < 20) (h : CBl (d + 1) x n) (hn : n ≤ 100000) : CU d x (3 + n) := by
 obtain ⟨ns, ts, l, rfl, h1, h2, h3, k, ⟨h4, h5, h6⟩, h7⟩ := h
 have e2 : l.map Prod.snd = (l.map Prod.fst).map eJ := by
  rw [List.map_map]
  exact List.map_congr_left fun z hz => (h5 z hz).1
 have hR : ∀ e, e ≤ d → RdP e (.mk 9 [] 0 ns ts (l.map Prod.fst)) (eJ (.mk 9 [] 0 ns ts (l.map Prod.fst))) := fun e he => by
  rw [aBv, ← e2]
  exact aQn (by omega) (fun t ht => (h1 t ht).1) h2 (fun t ht => (h3 t ht).1) (h4 (e + 1) (by omega))
 refine ⟨PU.low rfl (by show (9 : Int) ≠ 7; decide) hR, ?_, ?_, ?_⟩
 ·rw [kH (by show 0 ≤ 1; omega), aBv, ← e2, aIj]
  have := kT [46, 32] (l.map Prod.snd)
  simp only [List.length_map, List.length_cons, List.length_nil, List.length_append] at this ⊢
  split
  ·simp only [List.length_nil]
   omega
  ·rename_i hne
   have : 1 ≤ ns.length := by
    cases ns with
    | nil => exact absurd rfl hne
    | cons a b => simp
   simp only [laE, lcE, lnE]
   omega
 ·refine ⟨by simp, by omega, by omega, ?_, nU fun x hx => ?_⟩
  ·rw [List.length_map]
   unfold cA
   omega
  ·obtain ⟨z, hz, rfl⟩ := List.mem_map.1 hx
   exact (h5 z hz).2.1
 ·refine ⟨AB.nil, fun x hx => (h1 x hx).2, fun x hx => (h3 x hx).2, nX fun x hx => ?_⟩
  obtain ⟨z, hz, rfl⟩ := List.mem_map.1 hx
  exact (h5 z hz).2.2
theorem aLn {E : PF} (hE : SO Any E CE) : SO Any (jT E) (fun d x n => ∃ a, CE d x a ∧ a + 3 = n) := by
 refine (bOq (fun (x : Node) st => (dZ st 10 [41]).bind fun q => some (x, q.2)) hE fun x => bOq (fun (_ : Tok) st => some (x, st)) (lN 10 [41]) fun _ => SO.ret x).mono ?_
 rintro d y n hd hn ⟨x, a, b, rfl, hx, t, a2, b2, rfl, ⟨⟨hk, hx2⟩, hv, rfl⟩, rfl, rfl⟩
 exact ⟨a, hx, by rw [nL hv hk (hx2 (by decide))]⟩
theorem aCd {LI E : PF} (hL : SO Any LI CLs) (hE : SO Any E CE) (f : Nat) : SO Any (cZ LI E f) CU := by
 unfold cZ
 refine SO.mono (bOq (fun (r : Node × Bool) st => if r.2 then some (r.1, st) else (aX st 0).bind fun t => if st.err = 0 then if t.kind = 1 then (aT st).bind fun q => some (Node.mk 5 q.1.text 0 [] [] [], q.2) else if t.kind = 7 then cF LI st else (dQ st 10 [40]).bind fun c => if c then cF (jT E) st else (dQ st 10 [91]).bind fun c => if c then cF (iX E f) st else some (zN, cP st t 13) else some (zN, st)) (E := fun r d x n => (r.2 = true ∧ x = r.1 ∧ n = 0) ∨ (r.2 = false ∧ CU d x n)) plain_so fun r => ?_) ?_
 ·obtain ⟨x, b⟩ := r
  cases b with
  | true => exact (SO.ret x).mono fun d y n hd hn h => .inl ⟨rfl, h⟩
  | false =>
   refine SO.mono (C := CU) ?_ fun d y n hd hn h => .inr ⟨rfl, h⟩
   refine SO.look (fun t st => if st.err = 0 then if t.kind = 1 then (aT st).bind fun q => some (Node.mk 5 q.1.text 0 [] [] [], q.2) else if t.kind = 7 then cF LI st else (dQ st 10 [40]).bind fun c => if c then cF (jT E) st else (dQ st 10 [91]).bind fun c => if c then cF (iX E f) st else some (zN, cP st t 13) else some (zN, st)) fun t => SO.ok ?_ (SO.err (F := LI))
   by_cases h1 : t.kind = 1
   ·refine bPt (fun st => if_pos h1) ((bOq (fun (q : Tok) st => some (Node.mk 5 q.text 0 [] [] [], st)) ((hC (t := t) (P := Any)).pre fun st h => h.1) fun q => SO.ret _).mono ?_)
    rintro d y n hd hn ⟨t1, a, b, rfl, ⟨rfl, hv, rfl⟩, rfl, rfl⟩
    obtain ⟨k1, k2, k3, k4, k5⟩ := zR hv h1 (by decide) (by decide)
    refine ⟨PU.low rfl (by show (5 : Int) ≠ 7; decide) fun e _ => bHr k1, ?_, ⟨by omega, by omega, by omega, by unfold cA; simp, trivial⟩, ⟨k4, fun x hx => (by cases hx), fun x hx => (by cases hx), trivial⟩⟩
    rw [kH (by show 0 ≤ 1; omega)]
    exact k5
   by_cases h7 : t.kind = 7
   ·refine bPt (fun st => (if_neg h1).trans (if_pos h7)) (((lG (P := Any) (k := 7) (tx := []) hL).pre fun st h => ⟨trivial, t, h.1.2, h7, fun h => absurd rfl h⟩).mono ?_)
    rintro d y n hd hn ⟨h20, t1, a, ⟨ht, _⟩, hv, rfl, es, m, rfl, hz, rfl⟩
    obtain ⟨k1, k2, _⟩ := zR hv ht (by decide) (by decide)
    have hw : kL t1 = 4 := k2
    obtain ⟨p1, p2, p3, p4, p5⟩ := aSl h20 hz (by omega)
    refine ⟨PU.low rfl (by show (4 : Int) ≠ 7; decide) p2, ?_, p4, p5⟩
    rw [kH (by show 0 ≤ 1; omega)]
    omega
   refine bPt (fun st => (if_neg h1).trans (if_neg h7)) (bQb ?_ (bQb ?_ (bQp (by decide) _)))
   ·refine ((lG (k := 10) (tx := [40]) (aLn hE))).mono ?_
    rintro d y n hd hn ⟨h20, t1, a, ⟨ht, hx⟩, hv, rfl, a2, ⟨x1, x2, x3, x4⟩, rfl⟩
    have hw := nL hv ht (hx (by decide))
    have := qD 1 y
    exact ⟨PU.paren x1 h20, by omega, x3, x4⟩
   ·refine ((lG (k := 10) (tx := [91]) (aPf hE f))).mono ?_
    rintro d y n hd hn ⟨h20, t1, a, ⟨ht, hx⟩, hv, rfl, hb⟩
    have hw := nL hv ht (hx (by decide))
    rw [hw]
    exact aSd h20 hb (by omega)
 ·rintro d y n hd hn ⟨r, a, b, rfl, h1, h2⟩
  rcases h2 with ⟨hr, rfl, rfl⟩ | ⟨hr, h2⟩
  ·rcases h1 with ⟨_, c1, c2, c3, c4, c5, c6⟩ | ⟨h1, _⟩
   ·exact ⟨PU.low c2 c3 fun e _ => (c1 e).p, by rw [kH (by omega)]; exact c4, c5, c6⟩
   ·rw [hr] at h1; cases h1
  ·rcases h1 with ⟨h1, _⟩ | ⟨_, rfl⟩
   ·rw [hr] at h1; cases h1
   ·rw [Nat.zero_add]
    exact h2
end Go.Dd

namespace Go.Dd
theorem aKm {f : Nat} (hP : SO Any (PP f) CU) (hE : SO Any (dU f) CE) : SO Any (dU (f + 1)) CE := fun st y st' hp he h0 => by
 have he : kP (PP f) (dU f) f st = some (y, st') := he
 unfold kP at he
 obtain ⟨c, e1, he⟩ := bD he
 cases c with
 | false =>
  rw [if_neg (by decide), Option.bind_some, if_neg (by decide)] at he
  exact sK hP st y st' trivial he h0
 | true =>
  rw [if_pos rfl] at he
  obtain ⟨b, e2, h9⟩ := bD he
  cases b with
  | false =>
   rw [if_neg (by decide)] at h9
   exact sK hP st y st' trivial h9 h0
  | true =>
   rw [if_pos rfl] at h9
   obtain ⟨t2, l1, e2⟩ := bD e2
   have l2 : t2.kind = 9 := by simpa using e2
   have l3 := (jE e1).2
   have := bRe (P := fun s => Any s ∧ Hk 1 [] s ∧ aX s 1 = some t2) (fun _ s => Any s ∧ aX s 0 = some t2) (fun (r : Tok) s => (aT s).bind fun q => (dU f q.2).bind fun u => some (Node.mk 6 r.text 0 [] [] [u.1], u.2)) ((dI (P := Any) (k := 1) (x := [])).pre fun s h => ⟨trivial, h.2.1⟩) (fun s x s1 h1 h2 => by
    obtain ⟨a, b, c⟩ := h1
    obtain ⟨u, u1, u2, _⟩ := b
    have := (sD h2).2
    rw [u1] at this
    cases this
    exact ⟨trivial, uD h2 (by omega) c⟩) (fun r => bOq (fun (_ : Tok) s => (dU f s).bind fun u => some (Node.mk 6 r.text 0 [] [] [u.1], u.2)) hC fun _ => bOq (fun (u : Node) s => some (Node.mk 6 r.text 0 [] [] [u], s)) hE fun u => SO.ret _)
   obtain ⟨q1, q2⟩ := this st y st' ⟨trivial, l3, l1⟩ h9 h0
   refine ⟨q1, fun d m S => ?_⟩
   have hm := S.2.2.2.2.2
   obtain ⟨n, m', r1, r2, t1, a, b, rfl, ⟨⟨hk1, hx⟩, hv, rfl⟩, t3, a2, b2, rfl, ⟨rfl, hv2, rfl⟩, u, a3, b3, rfl, ⟨x1, x2, x3, x4⟩, rfl, rfl⟩ := q2 d m S
   obtain ⟨k1, k2, k3, k4, k5⟩ := zR hv hk1 (by decide) (by decide)
   obtain ⟨_, j2, _⟩ := zR hv2 l2 (by decide) (by decide)
   have j3 : kL t3 = 4 := j2
   obtain ⟨g1, g2⟩ := x1.assign k1
   refine ⟨_, m', r1, r2, g1, ?_, ⟨by omega, by omega, by omega, by unfold cA; simp, x3, trivial⟩, ⟨k4, fun x hx => (by cases hx), fun x hx => (by cases hx), x4, trivial⟩⟩
   rw [g2]
   simp only [List.length_append, List.length_cons]
   omega
theorem xZ : ∀ f, SO Any (dU f) CE
 | 0 => fun st y st' _ h => by cases h
 | f + 1 => aKm (aCd (aEz f) (xZ f) f) (xZ f)
theorem aZi {f : Nat} {st : PSt} {ts : List (List Nat)} {ks : List Node} {s1 s2 s3 : PSt} {t : Tok} (e1 : hO f st = some (ts, s1)) (e2 : dD (dU f) f [] s1 = some (ks, s2)) (e3 : dZ s2 0 [] = some (t, s3)) (h0 : s3.err = 0) :
 st.err = 0 ∧ ∀ m, Sst st 0 m → ∃ l : List (Node × List Nat), ks = l.map Prod.fst ∧ TZ ts ∧ SOk 0 l ∧ (∀ z ∈ l, z.2 = eJ z.1 ∧ Sk z.1 ∧ By z.1) ∧ l.length ≤ m ∧ (aV ts (l.map Prod.snd)).length ≤ m := by
 obtain ⟨a1, a2⟩ := lN (P := Any) 0 [] s2 t s3 trivial e3 h0
 obtain ⟨b1, b2⟩ := sR (xZ f) f [] s1 ks s2 trivial e2 a1
 obtain ⟨c1, c2⟩ := zP f st ts s1 trivial e1 b1
 refine ⟨c1, fun m S => ?_⟩
 obtain ⟨n1, m1, i1, i2, i3, i4⟩ := c2 0 m S
 obtain ⟨n2, m2, j1, j2, l, rfl, j3, j4, j5⟩ := b2 0 m1 i2
 have := kT [46, 32] (l.map Prod.snd)
 refine ⟨l, rfl, i3, j3 0 (Nat.le_refl _), j4, by omega, ?_⟩
 rw [aIj, List.length_append]
 simp only [List.length_map, List.length_cons, List.length_nil] at this
 omega
theorem aCv {u : List Nat} (hu : u.length ≤ 2000) (hb : AB u) (h : (lR u).2.2 = 0) : VT (lR u).1 ∧ mu (lR u).1 ≤ 3 * u.length := by
 have e := nR u
 obtain ⟨_, h2⟩ := bFl hu e h
 exact zZ _ _ _ hb h2
theorem sI {u : List Nat} (hu : u.length ≤ 500) (hb : AB u) (h : (cW u).2.2 = 0) :
 (cW (aV (cW u).1.temps (iG (cW u).1.kids))).2.2 = 0 ∧ (cW (aV (cW u).1.temps (iG (cW u).1.kids))).1 = (cW u).1 ∧ Sk (cW u).1 ∧ By (cW u).1 ∧ (aV (cW u).1.temps (iG (cW u).1.kids)).length ≤ 1500 := by
 have q := kR u
 unfold iW at q
 by_cases hl : (lR u).2.2 = 0
 ·obtain ⟨v1, v2⟩ := aCv (by omega) hb hl
  rw [if_pos hl] at q
  obtain ⟨⟨x, s0⟩, e0, q⟩ := bD q
  cases e0
  obtain ⟨⟨ts, s1⟩, e1, q⟩ := bD q
  obtain ⟨⟨ks, s2⟩, e2, q⟩ := bD q
  obtain ⟨⟨t, s3⟩, e3, q⟩ := bD q
  by_cases h3 : s3.err = 0
  ·have q : some ((Node.mk 11 [100, 111, 73, 116] 0 [] [] []).with ts ks, (0 : Int), (0 : Int)) = some (cW u) := by
    have q : (if s3.err = 0 then some ((Node.mk 11 [100, 111, 73, 116] 0 [] [] []).with ts ks, (0 : Int), (0 : Int)) else some (zN, s3.pos, s3.err)) = some (cW u) := q
    rw [if_pos h3] at q
    exact q
   obtain ⟨a1, a2⟩ := aZi e1 e2 e3 h3
   obtain ⟨l, rfl, b1, b2, b3, b5, b4⟩ := a2 _ ⟨rfl, rfl, by omega, v1, rfl, by show mu (lR u).1 ≤ 100000; omega⟩
   have b4 : (aV ts (l.map Prod.snd)).length ≤ mu (lR u).1 := b4
   have b5 : l.length ≤ mu (lR u).1 := b5
   have q := Option.some.inj q
   rw [← q]
   have ek : iG (l.map Prod.fst) = l.map Prod.snd := by
    unfold iG
    rw [List.map_map]
    exact List.map_congr_left fun z hz => (b3 z hz).1.symm
   show (cW (aV ts (iG (l.map Prod.fst)))).2.2 = 0 ∧ (cW (aV ts (iG (l.map Prod.fst)))).1 = Node.mk 11 [100, 111, 73, 116] 0 [] ts (l.map Prod.fst) ∧ Sk (Node.mk 11 [100, 111, 73, 116] 0 [] ts (l.map Prod.fst)) ∧ By (Node.mk 11 [100, 111, 73, 116] 0 [] ts (l.map Prod.fst)) ∧ (aV ts (iG (l.map Prod.fst))).length ≤ 1500
   rw [ek, aVf (fun t ht => (b1 t ht).1) b2 (by omega)]
   refine ⟨rfl, rfl, ⟨by simp, by omega, by omega, by rw [List.length_map]; unfold cA; omega, nU fun x hx => ?_⟩, ⟨fun c hc => ?_, fun x hx => (by cases hx), fun x hx => (b1 x hx).2, nX fun x hx => ?_⟩, by omega⟩
   ·obtain ⟨z, hz, rfl⟩ := List.mem_map.1 hx
    exact (b3 z hz).2.1
   ·have : c = 100 ∨ c = 111 ∨ c = 73 ∨ c = 116 := by simpa using hc
    omega
   ·obtain ⟨z, hz, rfl⟩ := List.mem_map.1 hx
    exact (b3 z hz).2.2
  ·have q : (if s3.err = 0 then some ((Node.mk 11 [100, 111, 73, 116] 0 [] [] []).with ts ks, (0 : Int), (0 : Int)) else some (zN, s3.pos, s3.err)) = some (cW u) := q
   rw [if_neg h3] at q
   have q := Option.some.inj q
   rw [← q] at h
   exact absurd h h3
 ·rw [if_neg hl] at q
  have q := Option.some.inj q
  rw [← q] at h
  exact absurd h hl
end Go.Dd

namespace Go.Dd
end Go.Dd

namespace Go.Dd
end Go.Dd

namespace Go.Dd
open Go.Proofs
section
variable {I : Im} {A L : Ls} {h : Hp}
structure Shw (x : Node) : Prop where
 kids : ∀ y ∈ x.kids, kK y
 len : (aV x.temps (iG x.kids)).length ≤ cA
 by' : AB (aV x.temps (iG x.kids))
theorem aVr (x y : List Nat) (h : Hp) : gF .eql (.s x) (.s y) h = some (.b (decide (x = y)), h) := by
 rw [aKh]
 congr 3
 rw [Bool.eq_iff_iff, iU, decide_eq_true_eq]
end
end Go.Dd

namespace Go.Dd
open Go.Proofs
section
variable {I : Im} {A L : Ls} {h : Hp}
theorem aVg (n : Nat) (x : DV) (h : Hp) : aL (n + 1) 15 [x] h = s15 (aL n) n x h := by kernel_rfl
theorem bEr {s : List Nat} (S : Sy I A [] L h) : Ev (fun n => aL n 15 [.s s] h) (fun v h' => v = .s (s.take 500) ∧ Sy I A [] L h') := by
 refine Ev.enter (fun n => aVg n _ h) ?_
 unfold s15
 refine bPn ?_
 refine bQj (fun e1 => ?_) (fun e1 => ?_)
 ·refine yt ?_
  refine Ev.op (bMn (b := 500) (by have : (s.length : Int) > Int.ofNat 500 := e1; simp at this; omega) _) ?_
  exact bOo ⟨rfl, S⟩
 ·refine yj ?_
  refine bOo ⟨?_, S⟩
  have : ¬ ((s.length : Int) > Int.ofNat 500) := e1
  rw [List.take_of_length_le (by simp at this; omega)]
theorem aDk {u : List Nat} (hu : u.length ≤ 500) (hb : AB u) (he : (cW u).2.2 = 0) :
 Shw (cW u).1 ∧ aFf (cW u).1 = (aV (cW u).1.temps (iG (cW u).1.kids), 0) := by
 obtain ⟨h1, h2, h3, h4, h5⟩ := sI hu hb he
 refine ⟨⟨(aAj _ h3).2.1, by unfold cA; omega, h4.body⟩, ?_⟩
 unfold aFf sP
 rw [if_pos ⟨h1, by rw [h2]; exact aAv _⟩]
theorem aMh {s : List Nat} (hs : AB s) (S : Sy I A [] L h) : Ev (fun n => s6 (qP 10 true n) n (.s s) h) (fun v h' => v = .b true) := by
 have e15 : ∀ n, qP 10 true n 15 = aL n 15 := fun n => mC true n rfl
 have e13 : ∀ n, qP 10 true n 13 = aL n 13 := fun n => mC true n rfl
 have e14 : ∀ n, qP 10 true n 14 = aL n 14 := fun n => mC true n rfl
 unfold s6
 simp only [e13, e14, e15, aIw]
 refine bOm (bEr S) ?_
 rintro _ h1 ⟨rfl, S1⟩
 have hu : (s.take 500).length ≤ 500 := by rw [List.length_take]; omega
 have hb : AB (s.take 500) := fun c hc => hs c (List.mem_of_mem_take hc)
 generalize s.take 500 = u at hu hb
 refine bOm (wV S1 (by simp [cA]; omega) hb 2001 2001 2004 (by simp [cA]) (by simp [cA]) _ (nR u) _ (kR u)) ?_
 rintro _ h2 ⟨J, cs, rfl, g1, S2, N1⟩
 obtain ⟨c1, o1, b1⟩ := N1.shape
 refine wx ?_; refine wx ?_; refine wx ?_; refine wa fun _ _ _ => ?_; refine wt fun _ _ => ?_
 refine bPq (fun e1 => ?_) (fun e1 => ?_)
 ·refine yt (wm ?_)
  exact bOo rfl
 ·have he : (cW u).2.2 = 0 := e1
  obtain ⟨W1, W2⟩ := aDk hu hb he
  obtain ⟨r1, r2, r3, r4, r5⟩ := sI hu hb he
  refine yj ?_; refine ws ?_
  refine bOm (uO (by assumption) N1 W1.kids W1.len W1.by') ?_
  rintro _ h3 ⟨rfl, S3⟩
  rw [W2]
  refine wx ?_; refine wx ?_
  refine bOm (wV (by assumption) W1.len W1.by' 2001 2001 2004 (by simp [cA]) (by simp [cA]) _ (nR _) _ (kR _)) ?_
  rintro _ h4 ⟨K, cs2, rfl, g2, S4, N2⟩
  rw [r2] at N2
  rw [r1]
  obtain ⟨c2, o2, b2⟩ := N2.shape
  refine wx ?_; refine wx ?_; refine wx ?_; refine wa fun _ _ _ => ?_; refine wt fun _ _ => ?_; refine ws ?_
  refine bOm (uO (by assumption) N2 W1.kids W1.len W1.by') ?_
  rintro _ h5 ⟨rfl, S5⟩
  rw [W2]
  refine wx ?_; refine wx ?_
  refine Ev.op (aVr _ _ _) ?_
  rw [show decide (aV (cW u).1.temps (iG (cW u).1.kids) = aV (cW u).1.temps (iG (cW u).1.kids)) = true by simp]
  refine zt (wm (zt ?_))
  refine bOr (fun e4 => ?_) (fun e4 => absurd rfl e4)
  refine ap (zt (wm (zt ?_)))
  refine bOr (fun e4 => ?_) (fun e4 => absurd rfl e4)
  refine ap (zt (wm (zt ?_)))
  refine bOr (fun e4 => ?_) (fun e4 => absurd rfl e4)
  refine ap (zt (wm (ap ?_)))
  exact bOo rfl
end
end Go.Dd

