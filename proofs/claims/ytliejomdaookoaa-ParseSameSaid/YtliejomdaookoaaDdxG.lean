/- Dd, part G: the operations of Dd are the model's (parts, numbers, strings, slices). -/
import Derived.Test.YtliejomdaookoaaDdxF
import Derived.Laws.Tables
import Derived.Laws.Append
import Derived.Laws.Strings
set_option linter.unusedSimpArgs false
set_option linter.constructorNameAsVariable false
set_option linter.unusedVariables false
namespace Go.Dd
open Go.RowKit (Below)

section
variable {P : Program} {G : Gd} {ρ : Ren} {w : World} {h h1 : Hp} {v : DV}

theorem VRs.map2 {env : Env} {ev : Operand → Value} (he : ∀ x, VR ρ (opr env x) (ev x)) : ∀ l : List (Nat × Operand), VRs ρ (l.map fun q => opr env q.2) (l.map fun q => ev q.2)
  | [] => .nil
  | x :: l => .cons _ _ _ _ (he x.2) (VRs.map2 he l)

theorem mapM_comp {α β γ : Type} (f : α → β) (g : β → Option γ) : ∀ l : List α, l.mapM (fun x => g (f x)) = (l.map f).mapM g
  | [] => rfl
  | x :: l => by simp only [List.map_cons, List.mapM_cons]; rw [mapM_comp f g l]

theorem build_ok (H : HR G ρ h w) {t : TypeId} {fs : Array Field} {i : TypeInfo} {z : Value} {pl : List (Nat × Nat)} {ps : Array (Nat × Operand)} {env : Env} {ev : Operand → Value} {l : List (Nat × Nat × DV)}
    (he : ∀ x, VR ρ (opr env x) (ev x)) (ht : P.underlying t = some (.struct fs)) (hi : P.info? t = some i) (hz : i.zero = some z)
    (hpl : fs.toList.mapM (fun f => (P.info? f.type).map fun fi => (f.offset, fi.size)) = some pl)
    (hl : ps.toList.mapM (fun (q : Nat × Operand) => (pl[q.1]?).map fun s => (s.1, s.2, opr env q.2)) = some l) (hp : pBuild (zsD z) l h = some (v, h1)) :
    SemOk P G ρ w v h1 (Instr.build t (ps.map fun (q : Nat × Operand) => (q.1, ev q.2))) := by
  unfold pBuild at hp
  split at hp
  · rename_i cs hf
    simp at hp
    obtain ⟨rfl, rfl⟩ := hp
    have hl' : (ps.toList.map fun q => (q.1, opr env q.2)).mapM (fun (x : Nat × DV) => ((fun j => pl.toArray[j]?) x.1).map fun s => (s.1, s.2, x.2)) = some l := by
      rw [← mapM_comp (fun (q : Nat × Operand) => (q.1, opr env q.2)) (fun (x : Nat × DV) => ((fun j => pl.toArray[j]?) x.1).map fun s => (s.1, s.2, x.2))]
      simpa using hl
    obtain ⟨out', h3, h4⟩ := fill_ok (ρ := ρ) (place := fun j => pl.toArray[j]?) (ps.toList.map fun q => (q.1, opr env q.2)) (ps.toList.map fun q => (q.1, ev q.2)) (zsD z) z.cells l cs
      (by simp) (by simpa [List.map_map, Function.comp_def] using VRs.map2 he ps.toList) (VR.zs ρ z) hl' hf
    refine SemOk.pure H (.a cs out' h4) (run_build w t _ out' ?_)
    unfold Program.built
    simp only [hi, ht, hz, hpl]
    simpa using h3
  · cases hp

theorem zeros_eq (z : Array Value) (n : Nat) (hz : 0 < z.size) : ((Array.range (n * z.size)).map (z[· % z.size]!)).toList = (List.replicate n z.toList).flatten := by
  induction n with
  | zero => simp
  | succ n ih =>
    have e : (n + 1) * z.size = n * z.size + z.size := Nat.succ_mul _ _
    rw [e]
    simp only [Array.toList_map, Array.toList_range] at ih ⊢
    rw [List.range_add, List.map_append, ih]
    rw [List.replicate_succ', List.flatten_append]
    congr 1
    simp only [List.map_map, List.flatten_cons, List.flatten_nil, List.append_nil]
    apply List.ext_getElem
    · simp
    · intro j h1 h2
      simp at h1
      simp [Nat.mul_add_mod_of_lt h1, h1]

theorem zeros_eq0 (z : Array Value) (n : Nat) (hz : n * z.size = 0 ∨ 0 < z.size) : ((Array.range (n * z.size)).map (z[· % z.size]!)).toList = (List.replicate n z.toList).flatten := by
  rcases hz with hz | hz
  · rw [hz]
    rcases Nat.mul_eq_zero.1 hz with e | e
    · subst e; simp
    · have : z = #[] := by simpa using e
      subst this
      simp
  · exact zeros_eq z n hz

theorem buildSlice_run {t e : TypeId} {i : TypeInfo} {z : Value} {n : Nat} {ps : Array (Nat × Operand)} {env : Env} {ev : Operand → Value} {cs : List DV}
    (he : ∀ x, VR ρ (opr env x) (ev x)) (ht : P.underlying t = some (.slice e)) (hi : P.info? e = some i) (hz : i.zero = some z)
    (hn : n * i.size ≤ 2 ^ 24) (h0 : 0 < i.size) (hzs : z.cells.size = i.size)
    (hf : fillD ((List.replicate n (zsD z)).flatten) (ps.toList.map fun (q : Nat × Operand) => (q.1 * i.size, i.size, opr env q.2)) = some cs) :
    ∃ out', (Instr.buildSlice t n (ps.map fun (q : Nat × Operand) => (q.1, ev q.2))).run P w = .ok (.slice (some ⟨w.heap.size, 0, none⟩) n n) (w.alloc (.cells out' e)) ∧ VRs ρ cs out'.toList := by
  have hl' : (ps.toList.map fun q => (q.1, opr env q.2)).mapM (fun (x : Nat × DV) => ((fun j => some (j * i.size, i.size)) x.1 : Option (Nat × Nat)).map fun s => (s.1, s.2, x.2)) = some (ps.toList.map fun (q : Nat × Operand) => (q.1 * i.size, i.size, opr env q.2)) := by
    rw [← mapM_comp (fun (q : Nat × Operand) => (q.1, opr env q.2)) (fun (x : Nat × DV) => ((fun j => some (j * i.size, i.size)) x.1 : Option (Nat × Nat)).map fun s => (s.1, s.2, x.2))]
    generalize ps.toList = l
    induction l with
    | nil => rfl
    | cons x l ih => simp only [List.mapM_cons, ih]; simp
  have hzero : VRs ρ (List.replicate n (zsD z)).flatten ((Array.range (n * i.size)).map (z.cells[· % z.cells.size]!)).toList := by
    rw [← hzs, zeros_eq z.cells n (by omega)]
    exact VRs.replicate_flatten (VR.zs ρ z) n
  obtain ⟨out', h3, h4⟩ := fill_ok (ρ := ρ) (place := fun j => some (j * i.size, i.size)) (ps.toList.map fun q => (q.1, opr env q.2)) (ps.toList.map fun q => (q.1, ev q.2)) _ _ _ cs
    (by simp) (by simpa [List.map_map, Function.comp_def] using VRs.map2 he ps.toList) hzero hl' hf
  refine ⟨out', ?_, h4⟩
  simp only [Instr.buildSlice, Sem.run_bind, rU ht, Result.andThen_ok, rS hi]
  rw [if_neg (by omega)]
  have h3' : Instr.fill (fun j => some (j * i.size, i.size)) ((Array.range (n * i.size)).map (z.cells[· % z.cells.size]!)) (ps.map fun (q : Nat × Operand) => (q.1, ev q.2)).toList = some out' := by simpa using h3
  by_cases hzz : n * i.size = 0
  · rw [if_pos hzz]
    simp only [Sem.run_bind, Sem.run_pure, Result.andThen_ok]
    have : n = 0 := by rcases Nat.mul_eq_zero.1 hzz with e | e <;> omega
    subst this
    simp only [Nat.zero_mul] at h3' ⊢
    have h3'' : Instr.fill (fun j => some (j * i.size, i.size)) ((Array.range 0).map ((#[] : Array Value)[· % (#[] : Array Value).size]!)) (ps.map fun (q : Nat × Operand) => (q.1, ev q.2)).toList = some out' := by
      rw [← h3']
      have er : ∀ f g : Nat → Value, (Array.range 0).map f = (Array.range 0).map g := fun f g => by apply Array.ext <;> simp
      rw [er _ (fun x => z.cells[x % z.cells.size]!)]
    simp only [h3'']
    simp [newRow]
  · rw [if_neg hzz]
    simp only [Sem.run_bind, rZ hi hz, Result.andThen_ok, Sem.run_pure, h3']
    simp [newRow]

theorem buildSlice_ok (H : HR G ρ h w) {t e : TypeId} {i : TypeInfo} {z : Value} {n : Nat} {ps : Array (Nat × Operand)} {env : Env} {ev : Operand → Value}
    (he : ∀ x, VR ρ (opr env x) (ev x)) (ht : P.underlying t = some (.slice e)) (hi : P.info? e = some i) (hz : i.zero = some z)
    (hn : n * i.size ≤ 2 ^ 24) (h0 : 0 < i.size) (hzs : z.cells.size = i.size)
    (hp : pBuildSlice ((List.replicate n (zsD z)).flatten) n (ps.toList.map fun (q : Nat × Operand) => (q.1 * i.size, i.size, opr env q.2)) h = some (v, h1)) :
    SemOk P G ρ w v h1 (Instr.buildSlice t n (ps.map fun (q : Nat × Operand) => (q.1, ev q.2))) := by
  unfold pBuildSlice at hp
  split at hp
  · rename_i cs hf
    simp only [Option.some.injEq, Prod.mk.injEq] at hp
    obtain ⟨rfl, rfl⟩ := hp
    obtain ⟨out', h3, h4⟩ := buildSlice_run (P := P) (w := w) (ρ := ρ) he ht hi hz hn h0 hzs hf
    have hrow := H.newRow .ex cs out'.toList out' e 0 h4 (fun j u hj => by simpa using hj) (.inl ⟨rfl, rfl⟩)
    exact ⟨_, w.alloc (.cells out' e), .slice (some ⟨w.heap.size, 0, none⟩) n n, h3, H.exx _, .l _ 0 n n ⟨w.heap.size, 0, 0, none⟩ (upd_same _ _ _), hrow, below_alloc H.sz _⟩
  · cases hp

theorem nil_ok (H : HR G ρ h w) {a : Act} {o : Oper} {x : Operand} {env : Env} (ho : o.op = .nilCheck x) (he : VR ρ (opr env x) (a.eval x)) (hp : pNil (opr env x) h = some (v, h1)) :
    (execOp a.eval o).run P w = .ok (.value (a.eval x)) w ∧ VR ρ v (a.eval x) ∧ h1 = h := by
  generalize hg : opr env x = d at *
  generalize hv : a.eval x = d' at *
  unfold pNil at hp
  unfold execOp
  simp only [ho, hv]
  split at hp <;> (try (cases hp; done)) <;> (simp only [Option.some.injEq, Prod.mk.injEq] at hp; obtain ⟨rfl, rfl⟩ := hp; cases he) <;> refine ⟨by simp, ?_, rfl⟩ <;> constructor <;> assumption

/-! ### Numbers and strings -/

theorem eqGuard_ok {op : BinOp} {t : TypeId} {x y : Operand} {a b : Value} (h1 : a ≠ .nilIface) (h2 : ∀ cs, a ≠ .agg cs) : (eqGuard op t x y a b).run P w = .ok () w := by
  unfold eqGuard
  cases a <;> first | (exact absurd rfl h1) | (exact absurd rfl (h2 _)) | (cases op <;> simp)

theorem int_ok (H : HR G ρ h w) {op : BinOp} {t : TypeId} {x y : DV} {x' y' : Value} {ox oy : Operand} (hop : op ≠ .shl ∧ op ≠ .shr) (hx : VR ρ x x') (hy : VR ρ y y') (hp : pInt op x y h = some (v, h1)) :
    SemOk P G ρ w v h1 (do eqGuard op t ox oy x' y'; binOp op t x' y') := by
  unfold pInt at hp
  split at hp
  · rename_i k a k' b
    cases hx
    cases hy
    split at hp
    · rename_i hk
      subst hk
      split at hp
      · rename_i r hr
        simp at hp
        obtain ⟨rfl, rfl⟩ := hp
        have hg := eqGuard_ok (P := P) (w := w) (op := op) (t := t) (x := ox) (y := oy) (a := .int k a) (b := .int k b) (by simp) (by simp)
        cases op <;> simp [intBin] at hr <;> first
          | (exact absurd rfl hop.1)
          | (exact absurd rfl hop.2)
          | (subst hr; refine SemOk.pure H (by constructor) ?_; simp only [Sem.run_bind, hg, Result.andThen_ok]; simp [binOp, Op.intArith, Op.intCmp, Op.intBits]; done)
          | (obtain ⟨hb, rfl⟩ := hr; refine SemOk.pure H (by constructor) ?_; simp only [Sem.run_bind, hg, Result.andThen_ok]; simp [binOp, Op.intDiv, hb]; done)
      · cases hp
    · cases hp
  · cases hp

theorem shift_ok (H : HR G ρ h w) {op : BinOp} {t : TypeId} {x y : DV} {x' y' : Value} {ox oy : Operand} (hop : op = .shl ∨ op = .shr) (hx : VR ρ x x') (hy : VR ρ y y') (hp : pShift op x y h = some (v, h1)) :
    SemOk P G ρ w v h1 (do eqGuard op t ox oy x' y'; binOp op t x' y') := by
  unfold pShift at hp
  split at hp
  · rename_i k a k' b
    cases hx
    cases hy
    split at hp
    · cases hp
    · rename_i hb
      have hg := eqGuard_ok (P := P) (w := w) (op := op) (t := t) (x := ox) (y := oy) (a := .int k a) (b := .int k' b) (by simp) (by simp)
      rcases hop with rfl | rfl
      · simp only [Option.some.injEq, Prod.mk.injEq] at hp
        obtain ⟨rfl, rfl⟩ := hp
        refine SemOk.pure H (by constructor) ?_
        simp only [Sem.run_bind, hg, Result.andThen_ok]
        simp [binOp, Op.shift, hb]
      · simp only [Option.some.injEq, Prod.mk.injEq] at hp
        obtain ⟨rfl, rfl⟩ := hp
        refine SemOk.pure H (by constructor) ?_
        simp only [Sem.run_bind, hg, Result.andThen_ok]
        simp [binOp, Op.shift, hb]
  · cases hp

theorem eqD_map : ∀ a b : List UInt8, eqD (a.map (·.toNat)) (b.map (·.toNat)) = (a == b)
  | [], [] => rfl
  | [], _ :: _ => rfl
  | _ :: _, [] => rfl
  | x :: a, y :: b => by
    simp only [List.map_cons, eqD, eqD_map a b, List.cons_beq_cons]
    congr 1
    rw [Bool.eq_iff_iff]
    simp [UInt8.toNat_inj]

theorem lessD_map : ∀ a b : List UInt8, lessD (a.map (·.toNat)) (b.map (·.toNat)) = Op.bytesLess a b
  | _, [] => by simp [lessD, Op.bytesLess]
  | [], _ :: _ => by simp [lessD, Op.bytesLess]
  | x :: a, y :: b => by
    simp only [List.map_cons, lessD, lessD_map a b, Op.bytesLess]
    congr 1
    · rw [Bool.eq_iff_iff]
      simp [UInt8.lt_iff_toNat_lt]
    · congr 1
      rw [Bool.eq_iff_iff]
      simp [UInt8.toNat_inj]

theorem str_ok (H : HR G ρ h w) {op : BinOp} {t : TypeId} {x y : DV} {x' y' : Value} {ox oy : Operand} (hx : VR ρ x x') (hy : VR ρ y y') (hp : pStr op x y h = some (v, h1)) :
    SemOk P G ρ w v h1 (do eqGuard op t ox oy x' y'; binOp op t x' y') := by
  unfold pStr at hp
  split at hp
  · rename_i a b
    cases hx with
    | s _ a' ha =>
    cases hy with
    | s _ b' hb =>
    split at hp
    · rename_i r hr
      simp at hp
      obtain ⟨rfl, rfl⟩ := hp
      have hg := eqGuard_ok (P := P) (w := w) (op := op) (t := t) (x := ox) (y := oy) (a := .string a') (b := .string b') (by simp) (by simp)
      have ea : a'.toList = a'.data.toList := ByteArray.toList_eq a'
      have eb : b'.toList = b'.data.toList := ByteArray.toList_eq b'
      have e1 : eqD a b = (a'.toList == b'.toList) := by rw [← ha, ← hb, eqD_map, ea, eb]
      have e2 : lessD a b = Op.bytesLess a'.toList b'.toList := by rw [← ha, ← hb, lessD_map, ea, eb]
      have la : a.length = a'.size := by rw [← ha, List.length_map, Array.length_toList]; rfl
      have lb : b.length = b'.size := by rw [← hb, List.length_map, Array.length_toList]; rfl
      cases op <;> simp only [strBin] at hr <;> (try (cases hr; done))
      case add =>
        split at hr
        · cases hr
        · rename_i hle
          simp at hr; subst hr
          refine SemOk.pure H (.s _ (a' ++ b') ?_) ?_
          · simp [ha, hb]
          · simp only [Sem.run_bind, hg, Result.andThen_ok]
            simp only [binOp, Op.stringOp]
            rw [la, lb] at hle
            rw [if_neg hle]
            simp
      all_goals
        simp only [Option.some.injEq] at hr
        subst hr
        refine SemOk.pure H (by constructor) ?_
        simp only [Sem.run_bind, hg, Result.andThen_ok]
        simp [binOp, Op.stringOp, e1, e2]
    · cases hp
  · cases hp

theorem equalIn_ok {d : TypeDesc} {t : TypeId} {x y : DV} {x' y' : Value} {r : Bool} (ht : P.underlying t = some d) (hx : VR ρ x x') (hy : VR ρ y y') (hr : eqNil d x y = some r) :
    (Op.equal t x' y').run P w = .ok r w := by
  unfold Op.equal
  rw [show Op.maxDepth = 9999 + 1 from rfl]
  unfold Op.equalIn
  simp only [Sem.run_bind, rU ht, Result.andThen_ok]
  unfold eqNil at hr
  split at hr <;> (try (cases hr; done)) <;> (simp at hr; subst hr; cases hx; cases hy; simp)

theorem eq_ok (H : HR G ρ h w) {op : BinOp} {pos : Bool} {d : TypeDesc} {t : TypeId} {x y : DV} {x' y' : Value} {ox oy : Operand} (ht : P.underlying t = some d) (hop : (op = .eql ∧ pos = true) ∨ (op = .neq ∧ pos = false))
    (hx : VR ρ x x') (hy : VR ρ y y') (hp : pEq d pos x y h = some (v, h1)) :
    SemOk P G ρ w v h1 (do eqGuard op t ox oy x' y'; binOp op t x' y') := by
  unfold pEq at hp
  split at hp
  · rename_i r hr
    simp only [Option.some.injEq, Prod.mk.injEq] at hp
    obtain ⟨rfl, rfl⟩ := hp
    have heq := equalIn_ok (P := P) (w := w) ht hx hy hr
    have hne : x' ≠ .nilIface ∧ (∀ cs, x' ≠ .agg cs) := by
      unfold eqNil at hr
      split at hr <;> (try (cases hr; done)) <;> (cases hx; simp)
    have hg := eqGuard_ok (P := P) (w := w) (op := op) (t := t) (x := ox) (y := oy) (a := x') (b := y') hne.1 hne.2
    refine SemOk.pure H (by constructor) ?_
    simp only [Sem.run_bind, hg, Result.andThen_ok]
    unfold eqNil at hr
    rcases hop with ⟨rfl, rfl⟩ | ⟨rfl, rfl⟩ <;> split at hr <;> (try (cases hr; done)) <;> (cases hx; cases hy; simp [binOp, heq])
  · cases hp

theorem bin_ok (H : HR G ρ h w) {op : BinOp} {d : TypeDesc} {t : TypeId} {x y : DV} {x' y' : Value} {ox oy : Operand} (ht : P.underlying t = some d)
    (hx : VR ρ x x') (hy : VR ρ y y') (hp : pBin op d x y h = some (v, h1)) :
    SemOk P G ρ w v h1 (do eqGuard op t ox oy x' y'; binOp op t x' y') := by
  unfold pBin at hp
  split at hp
  · split at hp
    · exact shift_ok H (.inl rfl) hx hy hp
    · exact shift_ok H (.inr rfl) hx hy hp
    · rename_i h1 h2; exact int_ok H ⟨h1, h2⟩ hx hy hp
  · exact str_ok H hx hy hp
  · split at hp
    · exact eq_ok H ht (.inl ⟨rfl, rfl⟩) hx hy hp
    · exact eq_ok H ht (.inr ⟨rfl, rfl⟩) hx hy hp
    · cases hp

theorem un_ok (H : HR G ρ h w) {op : UnOp} {x : DV} {x' : Value} (hx : VR ρ x x') (hp : pUn op x h = some (v, h1)) : SemOk P G ρ w v h1 (Op.unary op x') := by
  unfold pUn at hp
  split at hp <;> (try (cases hp; done)) <;> (simp only [Option.some.injEq, Prod.mk.injEq] at hp; obtain ⟨rfl, rfl⟩ := hp; cases hx; refine SemOk.pure H (by constructor) ?_; simp [Op.unary, Op.intArith])

end
end Go.Dd
