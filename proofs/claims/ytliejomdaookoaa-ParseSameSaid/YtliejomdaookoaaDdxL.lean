/- Dd, part L: what does not look at memory; orders. -/
import Derived.Test.YtliejomdaookoaaDdxK
set_option linter.unusedSimpArgs false
set_option linter.constructorNameAsVariable false
set_option linter.unusedVariables false
namespace Go.Dd
open Go.RowKit (Below)

/-- It does not look at the heap. -/
def PureP (F : Hp → Res) : Prop := ∀ h v h1, F h = some (v, h1) → h1 = h ∧ ∀ h', F h' = some (v, h')

theorem PureP.none : PureP (fun _ => Option.none) := fun _ _ _ h => by cases h
theorem PureP.val (v : DV) : PureP (fun h => some (v, h)) := fun h u h1 hp => by
  simp only [Option.some.injEq, Prod.mk.injEq] at hp
  obtain ⟨rfl, rfl⟩ := hp
  exact ⟨rfl, fun _ => rfl⟩
theorem PureP.ite {c : Prop} [Decidable c] {F G : Hp → Res} (hF : PureP F) (hG : PureP G) : PureP (fun h => if c then F h else G h) := by
  by_cases hc : c
  · simpa [hc] using hF
  · simpa [hc] using hG

theorem pure_nil (x : DV) : PureP (pNil x) := by cases x <;> first | exact PureP.none | exact PureP.val _
theorem pure_int (op : BinOp) (x y : DV) : PureP (pInt op x y) := by
  intro h v h1 hp
  unfold pInt at *
  split at hp <;> (try (cases hp; done))
  split at hp <;> (try (cases hp; done))
  split at hp <;> (try (cases hp; done))
  rename_i hk _ r hr
  simp only [Option.some.injEq, Prod.mk.injEq] at hp
  obtain ⟨rfl, rfl⟩ := hp
  exact ⟨rfl, fun h' => by simp [hk, hr]⟩
theorem pure_str (op : BinOp) (x y : DV) : PureP (pStr op x y) := by
  intro h v h1 hp
  unfold pStr at *
  split at hp <;> (try (cases hp; done))
  split at hp <;> (try (cases hp; done))
  rename_i r hr
  simp only [Option.some.injEq, Prod.mk.injEq] at hp
  obtain ⟨rfl, rfl⟩ := hp
  exact ⟨rfl, fun h' => by simp [hr]⟩
theorem pure_shift (op : BinOp) (x y : DV) : PureP (pShift op x y) := by
  intro h v h1 hp
  unfold pShift at *
  split at hp <;> (try (cases hp; done))
  split at hp <;> (try (cases hp; done))
  rename_i hb
  split at hp <;> (try (cases hp; done)) <;> (simp only [Option.some.injEq, Prod.mk.injEq] at hp; obtain ⟨rfl, rfl⟩ := hp; exact ⟨rfl, fun h' => by simp [hb]⟩)
theorem pure_eq (d : TypeDesc) (pos : Bool) (x y : DV) : PureP (pEq d pos x y) := by
  intro h v h1 hp
  unfold pEq at *
  split at hp <;> (try (cases hp; done))
  rename_i r hr
  simp only [Option.some.injEq, Prod.mk.injEq] at hp
  obtain ⟨rfl, rfl⟩ := hp
  exact ⟨rfl, fun h' => by simp [hr]⟩
theorem pure_bin (op : BinOp) (d : TypeDesc) (x y : DV) : PureP (pBin op d x y) := by
  intro h v h1 hp
  cases d <;> cases op <;> simp only [pBin] at hp ⊢ <;> first | exact pure_shift _ _ _ h v h1 hp | exact pure_int _ _ _ h v h1 hp | exact pure_str _ _ _ h v h1 hp | exact pure_eq _ _ _ _ h v h1 hp | (cases hp; done)
theorem pure_un (op : UnOp) (x : DV) : PureP (pUn op x) := by cases op <;> cases x <;> first | exact PureP.val _ | exact PureP.none
theorem pure_convI (k : IntKind) (x : DV) : PureP (pConvI k x) := by cases x <;> first | exact PureP.val _ | exact PureP.none
theorem pure_convS (x : DV) : PureP (pConvS x) := by cases x <;> first | exact PureP.val _ | exact PureP.none
theorem pure_sliceS (x : DV) (lo hi : Option DV) : PureP (pSliceS x lo hi) := by
  intro h v h1 hp
  unfold pSliceS at *
  split at hp <;> (try (cases hp; done))
  split at hp <;> (try (cases hp; done))
  rename_i e he
  split at hp <;> (try (cases hp; done))
  rename_i s hs
  simp only [Option.some.injEq, Prod.mk.injEq] at hp
  obtain ⟨rfl, rfl⟩ := hp
  exact ⟨rfl, fun h' => by simp [he, hs]⟩
theorem pure_field (off : Nat) (x : DV) : PureP (pField off x) := by cases x <;> first | exact PureP.val _ | exact PureP.none
theorem pure_part1 (off : Nat) (x : DV) : PureP (pPart1 off x) := by
  intro h v h1 hp
  unfold pPart1 at *
  split at hp <;> (try (cases hp; done))
  split at hp <;> (try (cases hp; done))
  rename_i r hr
  simp only [Option.some.injEq, Prod.mk.injEq] at hp
  obtain ⟨rfl, rfl⟩ := hp
  exact ⟨rfl, fun h' => by simp [hr]⟩
theorem pure_partA (off size : Nat) (x : DV) : PureP (pPartA off size x) := by cases x <;> first | exact PureP.val _ | exact PureP.none
theorem pure_indexAddr (size : Nat) (x ix : DV) : PureP (pIndexAddr size x ix) := by
  intro h v h1 hp
  unfold pIndexAddr at *
  split at hp <;> (try (cases hp; done))
  split at hp <;> (try (cases hp; done))
  rename_i hr
  simp only [Option.some.injEq, Prod.mk.injEq] at hp
  obtain ⟨rfl, rfl⟩ := hp
  exact ⟨rfl, fun h' => by simp [hr]⟩
theorem pure_indexArr (n size : Nat) (x ix : DV) : PureP (pIndexArr n size x ix) := by
  intro h v h1 hp
  unfold pIndexArr at *
  split at hp <;> (try (cases hp; done))
  split at hp <;> (try (cases hp; done))
  rename_i hr
  simp only [Option.some.injEq, Prod.mk.injEq] at hp
  obtain ⟨rfl, rfl⟩ := hp
  exact ⟨rfl, fun h' => by simp [hr]⟩
theorem pure_indexS (x ix : DV) : PureP (pIndexS x ix) := by
  intro h v h1 hp
  unfold pIndexS at *
  split at hp <;> (try (cases hp; done))
  split at hp <;> (try (cases hp; done))
  rename_i h0
  split at hp <;> (try (cases hp; done))
  rename_i c hc
  simp only [Option.some.injEq, Prod.mk.injEq] at hp
  obtain ⟨rfl, rfl⟩ := hp
  exact ⟨rfl, fun h' => by simp [h0, hc]⟩
theorem pure_extract (i : Nat) (x : DV) : PureP (pExtract i x) := by
  intro h v h1 hp
  unfold pExtract at *
  split at hp <;> (try (cases hp; done))
  split at hp <;> (try (cases hp; done))
  rename_i r hr
  simp only [Option.some.injEq, Prod.mk.injEq] at hp
  obtain ⟨rfl, rfl⟩ := hp
  exact ⟨rfl, fun h' => by simp [hr]⟩
theorem pure_pick (c x y : DV) : PureP (pPick c x y) := by
  cases c with
  | b z => cases z <;> exact PureP.val _
  | _ => exact PureP.none
theorem pure_lenS (x : DV) : PureP (pLenS x) := by cases x <;> first | exact PureP.val _ | exact PureP.none
theorem pure_len (x : DV) : PureP (pLen x) := by cases x <;> first | exact PureP.val _ | exact PureP.none
theorem pure_min (x y : DV) : PureP (pMin x y) := by cases x <;> cases y <;> first | exact PureP.val _ | exact PureP.none
theorem pure_max (x y : DV) : PureP (pMax x y) := by cases x <;> cases y <;> first | exact PureP.val _ | exact PureP.none
theorem pure_build (z : List DV) (ps : List (Nat × Nat × DV)) : PureP (pBuild z ps) := by
  intro h v h1 hp
  unfold pBuild at *
  split at hp <;> (try (cases hp; done))
  rename_i r hr
  simp only [Option.some.injEq, Prod.mk.injEq] at hp
  obtain ⟨rfl, rfl⟩ := hp
  exact ⟨rfl, fun h' => by simp [hr]⟩

section
variable {C : Cfg} {rec : FuncId → List DV → Hp → Res}

theorem opsem_pure {o : Oper} {env : Env} (hc : clsOf C.P o.op = .pure) : PureP (opsem C rec o env) := by
  obtain ⟨dst, op, ty, pos, after, guard⟩ := o
  simp only at hc
  unfold opsem
  cases op <;> simp only [clsOf] at hc <;> (try (cases hc; done)) <;> simp only
  case move x => exact PureP.val _
  case assign x => exact PureP.val _
  case pick c a b => exact pure_pick _ _ _
  case build t ps =>
    split
    · split
      · split
        · exact pure_build _ _
        · exact PureP.none
      · exact PureP.none
    · exact PureP.none
  case nilCheck x => exact pure_nil _
  case binOp op t x y yt =>
    split
    · exact pure_bin _ _ _ _
    · exact PureP.none
  case unOp op t x => exact pure_un _ _
  case convert src dst x =>
    split
    · exact pure_convI _ _
    · exact pure_convS _
    · exact PureP.none
  case makeFunc fn first cap =>
    split
    · exact PureP.val _
    · exact PureP.none
  case slice t x lo hi mx =>
    split at hc <;> (try (cases hc; done))
    rename_i ht
    rw [ht]
    cases mx with
    | none => exact pure_sliceS _ _ _
    | some m => exact PureP.none
  case fieldAddr t x f =>
    split
    · split
      · split
        · exact PureP.ite PureP.none (pure_field _ _)
        · exact PureP.none
      · exact PureP.none
    · exact PureP.none
  case field t x f =>
    split
    · split
      · split
        · rename_i d i _ _; cases isAgD d <;> first | exact pure_partA _ _ _ | exact pure_part1 _ _
        · exact PureP.none
      · exact PureP.none
    · exact PureP.none
  case indexAddr t x ix =>
    split
    · split
      · exact pure_indexAddr _ _ _
      · exact PureP.none
    · split
      · exact pure_indexArr _ _ _ _
      · exact PureP.none
    · exact PureP.none
  case index t x ix =>
    split
    · exact pure_indexS _ _
    · exact PureP.none
  case extract x i => exact pure_extract _ _
  case call c =>
    obtain ⟨callee, args, ats⟩ := c
    cases callee with
    | value f => cases hc
    | invoke r m => cases hc
    | builtin b =>
      cases b <;> (try (cases hc; done)) <;> simp only [builtinD]
      case len =>
        split
        · split
          · exact pure_lenS _
          · exact pure_len _
          · exact PureP.none
        · exact PureP.none
      case max =>
        unfold maxAll
        split
        · exact pure_max _ _
        · exact PureP.none
      case min =>
        unfold minAll
        split
        · exact pure_min _ _
        · exact PureP.none

theorem opsem_reads {o : Oper} {env : Env} (hc : clsOf C.P o.op = .reads) {h h1 : Hp} {v : DV} (hp : opsem C rec o env h = some (v, h1)) : h1 = h := by
  obtain ⟨dst, op, ty, pos, after, guard⟩ := o
  simp only at hc
  unfold opsem at hp
  cases op <;> simp only [clsOf] at hc <;> (try (cases hc; done))
  case slice t x lo hi mx => split at hc <;> cases hc
  case load t x =>
    simp only at hp
    split at hp <;> (try (cases hp; done))
    rename_i d i _ _
    cases hd : isAgD d with
    | true =>
      rw [hd] at hp
      simp only [cond_true] at hp
      unfold pLoadA at hp
      split at hp <;> (try (cases hp; done))
      split at hp <;> (try (cases hp; done))
      simp only [Option.some.injEq, Prod.mk.injEq] at hp
      exact hp.2.symm
    | false =>
      rw [hd] at hp
      simp only [cond_false] at hp
      unfold pLoad1 at hp
      split at hp <;> (try (cases hp; done))
      split at hp <;> (try (cases hp; done))
      simp only [Option.some.injEq, Prod.mk.injEq] at hp
      exact hp.2.symm
  case call c =>
    obtain ⟨callee, args, ats⟩ := c
    cases callee with
    | value f => cases hc
    | invoke r m => cases hc
    | builtin b => cases b <;> cases hc

theorem step_pure {ops : Array Oper} {o : Oper} {env : Env} (hc : clsOf C.P o.op = .pure) : PureP (stepD C rec ops o env) := by
  unfold stepD
  split
  · exact opsem_pure hc
  · intro h v h1 hp
    unfold gD at *
    split at hp <;> (try (cases hp; done))
    · split at hp
      · rename_i x hx hw
        obtain ⟨h2, h3⟩ := opsem_pure (rec := rec) (env := env) hc h v h1 hp
        exact ⟨h2, fun h' => by simp only [hx]; rw [if_pos hw]; exact h3 h'⟩
      · rename_i x hx hw
        simp only [Option.some.injEq, Prod.mk.injEq] at hp
        obtain ⟨rfl, rfl⟩ := hp
        exact ⟨rfl, fun h' => by simp only [hx]; rw [if_neg hw]⟩
    · rename_i hx
      simp only [Option.some.injEq, Prod.mk.injEq] at hp
      obtain ⟨rfl, rfl⟩ := hp
      exact ⟨rfl, fun h' => by simp only [hx]⟩

theorem step_reads {ops : Array Oper} {o : Oper} {env : Env} (hc : clsOf C.P o.op = .reads) {h h1 : Hp} {v : DV} (hp : stepD C rec ops o env h = some (v, h1)) : h1 = h := by
  unfold stepD at hp
  split at hp
  · exact opsem_reads hc hp
  · unfold gD at hp
    split at hp <;> (try (cases hp; done))
    · split at hp
      · exact opsem_reads hc hp
      · simp only [Option.some.injEq, Prod.mk.injEq] at hp
        exact hp.2.symm
    · simp only [Option.some.injEq, Prod.mk.injEq] at hp
      exact hp.2.symm

/-! ### It looks at its operands alone -/

theorem opr_congr {env env' : Env} {x : Operand} (h : ∀ t, x = .tmp t → env t = env' t) : opr env x = opr env' x := by
  cases x with
  | tmp t => exact h t rfl
  | _ => rfl

theorem opsem_congr {o : Oper} {env env' : Env} {h : Hp} (hs : ∀ x ∈ o.op.operands, opr env x = opr env' x) : opsem C rec o env h = opsem C rec o env' h := by
  obtain ⟨dst, op, ty, pos, after, guard⟩ := o
  simp only at hs
  have pairs : ∀ (ps : Array (Nat × Operand)), (∀ x ∈ ps.toList.map (·.2), opr env x = opr env' x) → ∀ q ∈ ps.toList, opr env q.2 = opr env' q.2 := fun ps hp q hq => hp _ (List.mem_map_of_mem hq)
  have lst : ∀ (l : Array Operand), (∀ x ∈ l, opr env x = opr env' x) → l.toList.map (opr env) = l.toList.map (opr env') := fun l hl => List.map_congr_left fun x hx => hl x (by simpa using hx)
  unfold opsem
  cases op <;> simp only [Op.operands] at hs <;> simp only
  case move x => rw [hs x (by simp)]
  case assign x => rw [hs x (by simp)]
  case pick c x y => rw [hs c (by simp), hs x (by simp), hs y (by simp)]
  case box t x => rw [hs x (by simp)]
  case build t ps =>
    have hp := pairs ps (by simpa using hs)
    have e : ∀ pl : List (Nat × Nat), ps.toList.mapM (fun (q : Nat × Operand) => (pl[q.1]?).map fun s => (s.1, s.2, opr env q.2)) = ps.toList.mapM (fun (q : Nat × Operand) => (pl[q.1]?).map fun s => (s.1, s.2, opr env' q.2)) := by
      intro pl
      generalize ps.toList = l at hp
      induction l with
      | nil => rfl
      | cons q l ih =>
        simp only [List.mapM_cons]
        rw [ih (fun x hx => hp x (by simp [hx])), hp q (by simp)]
    simp only [e]
  case buildSlice t n ps =>
    have hp := pairs ps (by simpa using hs)
    have e : ∀ sz : Nat, (ps.toList.map fun (q : Nat × Operand) => (q.1 * sz, sz, opr env q.2)) = (ps.toList.map fun (q : Nat × Operand) => (q.1 * sz, sz, opr env' q.2)) := fun sz => List.map_congr_left fun q hq => by rw [hp q hq]
    simp only [e]
  case load t x => rw [hs x (by simp)]
  case store t x y => rw [hs x (by simp), hs y (by simp)]
  case nilCheck x => rw [hs x (by simp)]
  case binOp op t x y yt => rw [hs x (by simp), hs y (by simp)]
  case unOp op t x => rw [hs x (by simp)]
  case convert src dst x => rw [hs x (by simp)]
  case makeFunc fn first cap => rw [lst first (fun x hx => hs x (by simp [hx])), lst cap (fun x hx => hs x (by simp [hx]))]
  case slice t x lo hi mx =>
    have e0 := hs x (by simp)
    have e1 : lo.map (opr env) = lo.map (opr env') := by cases lo <;> simp_all
    have e2 : hi.map (opr env) = hi.map (opr env') := by cases hi <;> simp_all
    rw [e0, e1, e2]
    cases mx with
    | none =>
      cases hu : C.P.underlying t with
      | none => rfl
      | some d => cases d <;> rfl
    | some m =>
      have e3 := hs m (by simp)
      cases hu : C.P.underlying t with
      | none => rfl
      | some d =>
        cases d <;> (try rfl)
        rename_i el
        simp only
        cases hie : C.P.info? el with
        | none => cases hi <;> rfl
        | some ie =>
          cases hi with
          | none => rfl
          | some hv => simp only; rw [e3, hs hv (by simp)]
  case fieldAddr t x f => rw [hs x (by simp)]
  case field t x f => rw [hs x (by simp)]
  case indexAddr t x ix => rw [hs x (by simp), hs ix (by simp)]
  case index t x ix => rw [hs x (by simp), hs ix (by simp)]
  case extract x i => rw [hs x (by simp)]
  case range t x => rw [hs x (by simp)]
  case next x str => rw [hs x (by simp)]
  case call c =>
    obtain ⟨callee, args, ats⟩ := c
    simp only [Call.operands] at hs
    rw [lst args (fun x hx => hs x (by simp [hx]))]
    cases callee with
    | value f => simp only; rw [hs f (by simp)]
    | invoke r m => rfl
    | builtin b => rfl

theorem opsemMk_congr {o : Oper} {b : Pos} {env env' : Env} {h : Hp} (hs : ∀ x ∈ o.op.operands, opr env x = opr env' x) : opsemMk C o b env h = opsemMk C o b env' h := by
  obtain ⟨dst, op, ty, pos, after, guard⟩ := o
  simp only at hs
  unfold opsemMk
  cases op <;> simp only [Op.operands] at hs <;> simp only
  case box t x => rw [hs x (by simp)]
  case buildSlice t n ps =>
    have hp : ∀ q ∈ ps.toList, opr env q.2 = opr env' q.2 := fun q hq => hs _ (by simpa using ⟨q.1, by simpa using hq⟩)
    have e : ∀ sz : Nat, (ps.toList.map fun (q : Nat × Operand) => (q.1 * sz, sz, opr env q.2)) = (ps.toList.map fun (q : Nat × Operand) => (q.1 * sz, sz, opr env' q.2)) := fun sz => List.map_congr_left fun q hq => by rw [hp q hq]
    simp only [e]

theorem stepD_congr {ops : Array Oper} {o : Oper} {env env' : Env} {h : Hp} (hs : ∀ t ∈ o.looksAt ops, env t = env' t) : stepD C rec ops o env h = stepD C rec ops o env' h := by
  have hop : opsem C rec o env h = opsem C rec o env' h := opsem_congr fun x hx => opr_congr fun t ht => hs t (by
    unfold Oper.looksAt
    refine List.mem_append_left _ (List.mem_filterMap.2 ⟨x, by simpa using hx, ?_⟩)
    rw [ht])
  unfold stepD
  cases hg : o.guard with
  | none => exact hop
  | some g =>
    obtain ⟨j, want⟩ := g
    simp only
    rw [hop]
    congr 1
    unfold dstAt
    cases hd : (ops[j]?).bind (·.dst) with
    | none => rfl
    | some d => exact hs d (by unfold Oper.looksAt; simp [hg, hd])

end

/-! ### What comes ahead of what -/

theorem orfold (acc : Array Nat) : ∀ (es : List Edge) (s j : Nat), (es.foldl (fun s e => if Region.binds .any e then s ||| 2 ^ e.on ||| acc.getD e.on 0 else s) s).testBit j = true →
    s.testBit j = true ∨ ∃ e ∈ es, Region.binds .any e = true ∧ (e.on = j ∨ (acc.getD e.on 0).testBit j = true)
  | [], s, j, h => .inl h
  | e :: es, s, j, h => by
    simp only [List.foldl_cons] at h
    rcases orfold acc es _ j h with h1 | ⟨e', he', h2⟩
    · split at h1
      · rename_i hb
        simp only [Nat.testBit_or, Bool.or_eq_true] at h1
        rcases h1 with (h1 | h1) | h1
        · exact .inl h1
        · exact .inr ⟨e, by simp, hb, .inl (by simpa [Nat.testBit_two_pow] using h1)⟩
        · exact .inr ⟨e, by simp, hb, .inr h1⟩
      · exact .inl h1
    · exact .inr ⟨e', by simp [he'], h2⟩

def bstep (acc : Array Nat) (o : Oper) : Array Nat := acc.push (o.after.foldl (fun s e => if Region.binds .any e then s ||| 2 ^ e.on ||| acc.getD e.on 0 else s) 0)

theorem bstep_keep : ∀ (l : List Oper) (acc : Array Nat) (i : Nat), i < acc.size → (l.foldl bstep acc).getD i 0 = acc.getD i 0
  | [], acc, i, h => rfl
  | o :: l, acc, i, h => by
    simp only [List.foldl_cons]
    rw [bstep_keep l _ i (by simp [bstep]; omega)]
    simp [bstep, Array.getElem?_push, Nat.ne_of_lt h]

theorem bstep_spec : ∀ (l : List Oper) (acc : Array Nat) (i j : Nat) (o : Oper), l[i]? = some o → ((l.foldl bstep acc).getD (acc.size + i) 0).testBit j = true →
    ∃ e ∈ o.after, Region.binds .any e = true ∧ (e.on = j ∨ ((l.foldl bstep acc).getD e.on 0).testBit j = true)
  | [], acc, i, j, o, h, _ => by simp at h
  | o' :: l, acc, 0, j, o, h, hb => by
    simp at h; subst h
    simp only [List.foldl_cons, Nat.add_zero] at hb ⊢
    rw [bstep_keep l _ acc.size (by simp [bstep])] at hb
    have hv : (bstep acc o').getD acc.size 0 = o'.after.foldl (fun s e => if Region.binds .any e then s ||| 2 ^ e.on ||| acc.getD e.on 0 else s) 0 := by simp [bstep]
    rw [hv, ← Array.foldl_toList] at hb
    rcases orfold acc _ 0 j hb with h1 | ⟨e, he, h2, h3⟩
    · simp at h1
    · refine ⟨e, by simpa using he, h2, h3.imp id fun h4 => ?_⟩
      have hlt : e.on < acc.size := by
        rcases Nat.lt_or_ge e.on acc.size with h | h
        · exact h
        · simp [Array.getElem?_eq_none h] at h4
      rw [bstep_keep l _ e.on (by simp [bstep]; omega)]
      have : (bstep acc o').getD e.on 0 = acc.getD e.on 0 := by simp [bstep, Array.getElem?_push, Nat.ne_of_lt hlt]
      rw [this]
      exact h4
  | o' :: l, acc, i + 1, j, o, h, hb => by
    simp at h
    simp only [List.foldl_cons] at hb ⊢
    have := bstep_spec l (bstep acc o') i j o h (by
      have e : (bstep acc o').size + i = acc.size + (i + 1) := by simp [bstep]; omega
      rw [e]
      exact hb)
    exact this

theorem before_spec {ops : Array Oper} {i j : Nat} {o : Oper} (ho : ops[i]? = some o) (h : ordD (Region.before ops) j i = true) :
    ∃ e ∈ o.after, Region.binds .any e = true ∧ (e.on = j ∨ ordD (Region.before ops) j e.on = true) := by
  have hb : Region.before ops = ops.toList.foldl bstep #[] := by
    unfold Region.before
    rw [← Array.foldl_toList]
    rfl
  unfold ordD at *
  rw [hb] at h ⊢
  have := bstep_spec ops.toList #[] i j o (by simpa using ho) (by simpa using h)
  exact this

end Go.Dd
