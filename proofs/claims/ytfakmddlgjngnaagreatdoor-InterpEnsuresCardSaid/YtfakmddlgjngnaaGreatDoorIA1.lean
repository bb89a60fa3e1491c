/- A part of the proof: L M N0 N O CH RF1 RF2 RF3 RF4 RF5 RF6 RF7 SM SN RS RG MF Qh OW: each text has a comment of its own. -/
import Derived.Test.YtfakmddlgjngnaaGreatDoorIA0
import Derived.LoopN
import Derived.Scope
import Derived.OrdersIn
import Derived.LoopNIn
import Derived.LoopIn
import Derived.RangeFuncIn
import Derived.RangeFuncCalls
import Derived.RangeFuncLeaves
import Derived.Test.YtfakmddlgjngnaaGreatDoorProg
import Derived.KernelRfl
set_option linter.unusedVariables false
set_option linter.unusedSimpArgs false
set_option linter.constructorNameAsVariable false
set_option maxRecDepth 100000
noncomputable section
namespace Go.Dd
open Go.RowKit (Below)
def PureP (F : Hp → aH) : Prop:=∀ h v h1,F h = some (v,h1) → h1 = h ∧ ∀ h',F h' = some (v,h')
theorem PureP.none : PureP (fun _=>Option.none):=fun _ _ _ h=>by cases h
theorem PureP.val (v : DV) : PureP (fun h=>some (v,h)):=fun h u h1 hp=>by
 simp only [bB,bN] at hp
 obtain ⟨rfl,rfl⟩:=hp
 exact ⟨rfl,fun _=>rfl⟩
theorem fCn {c : Prop} [Decidable c] {F G : Hp → aH} (hF : PureP F) (hG : PureP G) : PureP (fun h=>if c then F h else G h):=by
 by_cases hc : c
 ·simpa [hc] using hF
 ·simpa [hc] using hG
theorem aTx (x : DV) : PureP (aV x):=by cases x <;> first | exact PureP.none | exact PureP.val _
theorem aDp (op : BinOp) (x y : DV) : PureP (aC op x y):=by
 intro h v h1 hp
 simp only [dT] at *
 split at hp <;> (try (cases hp; done))
 split at hp <;> (try (cases hp; done))
 split at hp <;> (try (cases hp; done))
 rename_i hk _ r hr
 simp only [bB,bN] at hp
 obtain ⟨rfl,rfl⟩:=hp
 exact ⟨rfl,fun h'=>by simp [hk,hr]⟩
theorem cPp (op : BinOp) (x y : DV) : PureP (dX op x y):=by
 intro h v h1 hp
 unfold dX at *
 split at hp <;> (try (cases hp; done))
 split at hp <;> (try (cases hp; done))
 rename_i r hr
 simp only [bB,bN] at hp
 obtain ⟨rfl,rfl⟩:=hp
 exact ⟨rfl,fun h'=>by simp [hr]⟩
theorem aWv (op : BinOp) (x y : DV) : PureP (dA op x y):=by
 intro h v h1 hp
 unfold dA at *
 split at hp <;> (try (cases hp; done))
 split at hp <;> (try (cases hp; done))
 rename_i hb
 split at hp <;> (try (cases hp; done)) <;> (simp only [bB,bN] at hp; obtain ⟨rfl,rfl⟩:=hp; exact ⟨rfl,fun h'=>by simp [hb]⟩)
theorem dAw (d : TypeDesc) (pos : Bool) (x y : DV) : PureP (pEq d pos x y):=by
 intro h v h1 hp
 unfold pEq at *
 split at hp <;> (try (cases hp; done))
 rename_i r hr
 simp only [bB,bN] at hp
 obtain ⟨rfl,rfl⟩:=hp
 exact ⟨rfl,fun h'=>by simp [hr]⟩
theorem aSs (op : BinOp) (d : TypeDesc) (x y : DV) : PureP (cLh op d x y):=by
 intro h v h1 hp
 cases d <;> cases op <;> simp only [cLh] at hp ⊢ <;> first | exact aWv _ _ _ h v h1 hp | exact aDp _ _ _ h v h1 hp | exact cPp _ _ _ h v h1 hp | exact dAw _ _ _ _ h v h1 hp | (cases hp; done)
theorem bYb (ok : Bool) (op : BinOp) (x y : DV) : PureP (bVf ok op x y):=by
 intro h v h1 hp
 unfold bVf at *
 split at hp <;> (try (cases hp; done))
 split at hp <;> (try (cases hp; done))
 rename_i hb
 split at hp <;> (try (cases hp; done)) <;> (simp only [bB,bN] at hp; obtain ⟨rfl,rfl⟩:=hp; exact ⟨rfl,fun h'=>by simp [hb]⟩)
theorem cLk (op : BinOp) (x y : DV) : PureP (aUc op x y):=by
 intro h v h1 hp
 unfold aUc at *
 split at hp <;> (try (cases hp; done))
 split at hp <;> (try (cases hp; done))
 rename_i hb
 split at hp <;> (try (cases hp; done)) <;> (simp only [bB,bN] at hp; obtain ⟨rfl,rfl⟩:=hp; exact ⟨rfl,fun h'=>by simp [hb]⟩)
theorem aSo (o2 o3 : Bool) (op : BinOp) (x y : DV) : PureP (dLs o2 o3 op x y):=by
 cases o3 with
 | true=>exact cLk op x y
 | false=>exact bYb o2 op x y
theorem bMo (op : UnOp) (x : DV) : PureP (eQ op x):=by cases op <;> cases x <;> first | exact PureP.val _ | exact PureP.none
theorem pT (k : IntKind) (x : DV) : PureP (cV k x):=by cases x <;> first | exact PureP.val _ | exact PureP.none
theorem aVf (op : BinOp) (c : Bool) (x y : DV) : PureP (bXe op c x y):=by
 intro h v h1 hp
 unfold bXe at hp ⊢
 split at hp <;> (try (cases hp; done))
 ·split at hp <;> (try (cases hp; done))
  rename_i hc
  simp only [bB,bN] at hp
  obtain ⟨rfl,rfl⟩:=hp
  exact ⟨rfl,fun h'=>by simp [hc]⟩
 ·split at hp <;> (try (cases hp; done))
  rename_i hc
  simp only [bB,bN] at hp
  obtain ⟨rfl,rfl⟩:=hp
  exact ⟨rfl,fun h'=>by simp [hc]⟩
 ·simp only [bB,bN] at hp
  obtain ⟨rfl,rfl⟩:=hp
  exact ⟨rfl,fun h'=>rfl⟩
 ·simp only [bB,bN] at hp
  obtain ⟨rfl,rfl⟩:=hp
  exact ⟨rfl,fun h'=>rfl⟩
theorem qH (x : DV) : PureP (aKl x):=by cases x <;> first | exact PureP.val _ | exact PureP.none
theorem nS (x : DV) (lo hi : Option DV) : PureP (iF x lo hi):=by
 intro h v h1 hp
 unfold iF at *
 split at hp <;> (try (cases hp; done))
 split at hp <;> (try (cases hp; done))
 rename_i e he
 split at hp <;> (try (cases hp; done))
 rename_i s hs
 simp only [bB,bN] at hp
 obtain ⟨rfl,rfl⟩:=hp
 exact ⟨rfl,fun h'=>by simp [he,hs]⟩
theorem aBs (off : Nat) (x : DV) : PureP (aB off x):=by cases x <;> first | exact PureP.val _ | exact PureP.none
theorem aCp (off : Nat) (x : DV) : PureP (gN off x):=by
 intro h v h1 hp
 unfold gN at *
 split at hp <;> (try (cases hp; done))
 split at hp <;> (try (cases hp; done))
 rename_i r hr
 simp only [bB,bN] at hp
 obtain ⟨rfl,rfl⟩:=hp
 exact ⟨rfl,fun h'=>by simp [hr]⟩
theorem aAm (off size : Nat) (x : DV) : PureP (aJo off size x):=by cases x <;> first | exact PureP.val _ | exact PureP.none
theorem nV (size : Nat) (x ix : DV) : PureP (aG size x ix):=by
 intro h v h1 hp
 simp only [eT] at hp ⊢
 split at hp <;> (try (cases hp; done))
 all_goals
  split at hp <;> (try (cases hp; done))
  rename_i hr
  simp only [bB,bN] at hp
  obtain ⟨rfl,rfl⟩:=hp
  exact ⟨rfl,fun h'=>by rw [if_pos hr]⟩
theorem pF (n size : Nat) (x ix : DV) : PureP (mE n size x ix):=by
 intro h v h1 hp
 simp only [pG] at *
 split at hp <;> (try (cases hp; done))
 split at hp <;> (try (cases hp; done))
 rename_i hr
 simp only [bB,bN] at hp
 obtain ⟨rfl,rfl⟩:=hp
 exact ⟨rfl,fun h'=>by simp [hr]⟩
theorem uY (x ix : DV) : PureP (cT x ix):=by
 intro h v h1 hp
 unfold cT at *
 split at hp <;> (try (cases hp; done))
 split at hp <;> (try (cases hp; done))
 rename_i h0
 split at hp <;> (try (cases hp; done))
 rename_i c hc
 simp only [bB,bN] at hp
 obtain ⟨rfl,rfl⟩:=hp
 exact ⟨rfl,fun h'=>by simp [h0,hc]⟩
theorem tA (i : Nat) (x : DV) : PureP (aF i x):=by
 intro h v h1 hp
 simp only [sC] at *
 split at hp <;> (try (cases hp; done))
 split at hp <;> (try (cases hp; done))
 rename_i r hr
 simp only [bB,bN] at hp
 obtain ⟨rfl,rfl⟩:=hp
 exact ⟨rfl,fun h'=>by simp [hr]⟩
theorem aFo (c x y : DV) : PureP (aN c x y):=by
 cases c with
 | b z=>cases z <;> exact PureP.val _
 | _=>exact PureP.none
theorem aGi (x : DV) : PureP (fS x):=by cases x <;> first | exact PureP.val _ | exact PureP.none
theorem kQ (x : DV) : PureP (bM x):=by cases x <;> first | exact PureP.val _ | exact PureP.none
theorem aVp (x y : DV) : PureP (bXy x y):=by cases x <;> cases y <;> first | exact PureP.val _ | exact PureP.none
theorem aUw (x y : DV) : PureP (bXc x y):=by cases x <;> cases y <;> first | exact PureP.val _ | exact PureP.none
theorem mH (z : List DV) (ps : List (Nat × Nat × DV)) : PureP (aY z ps):=by
 intro h v h1 hp
 unfold aY at *
 split at hp <;> (try (cases hp; done))
 rename_i r hr
 simp only [bB,bN] at hp
 obtain ⟨rfl,rfl⟩:=hp
 exact ⟨rfl,fun h'=>by simp [hr]⟩
section
variable {C : Cfg} {rec : FuncId → List DV → Hp → aH}
theorem aCf {o : Oper} {env : aZ} (hc : bU C.P o.op = .pure) : PureP (jY C rec o env):=by
 obtain ⟨dst,op,ty,pos,after,guard⟩:=o
 simp only at hc
 unfold jY
 cases op <;> simp only [bU] at hc <;> (try (cases hc; done)) <;> (try ((rename_i r; cases r <;> cases hc); done)) <;> simp only
 case move x=>exact PureP.val _
 case assign x=>exact PureP.val _
 case pick c a b=>exact aFo _ _ _
 case build t ps =>
  split
  ·split
   ·split
    ·exact mH _ _
    ·exact PureP.none
   ·exact PureP.none
  ·split
   ·exact mH _ _
   ·exact PureP.none
  ·exact PureP.none
 case nilCheck x=>exact aTx _
 case binOp op t x y yt =>
  split
  ·exact aSo _ _ _ _ _
  ·exact aVf _ _ _ _
  ·exact aSs _ _ _ _
  ·exact PureP.none
 case unOp op t x=>exact bMo _ _
 case convert src dst x =>
  split
  ·exact pT _ _
  ·exact qH _
  ·rename_i hs _
   rw [hs] at hc
   cases hc
  ·rename_i hs hd
   rw [hs] at hc
   simp only [hd] at hc
   cases hc
  ·exact PureP.none
 case makeFunc fn first cap =>
  split
  ·exact PureP.val _
  ·exact PureP.none
 case slice t x lo hi mx =>
  split at hc <;> (try (cases hc; done)) <;> (try (cases mx <;> cases hc; done))
  rename_i ht
  rw [ht]
  cases mx with
  | none=>exact nS _ _ _
  | some m=>exact PureP.none
 case fieldAddr t x f =>
  split
  ·split
   ·split
    ·exact fCn PureP.none (aBs _ _)
    ·exact PureP.none
   ·exact PureP.none
  ·exact PureP.none
 case field t x f =>
  split
  ·split
   ·split
    ·rename_i d i _ _; cases kA d <;> first | exact aAm _ _ _ | exact aCp _ _
    ·exact PureP.none
   ·exact PureP.none
  ·exact PureP.none
 case indexAddr t x ix =>
  split
  ·split
   ·exact nV _ _ _
   ·exact PureP.none
  ·split
   ·exact pF _ _ _ _
   ·exact PureP.none
  ·exact PureP.none
 case index t x ix =>
  split
  ·exact uY _ _
  ·exact PureP.none
 case extract x i=>exact tA _ _
 case call c =>
  obtain ⟨callee,args,ats⟩:=c
  cases callee with
  | value f=>cases hc
  | invoke r m=>cases hc
  | builtin b =>
   cases b <;> (try (cases hc; done)) <;> simp only [kN]
   case len =>
    split
    ·split
     ·exact aGi _
     ·exact kQ _
     ·exact PureP.none
    ·exact PureP.none
   case max =>
    unfold tY
    split
    ·exact aUw _ _
    ·exact PureP.none
   case min =>
    unfold tN
    split
    ·exact aVp _ _
    ·exact PureP.none
theorem bBi {size : Nat} {x : DV} {lo hi : Option DV} {h h1 : Hp} {v : DV} (hp : eL size x lo hi h = some (v,h1)) : h1 = h:=by
 unfold eL at hp
 repeat' (split at hp <;> (try (cases hp; done)))
 all_goals (simp only [bB,bN] at hp; exact hp.2.symm)
theorem uU {o : Oper} {env : aZ} (hc : bU C.P o.op = .reads) {h h1 : Hp} {v : DV} (hp : jY C rec o env h = some (v,h1)) : h1 = h:=by
 obtain ⟨dst,op,ty,pos,after,guard⟩:=o
 simp only at hc
 unfold jY at hp
 cases op <;> simp only [bU] at hc <;> (try (cases hc; done)) <;> (try ((rename_i r; cases r <;> cases hc); done))
 case slice t x lo hi mx =>
  split at hc
  ·cases hc
  ·cases mx with
   | some m=>cases hc
   | none =>
    simp only at hp
    split at hp <;> (try (cases hp; done))
    ·exact (nS _ _ _ _ _ _ hp).1
    ·split at hp <;> (try (cases hp; done))
     exact bBi hp
    ·rename_i hm
     cases hm
 case convert src dst x =>
  simp only at hp
  split at hp <;> (try (cases hp; done))
  ·exact (pT _ _ _ _ _ hp).1
  ·exact (qH _ _ _ _ hp).1
  ·split at hp <;> (try (cases hp; done))
   unfold nG at hp
   split at hp <;> (try (cases hp; done))
   ·simp only [bB,bN] at hp
    exact hp.2.symm
   ·split at hp <;> (try (cases hp; done))
    split at hp <;> (try (cases hp; done))
    simp only [bB,bN] at hp
    exact hp.2.symm
  ·rename_i hs hd
   rw [hs] at hc
   simp only [hd] at hc
   cases hc
 case load t x =>
  simp only at hp
  split at hp <;> (try (cases hp; done))
  rename_i d i _ _
  cases hd : kA d with
  | true =>
   rw [hd] at hp
   simp only [cond_true] at hp
   rw [eH] at hp
   split at hp <;> (try (cases hp; done))
   split at hp <;> (try (cases hp; done))
   simp only [bB,bN] at hp
   exact hp.2.symm
  | false =>
   rw [hd] at hp
   simp only [cond_false] at hp
   rw [cO] at hp
   split at hp <;> (try (cases hp; done))
   split at hp <;> (try (cases hp; done))
   simp only [bB,bN] at hp
   exact hp.2.symm
 case lookup t x k ok =>
  simp only at hp
  split at hp <;> (try (cases hp; done))
  split at hp <;> (try (cases hp; done))
  split at hp <;> (try (cases hp; done))
  rename_i d _ _ _ _ _ _
  have look : ∀ {d : TypeDesc} {z x k : DV} {v : DV} {h1 : Hp},dV d z ok x k h = some (v,h1) → h1 = h:=by
   intro d z x k v h1 hp
   unfold dV at hp
   split at hp <;> (try (cases hp; done))
   split at hp <;> (try (cases hp; done))
   all_goals
    simp only [bB,bN] at hp
    exact hp.2.symm
  cases hkt : iS d with
  | false =>
   rw [hkt] at hp
   simp only [cond_false] at hp
   cases hks : (uJ C.P d && bTa d (opr env k)) with
   | false=>rw [hks] at hp; cases hp
   | true =>
    rw [hks] at hp
    exact look hp
  | true =>
   rw [hkt] at hp
   exact look hp
 case call c =>
  obtain ⟨callee,args,ats⟩:=c
  cases callee with
  | value f=>cases hc
  | invoke r m=>cases hc
  | builtin b=>cases b <;> cases hc
theorem tK {ops : Array Oper} {o : Oper} {env : aZ} (hc : bU C.P o.op = .pure) : PureP (bA C rec ops o env):=by
 unfold bA
 split
 ·exact aCf hc
 ·intro h v h1 hp
  dsimp only at hp ⊢
  rw [qQ] at hp
  split at hp <;> (try (cases hp; done))
  ·split at hp
   ·rename_i x hx hw
    obtain ⟨h2,h3⟩:=aCf (rec:=rec) (env:=env) hc h v h1 hp
    exact ⟨h2,fun h'=>by rw [qQ]; simp only [hx]; rw [if_pos hw]; exact h3 h'⟩
   ·rename_i x hx hw
    simp only [bB,bN] at hp
    obtain ⟨rfl,rfl⟩:=hp
    exact ⟨rfl,fun h'=>by rw [qQ]; simp only [hx]; rw [if_neg hw]⟩
  ·rename_i hx
   simp only [bB,bN] at hp
   obtain ⟨rfl,rfl⟩:=hp
   exact ⟨rfl,fun h'=>by rw [qQ]; simp only [hx]⟩
theorem pR {ops : Array Oper} {o : Oper} {env : aZ} (hc : bU C.P o.op = .reads) {h h1 : Hp} {v : DV} (hp : bA C rec ops o env h = some (v,h1)) : h1 = h:=by
 unfold bA at hp
 split at hp
 ·exact uU hc hp
 ·rw [qQ] at hp
  split at hp <;> (try (cases hp; done))
  ·split at hp
   ·exact uU hc hp
   ·simp only [bB,bN] at hp
    exact hp.2.symm
  ·simp only [bB,bN] at hp
   exact hp.2.symm
theorem aFu {env env' : aZ} {x : Operand} (h : ∀ t,x = .tmp t → env t = env' t) : opr env x = opr env' x:=by
 cases x with
 | tmp t=>exact h t rfl
 | _=>rfl
theorem aRz {o : Oper} {env env' : aZ} {h : Hp} (hs : ∀ x ∈ o.op.operands,opr env x = opr env' x) : jY C rec o env h = jY C rec o env' h:=by
 obtain ⟨dst,op,ty,pos,after,guard⟩:=o
 simp only at hs
 have pairs : ∀ (ps : Array (Nat × Operand)),(∀ x ∈ ps.toList.map (·.2),opr env x = opr env' x) → ∀ q ∈ ps.toList,opr env q.2 = opr env' q.2:=fun ps hp q hq=>hp _ (List.mem_map_of_mem hq)
 have lst : ∀ (l : Array Operand),(∀ x ∈ l,opr env x = opr env' x) → l.toList.map (opr env) = l.toList.map (opr env'):=fun l hl=>List.map_congr_left fun x hx=>hl x (by simpa using hx)
 unfold jY
 cases op <;> simp only [Op.operands] at hs <;> simp only
 case move x=>rw [hs x (by simp)]
 case assign x=>rw [hs x (by simp)]
 case pick c x y=>rw [hs c (by simp),hs x (by simp),hs y (by simp)]
 case box t x=>rw [hs x (by simp)]
 case build t ps =>
  have hp:=pairs ps (by simpa using hs)
  have e : ∀ pl : List (Nat × Nat),ps.toList.mapM (fun (q : Nat × Operand)=>(pl[q.1]?).map fun s=>(s.1,s.2,opr env q.2)) = ps.toList.mapM (fun (q : Nat × Operand)=>(pl[q.1]?).map fun s=>(s.1,s.2,opr env' q.2)):=by
   intro pl
   generalize ps.toList = l at hp
   induction l with
   | nil=>rfl
   | cons q l ih =>
    simp only [List.mapM_cons]
    rw [ih (fun x hx=>hp x (by simp [hx])),hp q (by simp)]
  simp only [e]
 case buildSlice t n ps =>
  have hp:=pairs ps (by simpa using hs)
  have e : ∀ sz : Nat,(ps.toList.map fun (q : Nat × Operand)=>(q.1 * sz,sz,opr env q.2)) = (ps.toList.map fun (q : Nat × Operand)=>(q.1 * sz,sz,opr env' q.2)):=fun sz=>List.map_congr_left fun q hq=>by rw [hp q hq]
  simp only [e]
 case load t x=>rw [hs x (by simp)]
 case store t x y=>rw [hs x (by simp),hs y (by simp)]
 case nilCheck x=>rw [hs x (by simp)]
 case binOp op t x y yt=>rw [hs x (by simp),hs y (by simp)]
 case unOp op t x=>rw [hs x (by simp)]
 case convert src dst x=>rw [hs x (by simp)]
 case makeInterface t x=>rw [hs x (by simp)]
 case makeFunc fn first cap=>rw [lst first (fun x hx=>hs x (by simp [hx])),lst cap (fun x hx=>hs x (by simp [hx]))]
 case slice t x lo hi mx =>
  have e0:=hs x (by simp)
  have e1 : lo.map (opr env) = lo.map (opr env'):=by cases lo <;> simp_all
  have e2 : hi.map (opr env) = hi.map (opr env'):=by cases hi <;> simp_all
  rw [e0,e1,e2]
  cases mx with
  | none =>
   cases hu : C.P.underlying t with
   | none=>rfl
   | some d=>cases d <;> rfl
  | some m =>
   have e3:=hs m (by simp)
   cases hu : C.P.underlying t with
   | none=>rfl
   | some d =>
    cases d <;> (try rfl)
    rename_i el
    simp only
    cases hie : C.P.info? el with
    | none=>cases hi <;> rfl
    | some ie =>
     cases hi with
     | none=>rfl
     | some hv=>simp only; rw [e3,hs hv (by simp)]
 case fieldAddr t x f=>rw [hs x (by simp)]
 case field t x f=>rw [hs x (by simp)]
 case indexAddr t x ix=>rw [hs x (by simp),hs ix (by simp)]
 case index t x ix=>rw [hs x (by simp),hs ix (by simp)]
 case makeMap t r=>cases r <;> rfl
 case lookup t x k ok=>rw [hs x (by simp),hs k (by simp)]
 case mapUpdate t m k x=>rw [hs m (by simp),hs k (by simp),hs x (by simp)]
 case insert t m k x=>rw [hs m (by simp),hs k (by simp),hs x (by simp)]
 case mapEntry t m k=>rw [hs m (by simp),hs k (by simp)]
 case entryStore t m s x=>rw [hs m (by simp),hs s (by simp),hs x (by simp)]
 case makeSlice t n c=>rw [hs n (by simp),hs c (by simp)]
 case extract x i=>rw [hs x (by simp)]
 case range t x=>rw [hs x (by simp)]
 case next x str=>rw [hs x (by simp)]
 case call c =>
  obtain ⟨callee,args,ats⟩:=c
  simp only [Call.operands] at hs
  rw [lst args (fun x hx=>hs x (by simp [hx]))]
  cases callee with
  | value f=>simp only; rw [hs f (by simp)]
  | invoke r m=>simp only; rw [hs r (by simp)]
  | builtin b=>rfl
theorem aFb {o : Oper} {b : Pos} {env env' : aZ} {h : Hp} (hs : ∀ x ∈ o.op.operands,opr env x = opr env' x) : dW C o b env h = dW C o b env' h:=by
 obtain ⟨dst,op,ty,pos,after,guard⟩:=o
 simp only at hs
 unfold dW
 cases op <;> simp only [Op.operands] at hs <;> simp only
 case makeMap t r=>cases r <;> rfl
 case box t x=>rw [hs x (by simp)]
 case buildSlice t n ps =>
  have hp : ∀ q ∈ ps.toList,opr env q.2 = opr env' q.2:=fun q hq=>hs _ (by simpa using ⟨q.1,by simpa using hq⟩)
  have e : ∀ sz : Nat,(ps.toList.map fun (q : Nat × Operand)=>(q.1 * sz,sz,opr env q.2)) = (ps.toList.map fun (q : Nat × Operand)=>(q.1 * sz,sz,opr env' q.2)):=fun sz=>List.map_congr_left fun q hq=>by rw [hp q hq]
  simp only [e]
theorem aUq {ops : Array Oper} {o : Oper} {env env' : aZ} {h : Hp} (hs : ∀ t ∈ o.looksAt ops,env t = env' t) : bA C rec ops o env h = bA C rec ops o env' h:=by
 have hop : jY C rec o env h = jY C rec o env' h:=aRz fun x hx=>aFu fun t ht=>hs t (by
  unfold Oper.looksAt
  refine List.mem_append_left _ (List.mem_filterMap.2 ⟨x,by simpa using hx, ?_⟩)
  rw [ht])
 unfold bA
 cases hg : o.guard with
 | none=>exact hop
 | some g =>
  obtain ⟨j,want⟩:=g
  simp only
  rw [hop]
  congr 1
  unfold bHs
  cases hd : (ops[j]?).bind (·.dst) with
  | none=>rfl
  | some d=>exact hs d (by unfold Oper.looksAt; simp [hg,hd])
end
theorem cGp (acc : Array Nat) : ∀ (es : List Edge) (s j : Nat),(es.foldl (fun s e=>if Region.binds .any e then s ||| 2 ^ e.on ||| acc.getD e.on 0 else s) s).testBit j = true →
  s.testBit j = true ∨ ∃ e ∈ es,Region.binds .any e = true ∧ (e.on = j ∨ (acc.getD e.on 0).testBit j = true)
 | [],s,j,h=>.inl h
 | e :: es,s,j,h=>by
  simp only [List.foldl_cons] at h
  rcases cGp acc es _ j h with h1 | ⟨e',he',h2⟩
  ·split at h1
   ·rename_i hb
    simp only [Nat.testBit_or,Bool.or_eq_true] at h1
    rcases h1 with (h1 | h1) | h1
    ·exact .inl h1
    ·exact .inr ⟨e,by simp,hb,.inl (by simpa [Nat.testBit_two_pow] using h1)⟩
    ·exact .inr ⟨e,by simp,hb,.inr h1⟩
   ·exact .inl h1
  ·exact .inr ⟨e',by simp [he'],h2⟩
def kP (acc : Array Nat) (o : Oper) : Array Nat:=acc.push (o.after.foldl (fun s e=>if Region.binds .any e then s ||| 2 ^ e.on ||| acc.getD e.on 0 else s) 0)
theorem pV : ∀ (l : List Oper) (acc : Array Nat) (i : Nat),i < acc.size → (l.foldl kP acc).getD i 0 = acc.getD i 0
 | [],acc,i,h=>rfl
 | o :: l,acc,i,h=>by
  simp only [List.foldl_cons]
  rw [pV l _ i (by simp [kP]; omega)]
  simp [kP,Array.getElem?_push,Nat.ne_of_lt h]
theorem aEb : ∀ (l : List Oper) (acc : Array Nat) (i j : Nat) (o : Oper),l[i]? = some o → ((l.foldl kP acc).getD (acc.size + i) 0).testBit j = true →
  ∃ e ∈ o.after,Region.binds .any e = true ∧ (e.on = j ∨ ((l.foldl kP acc).getD e.on 0).testBit j = true)
 | [],acc,i,j,o,h,_=>by simp at h
 | o' :: l,acc,0,j,o,h,hb=>by
  simp at h; subst h
  simp only [List.foldl_cons,Nat.add_zero] at hb ⊢
  rw [pV l _ acc.size (by simp [kP])] at hb
  have hv : (kP acc o').getD acc.size 0 = o'.after.foldl (fun s e=>if Region.binds .any e then s ||| 2 ^ e.on ||| acc.getD e.on 0 else s) 0:=by simp [kP]
  rw [hv,← Array.foldl_toList] at hb
  rcases cGp acc _ 0 j hb with h1 | ⟨e,he,h2,h3⟩
  ·simp at h1
  ·refine ⟨e,by simpa using he,h2,h3.imp id fun h4 => ?_⟩
   have hlt : e.on < acc.size:=by
    rcases Nat.lt_or_ge e.on acc.size with h | h
    ·exact h
    ·simp [Array.getElem?_eq_none h] at h4
   rw [pV l _ e.on (by simp [kP]; omega)]
   have : (kP acc o').getD e.on 0 = acc.getD e.on 0:=by simp [kP,Array.getElem?_push,Nat.ne_of_lt hlt]
   rw [this]
   exact h4
 | o' :: l,acc,i + 1,j,o,h,hb=>by
  simp at h
  simp only [List.foldl_cons] at hb ⊢
  have:=aEb l (kP acc o') i j o h (by
   have e : (kP acc o').size + i = acc.size + (i + 1):=by simp [kP]; omega
   rw [e]
   exact hb)
  exact this
theorem aSu {ops : Array Oper} {i j : Nat} {o : Oper} (ho : ops[i]? = some o) (h : hC (Region.before ops) j i = true) :
  ∃ e ∈ o.after,Region.binds .any e = true ∧ (e.on = j ∨ hC (Region.before ops) j e.on = true):=by
 have hb : Region.before ops = ops.toList.foldl kP #[]:=by
  unfold Region.before
  rw [← Array.foldl_toList]
  rfl
 unfold hC at *
 rw [hb] at h ⊢
 have:=aEb ops.toList #[] i j o (by simpa using ho) (by simpa using h)
 exact this
end Go.Dd

namespace Go.Dd
open Go.RowKit (Below)
section
variable {C : Cfg} {G : Gd} {rec : FuncId → List DV → Hp → aH} {ops : Array Oper} {m : Array Nat} {nt : Nat} {k : K}
def kW (C : Cfg) (ops : Array Oper) (j : Nat) : Bool :=
 match ops[j]? with
 | some o=>decide (bU C.P o.op = .acts)
 | none=>false
theorem bRd {j : Nat} {o : Oper} (ho : ops[j]? = some o) : kW C ops j = true ↔ bU C.P o.op = .acts:=by
 unfold kW; rw [ho]; simp
def jK (C : Cfg) (ops : Array Oper) (Hh : Nat → Hp) (lo : Nat) : Nat → List (Option Nat × Hp)
 | 0=>[]
 | d + 1=>(if kW C ops (lo + d) then [(some (lo + d),Hh (lo + d + 1))] else []) ++ jK C ops Hh lo d
theorem vF {Hh Hh' : Nat → Hp} {lo : Nat} : ∀ d,(∀ p,lo < p → p ≤ lo + d → Hh p = Hh' p) → jK C ops Hh lo d = jK C ops Hh' lo d
 | 0,_=>rfl
 | d + 1,h=>by
  simp only [jK]
  rw [vF d (fun p h1 h2=>h p h1 (by omega)),h (lo + d + 1) (by omega) (by omega)]
theorem vE {Hh : Nat → Hp} {lo : Nat} : ∀ d,jK C ops Hh lo (d + 1) = jK C ops Hh (lo + 1) d ++ (if kW C ops lo then [(some lo,Hh (lo + 1))] else [])
 | 0=>by simp [jK]
 | d + 1=>by
  have ih:=vE (Hh:=Hh) (lo:=lo) d
  rw [jK,ih]
  simp only [jK,List.append_assoc]
  rw [show lo + 1 + d = lo + (d + 1) from by omega]
def uM (m : Array Nat) (p : Nat) (Pv : Hp → Prop) : List (Option Nat × Hp) → Prop
 | []=>True
 | (j,hj) :: rest=>Pv hj ∧ (match j with
  | none=>True
  | some j=>hC m j p = true ∨ uM m p Pv rest)
theorem qC {m : Array Nat} {i : Nat} {v : DV} {look : Hp → aH} {Pv : Hp → Prop} (hP : ∀ h,aX (look h) v = true → Pv h) : ∀ (hs : List (Option Nat × Hp)),eP m i v look true hs = true → uM m i Pv hs
 | [],_=>trivial
 | (j, hj) :: rest, hc => by
  simp only [eP,cond_true,Bool.and_eq_true] at hc
  refine ⟨hP hj hc.1, ?_⟩
  cases j with
  | none=>trivial
  | some j =>
   simp only at hc ⊢
   cases ho : hC m j i with
   | true=>exact .inl rfl
   | false =>
    rw [ho] at hc
    exact .inr (qC hP rest hc.2)
structure StepT (C : Cfg) (rec : FuncId → List DV → Hp → aH) (ops : Array Oper) (m : Array Nat) (nt : Nat) (b : Pos) (E : Nat → aZ) (Hh : Nat → Hp) (V : Nat → DV) (lo : Nat) (hs : List (Option Nat × Hp)) (p : Nat) (o : Oper) : Prop where
 fits : cX nt o.dst = true
 step : bU C.P o.op ≠ .makes → bA C rec ops o (E p) (Hh p) = some (V p,Hh (p + 1))
 made : bU C.P o.op = .makes → dW C o b (E p) (Hh p) = some (V p,Hh (p + 1))
 env : E (p + 1) = bJ (E p) o.dst (V p)
 reads : bU C.P o.op = .reads → uM m p (fun h=>bA C rec ops o (E p) h = some (V p,h)) (jK C ops Hh lo (p - lo) ++ hs)
 acts : bU C.P o.op = .acts → ∀ j oj,lo ≤ j → j < p → ops[j]? = some oj → bU C.P oj.op = .reads → hC m j p = true ∨ aX (bA C rec ops oj (E j) (Hh (p + 1))) (V j) = true
theorem uR {o : Oper} {env : aZ} {h : Hp} {v : DV} (hc : bU C.P o.op = .reads) (hs : aX (bA C rec ops o env h) v = true) : bA C rec ops o env h = some (v,h):=by
 cases hr : bA C rec ops o env h with
 | none=>rw [hr] at hs; cases hs
 | some r =>
  obtain ⟨x,h1⟩:=r
  rw [hr] at hs
  have:=fBs _ _ hs
  have h2:=pR hc hr
  rw [this,h2]
theorem vJ {p0 : Pos} : ∀ (l : List Oper) (i c : Nat) (dirty : Bool) (rd : List Seen) (hs : List (Option Nat × Hp)) (env : aZ) (h : Hp) (r : DV × Hp),
  eO C rec nt ops m p0 l k i c dirty rd hs env h = some r → (∀ j : Nat,l[j]? = ops[i + j]?) → (dirty = false → ∃ j rest,hs = (j,h) :: rest) →
  ∃ (E : Nat → aZ) (Hh : Nat → Hp) (V : Nat → DV),E i = env ∧ Hh i = h ∧ k (E (i + l.length)) (Hh (i + l.length)) = some r ∧
   ∀ p o,i ≤ p → p < i + l.length → ops[p]? = some o → StepT C rec ops m nt (bX (c + cF C.P (l.take (p - i))) p0) E Hh V i hs p o ∧
    (bU C.P o.op = .acts → ∀ q ∈ rd,hC m q.at_ p = true ∨ aX (q.look (Hh (p + 1))) q.v = true)
 | [],i,c,dirty,rd,hs,env,h,r,hp,hl,_=>⟨fun _=>env,fun _=>h,fun _=>.u,rfl,rfl,hp,fun p o h1 h2=>by simp at h2; omega⟩
 | o :: os,i,c,dirty,rd,hs,env,h,r,hp,hl,hdirty=>by
  have hi : ops[i]? = some o:=by simpa using (hl 0).symm
  have hl' : ∀ j : Nat,os[j]? = ops[i + 1 + j]? := fun j=>by
   have:=hl (j + 1)
   simpa [Nat.add_assoc,Nat.add_comm 1 j] using this
  have hstep : ∃ v h1 c' dirty' rd' hs',cX nt o.dst = true ∧ (bU C.P o.op ≠ .makes → bA C rec ops o env h = some (v,h1)) ∧ (bU C.P o.op = .makes → dW C o (bX c p0) env h = some (v,h1)) ∧
    eO C rec nt ops m p0 os k (i + 1) c' dirty' rd' hs' (bJ env o.dst v) h1 = some r ∧ (dirty' = false → ∃ j rest,hs' = (j,h1) :: rest) ∧
    (∀ q ∈ rd,q ∈ rd') ∧ hs' = (if kW C ops i then [(some i,h1)] else []) ++ hs ∧ c' = c + cF C.P [o] ∧
    (bU C.P o.op = .reads → uM m i (fun h=>bA C rec ops o env h = some (v,h)) hs ∧ ⟨i,bA C rec ops o env,v⟩ ∈ rd') ∧
    (bU C.P o.op = .acts → (∀ q ∈ rd,hC m q.at_ i = true ∨ aX (q.look h1) q.v = true)):=by
   change cnd (cX nt o.dst) (
     match bU C.P o.op with
     | .pure=>bnd (bA C rec ops o env h) fun v h'=>eO C rec nt ops m p0 os k (i + 1) c dirty rd hs (bJ env o.dst v) h'
     | .reads=>bnd (bA C rec ops o env h) fun v h' =>
       cnd (eP m i v (bA C rec ops o env) dirty hs) (eO C rec nt ops m p0 os k (i + 1) c dirty (⟨i,bA C rec ops o env,v⟩ :: rd) hs (bJ env o.dst v) h')
     | .makes=>bnd (dW C o (bX c p0) env h) fun v h'=>eO C rec nt ops m p0 os k (i + 1) (c + 1) true rd hs (bJ env o.dst v) h'
     | .acts=>bnd (bA C rec ops o env h) fun v h' =>
       cnd (rd.all (fun q=>hC m q.at_ i || aX (q.look h') q.v)) (eO C rec nt ops m p0 os k (i + 1) c false rd ((some i,h') :: hs) (bJ env o.dst v) h')) = some r at hp
   cases hf : cX nt o.dst with
   | false=>rw [hf] at hp; cases hp
   | true =>
    rw [hf] at hp
    dsimp only [cnd] at hp
    cases hc : bU C.P o.op with
    | pure =>
     have ha : kW C ops i = false:=by unfold kW; rw [hi]; simp [hc]
     rw [hc] at hp
     obtain ⟨v,h1,h2,h3⟩:=cS hp
     have hh:=(tK hc _ _ _ h2).1
     refine ⟨v,h1,c,dirty,rd,hs,rfl,fun _=>h2,(fun h=>by cases h),h3,(by rw [hh]; exact hdirty),fun q hq=>hq,by simp [ha],by simp [cF,hc],(fun h=>by cases h),(fun h=>by cases h)⟩
    | reads =>
     have ha : kW C ops i = false:=by unfold kW; rw [hi]; simp [hc]
     rw [hc] at hp
     obtain ⟨v,h1,h2,h3⟩:=cS hp
     have hh:=pR hc h2
     cases hall : eP m i v (bA C rec ops o env) dirty hs with
     | false=>rw [hall] at h3; cases h3
     | true =>
      rw [hall] at h3
      refine ⟨v,h1,c,dirty,_,hs,rfl,fun _=>h2,(fun h=>by cases h),h3,(by rw [hh]; exact hdirty),(fun q hq=>by simp [hq]),by simp [ha],by simp [cF,hc],fun _=>⟨?_,by simp⟩,(fun h=>by cases h)⟩
      have hP : ∀ h,aX (bA C rec ops o env h) v = true → bA C rec ops o env h = some (v,h):=fun h hs=>uR hc hs
      cases hd : dirty with
      | true=>rw [hd] at hall; exact qC hP hs hall
      | false =>
       obtain ⟨j,rest,hcons⟩:=hdirty hd
       subst hcons
       rw [hd] at hall
       simp only [eP,cond_false,Bool.true_and] at hall
       refine ⟨by rw [hh] at h2; exact h2, ?_⟩
       cases j with
       | none=>trivial
       | some j =>
        simp only at hall ⊢
        cases ho : hC m j i with
        | true=>exact .inl rfl
        | false=>rw [ho] at hall; exact .inr (qC hP rest hall)
    | makes =>
     have ha : kW C ops i = false:=by unfold kW; rw [hi]; simp [hc]
     rw [hc] at hp
     obtain ⟨v,h1,h2,h3⟩:=cS hp
     exact ⟨v,h1,c + 1,true,rd,hs,rfl,(fun h=>absurd rfl h),fun _=>h2,h3,(fun h=>by cases h),fun q hq=>hq,by simp [ha],by simp [cF,hc],(fun h=>by cases h),(fun h=>by cases h)⟩
    | acts =>
     have ha : kW C ops i = true:=by unfold kW; rw [hi]; simp [hc]
     rw [hc] at hp
     obtain ⟨v,h1,h2,h3⟩:=cS hp
     cases hall : rd.all (fun q=>hC m q.at_ i || aX (q.look h1) q.v) with
     | false=>rw [hall] at h3; cases h3
     | true =>
      rw [hall] at h3
      refine ⟨v,h1,c,false,rd,_,rfl,fun _=>h2,(fun h=>by cases h),h3,fun _=>⟨_,_,rfl⟩,fun q hq=>hq,by simp [ha],by simp [cF,hc],(fun h=>by cases h),fun _ q hq => ?_⟩
      have:=List.all_eq_true.1 hall q hq
      simpa using this
  obtain ⟨v,h1,c',dirty',rd',hs',hf,hst,hmk,hrest,hdirty',hrd,hhs,hcc,hR,hA⟩:=hstep
  obtain ⟨E',Hh',V',e1,e2,e3,e4⟩:=vJ os (i + 1) c' dirty' rd' hs' _ h1 r hrest hl' hdirty'
  refine ⟨fun p=>if p = i then env else E' p,fun p=>if p = i then h else Hh' p,fun p=>if p = i then v else V' p,by simp,by simp, ?_, ?_⟩
  ·simp only [List.length_cons]
   rw [if_neg (by omega),if_neg (by omega),show i + (os.length + 1) = i + 1 + os.length from by omega]
   exact e3
  ·intro p o' hp1 hp2 ho'
   by_cases hpi : p = i
   ·subst hpi
    rw [hi] at ho'
    cases ho'
    refine ⟨⟨hf, ?_, ?_, ?_, ?_, ?_⟩, ?_⟩
    ·intro hc
     simp only [if_true]
     rw [if_neg (by omega),e2]
     exact hst hc
    ·intro hc
     simp only [if_true,Nat.sub_self,List.take_zero,cF,Nat.add_zero]
     rw [if_neg (by omega),e2]
     exact hmk hc
    ·simp only [if_true]
     rw [if_neg (by omega),e1]
    ·intro hc
     simpa [jK] using (hR hc).1
    ·intro _ j oj hj1 hj2; omega
    ·intro hc q hq
     simp only [show p + 1 ≠ p from by omega,if_false,e2]
     exact hA hc q hq
   ·simp only [List.length_cons] at hp2
    obtain ⟨s,sa⟩:=e4 p o' (by omega) (by omega) ho'
    refine ⟨⟨s.fits, ?_, ?_, ?_, ?_, ?_⟩, ?_⟩
    ·intro hc; simp only [hpi,if_false,show p + 1 ≠ i from by omega]; exact s.step hc
    ·intro hc
     simp only [hpi,if_false,show p + 1 ≠ i from by omega]
     have:=s.made hc
     rw [hcc] at this
     have e : c + cF C.P ((o :: os).take (p - i)) = c + cF C.P [o] + cF C.P (os.take (p - (i + 1))):=by
      rw [show p - i = (p - (i + 1)) + 1 from by omega,List.take_succ_cons]
      simp [cF,Nat.add_assoc]
     rw [e]
     exact this
    ·simp only [hpi,if_false,show p + 1 ≠ i from by omega]; exact s.env
    ·intro hc
     have:=s.reads hc
     simp only [hpi,if_false]
     have e : jK C ops (fun p=>if p = i then h else Hh' p) i (p - i) ++ hs = jK C ops Hh' (i + 1) (p - (i + 1)) ++ hs':=by
      rw [show p - i = (p - (i + 1)) + 1 from by omega,vE,hhs]
      rw [vF (Hh':=Hh') (p - (i + 1)) (fun q h1 h2=>by simp [show q ≠ i from by omega])]
      simp only [show i + 1 ≠ i from by omega,if_false,e2,List.append_assoc]
     rw [e]
     exact this
    ·intro hc j oj hj1 hj2 hoj hcj
     by_cases hji : j = i
     ·subst hji
      rw [hi] at hoj
      cases hoj
      simp only [if_true,show p + 1 ≠ j from by omega,if_false]
      exact sa hc ⟨j,bA C rec ops o env,v⟩ (hR hcj).2
     ·simp only [hji,if_false,show p + 1 ≠ i from by omega]
      exact s.acts hc j oj (by omega) hj2 hoj hcj
    ·intro hc q hq
     simp only [show p + 1 ≠ i from by omega,if_false]
     exact sa hc q (hrd q hq)
theorem dR (hd : eV C.P ops = true) {j : Nat} {y : Oper} (hy : ops[j]? = some y) :
  (∀ e ∈ y.after,Region.binds .any e = true → e.on < j) ∧ (bU C.P y.op = .makes → y.guard = none) ∧
  ∀ i x,i < j → ops[i]? = some x → hC (Region.before ops) i j = true ∨ (Oper.apart ops x y = true ∧ ¬ ((bU C.P x.op = .acts ∨ bU C.P x.op = .makes) ∧ bU C.P y.op = .acts)):=by
 unfold eV at hd
 have hj : j < ops.size:=by
  rcases Nat.lt_or_ge j ops.size with h | h
  ·exact h
  ·simp [Array.getElem?_eq_none h] at hy
 have h1:=List.all_eq_true.1 hd j (by simpa using hj)
 simp only [hy,Bool.and_eq_true] at h1
 obtain ⟨⟨h2,hg⟩,h3⟩:=h1
 refine ⟨fun e he hb => ?_,fun hm => ?_,fun i x hij hx => ?_⟩
 ·have:=(Array.all_eq_true_iff_forall_mem.1 h2) e he
  simp only [hb,Bool.not_true,Bool.false_or] at this
  exact Nat.le_of_ble_eq_true this
 ·cases hgd : y.guard with
  | none=>rfl
  | some g=>rw [hgd] at hg; simp [hm] at hg
 ·have:=List.all_eq_true.1 h3 i (by simpa using hij)
  simp only [hx,Bool.or_eq_true,Bool.and_eq_true] at this
  rcases this with h | ⟨h,h'⟩
  ·exact .inl h
  ·refine .inr ⟨h, ?_⟩
   rintro ⟨a1,a2⟩
   rcases a1 with a1 | a1 <;> simp [a1,a2] at h'
def S (listed : Array Bool) (j : Nat) : Prop:=listed.getD j false = true
def TS (ops : Array Oper) (V : Nat → DV) (env : aZ) (listed : Array Bool) : Nat → aZ
 | 0=>env
 | p + 1=>match ops[p]? with
  | some o=>if listed.getD p false then bJ (TS ops V env listed p) o.dst (V p) else TS ops V env listed p
  | none=>TS ops V env listed p
theorem mO (env : aZ) (d : Option Tmp) (v : DV) (t : Nat) : bJ env d v t = if d = some t then v else env t:=by
 cases d with
 | none=>simp [bJ]
 | some d =>
  simp only [bJ,bB]
  by_cases e : t = d
  ·subst e
   rw [if_pos rfl]
   have : Nat.beq t t = true:=Nat.beq_refl t
   rw [this]; rfl
  ·rw [if_neg (fun h=>e h.symm)]
   have : Nat.beq t d = false:=by
    cases hb : Nat.beq t d with
    | false=>rfl
    | true=>exact absurd (Nat.eq_of_beq_eq_true hb) e
   rw [this]; rfl
theorem cXo {V : Nat → DV} {env : aZ} {listed : Array Bool} {t i : Nat} (hno : ∀ j o,i ≤ j → ops[j]? = some o → o.dst = some t → ¬ S listed j) :
  ∀ p,i ≤ p → TS ops V env listed p t = TS ops V env listed i t:=by
 intro p
 induction p with
 | zero => intro h; have : i = 0 := by omega
           subst this; rfl
 | succ p ih =>
  intro h
  by_cases e : i = p + 1
  ·rw [e]
  ·have ih':=ih (by omega)
   cases ho : ops[p]? with
   | none=>simp only [TS,ho]; exact ih'
   | some o =>
    simp only [TS,ho]
    split
    ·rename_i hl
     rw [mO]
     rw [if_neg (fun hd=>hno p o (by omega) ho hd hl)]
     exact ih'
    ·exact ih'
theorem cLn {V : Nat → DV} {env : aZ} {listed : Array Bool} {E : Nat → aZ} (h0 : E 0 = env) {t i : Nat} (hE : ∀ p o,p < i → ops[p]? = some o → E (p + 1) = bJ (E p) o.dst (V p))
  (hin : ∀ p,p < i → ∃ o,ops[p]? = some o) (hyes : ∀ j o,j < i → ops[j]? = some o → o.dst = some t → S listed j) :
  ∀ p,p ≤ i → TS ops V env listed p t = E p t:=by
 intro p
 induction p with
 | zero=>intro _; simp [TS,h0]
 | succ p ih =>
  intro h
  have ih':=ih (by omega)
  obtain ⟨o,ho⟩:=hin p (by omega)
  rw [hE p o (by omega) ho,mO]
  simp only [TS,ho]
  split
  ·rw [mO,ih']
  ·rename_i hl
   rw [if_neg (fun hd=>hl (hyes p o (by omega) ho hd))]
   exact ih'
end
end Go.Dd

namespace Go.Dd
open Go.RowKit (Below)
theorem dM : ∀ (n : Nat) (p : Pos),(bX n p).toNat = p.toNat + n
 | 0,p=>rfl
 | n + 1,p=>by simp only [bX]; rw [dM n p.succ,fBa]; omega
theorem tR (k : Nat) (h : Hp) : (resv k h).next = bX k h.next ∧ (resv k h).bl = h.bl:=by
 cases k <;> exact ⟨rfl,rfl⟩
section
variable {G G' : Gd} {ρ : Ren} {h : Hp} {w : World}
theorem oT {h' : Hp} (e : h'.bl = h.bl) {b : Pos} {a : Addr} : Claims ρ h' b a ↔ Claims ρ h b a:=by
 unfold Claims; rw [e]
theorem aMr {h' : Hp} (e : h'.bl = h.bl) {b : Pos} : isRo h' b ↔ isRo h b:=by
 unfold isRo; rw [e]
theorem HR.weak (H : HR G' ρ h w) (hB : G'.B = G.B) (hX : ∀ k,G.X k → G'.X k) (hN : G.N ≤ G'.N) (hW : G'.W = G.W) : HR G ρ h w where
 gl:=fun k hk=>by rw [← hW]; exact H.gl k (by rw [hB]; exact hk)
 sz:=⟨by rw [← hB]; exact H.sz.1,fun k hk=>H.sz.2 k (hX k hk)⟩
 nx:=Nat.le_trans hN H.nx
 ro:=fun b a h1 h2=>by rw [← hB]; exact H.ro b a h1 h2
 dom:=H.dom
 lt:=H.lt
 cell:=H.cell
 spare:=H.spare
 free:=fun b a h1 h2=>by
  obtain ⟨h3,h4,h5⟩:=H.free b a h1 h2
  exact ⟨h3,by rw [← hB]; exact h4,fun hk=>h5 (hX _ hk)⟩
 inj:=H.inj
 ex:=H.ex
 grone:=H.grone
 itr:=fun b o L h0 h1 h2=>by
  obtain ⟨⟨h3,h4⟩,h5⟩:=H.itr b o L h0 h1 h2
  exact ⟨⟨by rw [← hB]; exact h3,fun hk=>h4 (hX _ hk)⟩,h5⟩
 itj:=H.itj
theorem HR.reserve (H : HR G ρ h w) (k : Nat) : HR ⟨G.B,G.X,(resv k h).next.toNat,G.W,G.ok⟩ ρ (resv k h) w:=by
 obtain ⟨e1,e2⟩:=tR k h
 exact {
  gl:=H.gl
  sz:=H.sz
  nx:=Nat.le_refl _
  ro:=fun b a h1 h2=>H.ro b a ((oT e2).1 h1) ((aMr e2).1 h2)
  dom:=fun b o h1=>H.dom b o (by rwa [e2] at h1)
  lt:=fun b L h1=>by rw [e1,dM]; have:=H.lt b L h1; omega
  cell:=fun b k l L i v h1=>H.cell b k l L i v (by rwa [e2] at h1)
  spare:=fun b l L es j h1=>H.spare b l L es j (by rwa [e2] at h1)
  free:=fun b a h1 h2=>H.free b a ((oT e2).1 h1) (fun h=>h2 ((aMr e2).2 h))
  inj:=fun b b' a h1 h2 h3=>H.inj b b' a ((oT e2).1 h1) ((oT e2).1 h2) (fun h=>h3 ((aMr e2).2 h))
  ex:=fun b l L h1=>H.ex b l L (by rwa [e2] at h1)
  grone:=fun b es l i v h1=>H.grone b es l i v (by rwa [e2] at h1)
  itr:=fun b o L h0 h1=>H.itr b o L h0 (by rwa [e2] at h1)
  itj:=fun b o b' o' L L' h0 h0' h1 h2=>H.itj b o b' o' L L' h0 h0' (by rwa [e2] at h1) (by rwa [e2] at h2) }
theorem HR.early (H : HR G ρ h w) {b : Pos} (hb : ρ b = none) (hlt : b.toNat < h.next.toNat) (x0 : Obj) :
  HR ⟨G.B,fun k=>G.X k ∨ k = w.heap.size,G.N,G.W,G.ok⟩ (mG ρ b ⟨w.heap.size,0,0,none⟩) h (w.alloc x0):=by
 have hext : Ext ρ (mG ρ b ⟨w.heap.size,0,0,none⟩):=by
  intro x L hx
  by_cases e : x = b
  ·subst e; rw [hb] at hx; cases hx
  ·rw [aU _ _ e]; exact hx
 have hrow : h.bl.get b = none:=by
  cases hr : h.bl.get b with
  | none=>rfl
  | some o=>obtain ⟨L,hL⟩:=H.dom b o hr; rw [hb] at hL; cases hL
 have hne : ∀ x o,h.bl.get x = some o → x ≠ b:=fun x o hx e=>by subst e; rw [hrow] at hx; cases hx
 have hcl : ∀ {x a},Claims (mG ρ b ⟨w.heap.size,0,0,none⟩) h x a → Claims ρ h x a:=by
  rintro x a ⟨k,l,L,h1,h2,h3⟩
  rw [aU _ _ (hne x _ h1)] at h2
  exact ⟨k,l,L,h1,h2,h3⟩
 have hblt : ∀ {x a},Claims ρ h x a → a.block < w.heap.size:=fun hc=>by
  obtain ⟨v,hv⟩:=H.lt_cell hc
  exact eA hv
 refine { gl:=fun k hk=>by rw [Below.heap_alloc _ _ _ (Nat.lt_of_lt_of_le hk H.sz.1)]; exact H.gl k hk,sz:=⟨by have:=H.sz.1; simp; omega,fun k hk => ?_⟩,nx:=H.nx,ro:=fun x a h1 h2=>H.ro x a (hcl h1) h2,dom := ?_,lt := ?_,cell := ?_,spare := ?_,free := ?_,inj := ?_,ex := ?_,grone:=H.grone,itr := ?_,itj := ?_ }
 ·rcases hk with hk | hk
  ·have:=H.sz.2 k hk; simp; omega
  ·simp; omega
 ·intro x o hx
  obtain ⟨L,hL⟩:=H.dom x o hx
  exact ⟨L,hext _ _ hL⟩
 ·intro x L hx
  by_cases e : x = b
  ·subst e; exact hlt
  ·rw [aU _ _ e] at hx; exact H.lt x L hx
 ·intro x k l L i v hx hL hi hv
  rw [aU _ _ (hne x _ hx)] at hL
  obtain ⟨v',h5,h6⟩:=H.cell x k l L i v hx hL hi hv
  exact ⟨v',by rw [dP (eA h5)]; exact h5,h6.mono hext⟩
 ·intro x l L es j hx hL hj
  rw [aU _ _ (hne x _ hx)] at hL
  obtain ⟨v',h5⟩:=H.spare x l L es j hx hL hj
  exact ⟨v',by rw [dP (eA h5)]; exact h5⟩
 ·intro x a hc hr
  have hlt':=hblt (hcl hc)
  obtain ⟨h3,h4,h5⟩:=H.free x a (hcl hc) hr
  refine ⟨by rw [gJ (by omega)]; exact h3,h4, ?_⟩
  rintro (hk | hk)
  ·exact h5 hk
  ·omega
 ·intro x x' a hc hc' hr
  exact H.inj x x' a (hcl hc) (hcl hc') hr
 ·intro x l L hx hL
  have : x ≠ b:=by rcases hx with hx | hx <;> exact hne x _ hx
  rw [aU _ _ this] at hL
  exact H.ex x l L hx hL
 ·intro x o L h0 hx hL
  rw [aU _ _ (hne x _ hx)] at hL
  obtain ⟨⟨h1,h1'⟩,h2,bs,h3,h4⟩:=H.itr x o L h0 hx hL
  have hlt' : L.bl < w.heap.size:=by
   rcases Nat.lt_or_ge L.bl w.heap.size with h | h
   ·exact h
   ·simp [Array.getElem?_eq_none h] at h3
  refine ⟨⟨h1, ?_⟩,h2,bs,by rw [Below.heap_alloc _ _ _ hlt']; exact h3,h4.mono hext⟩
  rintro (hk | hk)
  ·exact h1' hk
  ·omega
 ·intro x o x' o' L L' h0 h0' hx hx' hL hL' he
  rw [aU _ _ (hne x _ hx)] at hL
  rw [aU _ _ (hne x' _ hx')] at hL'
  exact H.itj x o x' o' L L' h0 h0' hx hx' hL hL' he
theorem HR.adopt (H : HR G' ρ h w) (hB : G'.B = G.B) (hX : ∀ k,G.X k → G'.X k) (hN : G.N ≤ G'.N) (hW : G'.W = G.W) {b : Pos} {r : Nat} {arr : Array Value} {t : TypeId} {cs : List DV}
  (hb : ρ b = some ⟨r,0,0,none⟩) (hr : w.heap[r]? = some (.cells arr t (0,0))) (hcs : VRs ρ cs arr.toList) (hBr : G.B ≤ r) (hXr : ¬ G.X r) (hXr' : G'.X r) :
  HR G ρ ⟨h.next,Tr.set (.row .ex cs) b h.bl⟩ w:=by
 have hcell : ∀ i,w.cell? (eX ⟨r,0,0,none⟩ i) = arr[i]? := fun i=>by simp [World.cell?,eX,hr]
 have hfro : ∀ i,w.frozen? (eX ⟨r,0,0,none⟩ i) = false:=fun i=>by simp [World.frozen?,eX,hr]
 have hnew : ∀ {a},Claims ρ ⟨h.next,Tr.set (.row .ex cs) b h.bl⟩ b a → ∃ i,a = eX ⟨r,0,0,none⟩ i:=by
  rintro a ⟨k,l,L,h1,h2,h3⟩
  simp only [fAx,bB,Ob.row.injEq] at h1
  obtain ⟨rfl,rfl⟩:=h1
  rw [hb] at h2; cases h2
  rcases h3 with ⟨i,v,hi,hv,rfl⟩ | ⟨es,j,h4,_,_⟩
  ·exact ⟨i,rfl⟩
  ·cases h4
 have hold : ∀ {x a},x ≠ b → Claims ρ ⟨h.next,Tr.set (.row .ex cs) b h.bl⟩ x a → Claims ρ h x a:=by
  rintro x a hx ⟨k,l,L,h1,h2,h3⟩
  simp only [fAw _ _ _ _ hx] at h1
  exact ⟨k,l,L,h1,h2,h3⟩
 have hroo : ∀ x,x ≠ b → (isRo ⟨h.next,Tr.set (.row .ex cs) b h.bl⟩ x ↔ isRo h x):=fun x hx=>by simp [isRo,fAw _ _ _ _ hx]
 have hapart : ∀ {x a},Claims ρ h x a → a.block ≠ r:=by
  intro x a hc e
  by_cases hro : isRo h x
  ·have:=H.ro x a hc hro
   omega
  ·exact (H.free x a hc hro).2.2 (e ▸ hXr')
 refine { gl:=fun k hk=>by rw [← hW]; exact H.gl k (by rw [hB]; exact hk),sz:=⟨by rw [← hB]; exact H.sz.1,fun k hk=>H.sz.2 k (hX k hk)⟩,nx:=Nat.le_trans hN H.nx,ro := ?_,dom := ?_,lt:=H.lt,cell := ?_,spare := ?_,free := ?_,inj := ?_,ex := ?_,grone := ?_,itr := ?_,itj := ?_ }
 ·intro x a hc hro
  by_cases e : x = b
  ·subst e
   obtain ⟨l0,h0⟩:=hro
   simp [fAx] at h0
  ·rw [← hB]; exact H.ro x a (hold e hc) ((hroo x e).1 hro)
 ·intro x o hx
  by_cases e : x = b
  ·subst e; exact ⟨_,hb⟩
  ·simp only [fAw _ _ _ _ e] at hx; exact H.dom x o hx
 ·intro x k l L i v hx hL hi hv
  by_cases e : x = b
  ·subst e
   simp only [fAx,bB,Ob.row.injEq] at hx
   obtain ⟨rfl,rfl⟩:=hx
   rw [hb] at hL; cases hL
   obtain ⟨v',h5,h6⟩:=hcs.get i v hi
   exact ⟨v',by rw [hcell]; simpa using h5,h6⟩
  ·simp only [fAw _ _ _ _ e] at hx
   exact H.cell x k l L i v hx hL hi hv
 ·intro x l L es j hx hL hj
  by_cases e : x = b
  ·subst e; simp [fAx] at hx
  ·simp only [fAw _ _ _ _ e] at hx
   exact H.spare x l L es j hx hL hj
 ·intro x a hc hro
  by_cases e : x = b
  ·subst e
   obtain ⟨i,rfl⟩:=hnew hc
   exact ⟨hfro i,hBr,hXr⟩
  ·obtain ⟨h3,h4,h5⟩:=H.free x a (hold e hc) (fun h=>hro ((hroo x e).2 h))
   exact ⟨h3,by rw [← hB]; exact h4,fun hk=>h5 (hX _ hk)⟩
 ·intro x x' a hc hc' hro
  by_cases e : x = b
  ·subst e
   by_cases e' : x' = x
   ·exact e'.symm
   ·obtain ⟨i,rfl⟩:=hnew hc
    exact absurd rfl (hapart (hold e' hc'))
  ·by_cases e' : x' = b
   ·subst e'
    obtain ⟨i,rfl⟩:=hnew hc'
    exact absurd rfl (hapart (hold e hc))
   ·exact H.inj x x' a (hold e hc) (hold e' hc') (fun h=>hro ((hroo x e).2 h))
 ·intro x l L hx hL
  by_cases e : x = b
  ·subst e
   rw [hb] at hL; cases hL
   rfl
  ·simp only [fAw _ _ _ _ e] at hx
   exact H.ex x l L hx hL
 ·intro x es l i v hx hi
  by_cases e : x = b
  ·subst e; simp [fAx] at hx
  ·simp only [fAw _ _ _ _ e] at hx
   exact H.grone x es l i v hx hi
 ·intro x o L h0 hx hL
  by_cases e : x = b
  ·subst e; simp [fAx] at hx; subst hx; cases h0
  ·simp only [fAw _ _ _ _ e] at hx
   obtain ⟨⟨h1,h1'⟩,h2⟩:=H.itr x o L h0 hx hL
   exact ⟨⟨by rw [← hB]; exact h1,fun hk=>h1' (hX _ hk)⟩,h2⟩
 ·intro x o x' o' L L' h0 h0' hx hx' hL hL' he
  by_cases e : x = b
  ·subst e; simp [fAx] at hx; subst hx; cases h0
  ·by_cases e' : x' = b
   ·subst e'; simp [fAx] at hx'; subst hx'; cases h0'
   ·simp only [fAw _ _ _ _ e] at hx
    simp only [fAw _ _ _ _ e'] at hx'
    exact H.itj x o x' o' L L' h0 h0' hx hx' hL hL' he
theorem HR.adoptMp (H : HR G' ρ h w) (hB : G'.B = G.B) (hX : ∀ k,G.X k → G'.X k) (hN : G.N ≤ G'.N) (hW : G'.W = G.W) {b : Pos} {r : Nat}
  (hb : ρ b = some ⟨r,0,0,none⟩) (hr : w.heap[r]? = some (.map #[] 0)) (hBr : G.B ≤ r) (hXr : ¬ G.X r) (hXr' : G'.X r) :
  HR G ρ ⟨h.next,Tr.set (.mp []) b h.bl⟩ w:=by
 have hnew : ∀ {a},¬ Claims ρ ⟨h.next,Tr.set (.mp []) b h.bl⟩ b a:=by
  rintro a ⟨k,l,L,h1,h2,h3⟩
  simp only [fAx,bB] at h1
  cases h1
 have hold : ∀ {x a},x ≠ b → Claims ρ ⟨h.next,Tr.set (.mp []) b h.bl⟩ x a → Claims ρ h x a:=by
  rintro x a hx ⟨k,l,L,h1,h2,h3⟩
  simp only [fAw _ _ _ _ hx] at h1
  exact ⟨k,l,L,h1,h2,h3⟩
 have hroo : ∀ x,x ≠ b → (isRo ⟨h.next,Tr.set (.mp []) b h.bl⟩ x ↔ isRo h x):=fun x hx=>by simp [isRo,fAw _ _ _ _ hx]
 refine { gl:=fun k hk=>by rw [← hW]; exact H.gl k (by rw [hB]; exact hk),sz:=⟨by rw [← hB]; exact H.sz.1,fun k hk=>H.sz.2 k (hX k hk)⟩,nx:=Nat.le_trans hN H.nx,ro := ?_,dom := ?_,lt:=H.lt,cell := ?_,spare := ?_,free := ?_,inj := ?_,ex := ?_,grone := ?_,itr := ?_,itj := ?_ }
 ·intro x a hc hro
  by_cases e : x = b
  ·subst e; exact absurd hc hnew
  ·rw [← hB]; exact H.ro x a (hold e hc) ((hroo x e).1 hro)
 ·intro x o hx
  by_cases e : x = b
  ·subst e; exact ⟨_,hb⟩
  ·simp only [fAw _ _ _ _ e] at hx; exact H.dom x o hx
 ·intro x k l L i v hx hL hi hv
  by_cases e : x = b
  ·subst e; simp [fAx] at hx
  ·simp only [fAw _ _ _ _ e] at hx
   exact H.cell x k l L i v hx hL hi hv
 ·intro x l L es j hx hL hj
  by_cases e : x = b
  ·subst e; simp [fAx] at hx
  ·simp only [fAw _ _ _ _ e] at hx
   exact H.spare x l L es j hx hL hj
 ·intro x a hc hro
  by_cases e : x = b
  ·subst e; exact absurd hc hnew
  ·obtain ⟨h3,h4,h5⟩:=H.free x a (hold e hc) (fun h=>hro ((hroo x e).2 h))
   exact ⟨h3,by rw [← hB]; exact h4,fun hk=>h5 (hX _ hk)⟩
 ·intro x x' a hc hc' hro
  by_cases e : x = b
  ·subst e; exact absurd hc hnew
  ·by_cases e' : x' = b
   ·subst e'; exact absurd hc' hnew
   ·exact H.inj x x' a (hold e hc) (hold e' hc') (fun h=>hro ((hroo x e).2 h))
 ·intro x l L hx hL
  by_cases e : x = b
  ·subst e; simp [fAx] at hx
  ·simp only [fAw _ _ _ _ e] at hx
   exact H.ex x l L hx hL
 ·intro x es l i v hx hi
  by_cases e : x = b
  ·subst e; simp [fAx] at hx
  ·simp only [fAw _ _ _ _ e] at hx
   exact H.grone x es l i v hx hi
 ·intro x o L h0 hx hL
  by_cases e : x = b
  ·subst e
   simp only [fAx,bB] at hx
   subst hx
   rw [hb] at hL
   cases hL
   exact ⟨⟨hBr,hXr⟩,⟨rfl,rfl⟩,_,hr,⟨#[],0,rfl,.nil,.nil,rfl,by simp⟩⟩
  ·simp only [fAw _ _ _ _ e] at hx
   obtain ⟨⟨h1,h1'⟩,h2⟩:=H.itr x o L h0 hx hL
   exact ⟨⟨by rw [← hB]; exact h1,fun hk=>h1' (hX _ hk)⟩,h2⟩
 ·intro x o x' o' L L' h0 h0' hx hx' hL hL' he
  by_cases e : x = b
  ·by_cases e' : x' = b
   ·rw [e,e']
   ·subst e
    rw [hb] at hL
    cases hL
    simp only [fAw _ _ _ _ e'] at hx'
    obtain ⟨⟨_,h1'⟩,_⟩:=H.itr x' o' L' h0' hx' hL'
    exact absurd (he ▸ hXr') h1'
  ·by_cases e' : x' = b
   ·subst e'
    rw [hb] at hL'
    cases hL'
    simp only [fAw _ _ _ _ e] at hx
    obtain ⟨⟨_,h1'⟩,_⟩:=H.itr x o L h0 hx hL
    exact absurd (he ▸ hXr') h1'
   ·simp only [fAw _ _ _ _ e] at hx
    simp only [fAw _ _ _ _ e'] at hx'
    exact H.itj x o x' o' L L' h0 h0' hx hx' hL hL' he
def MO (ρ : Ren) (ob : Ob) (x : Obj) : Prop :=
 (∃ (cs : List DV) (arr : Array Value) (t : TypeId),ob = .row .ex cs ∧ x = .cells arr t (0,0) ∧ VRs ρ cs arr.toList) ∨ (ob = .mp [] ∧ x = .map #[] 0)
theorem MO.mono {ob : Ob} {x : Obj} {ρ' : Ren} (h : MO ρ ob x) (e : Ext ρ ρ') : MO ρ' ob x:=by
 rcases h with ⟨cs,arr,t,h1,h2,h3⟩ | h
 ·exact .inl ⟨cs,arr,t,h1,h2,h3.mono e⟩
 ·exact .inr h
theorem fCo (H : HR G' ρ h w) (hB : G'.B = G.B) (hX : ∀ k,G.X k → G'.X k) (hN : G.N ≤ G'.N) (hW : G'.W = G.W) {b : Pos} {r : Nat} {ob : Ob} {x : Obj}
  (hb : ρ b = some ⟨r,0,0,none⟩) (hr : w.heap[r]? = some x) (hm : MO ρ ob x) (hBr : G.B ≤ r) (hXr : ¬ G.X r) (hXr' : G'.X r) :
  HR G ρ ⟨h.next,Tr.set ob b h.bl⟩ w:=by
 rcases hm with ⟨cs,arr,t,rfl,rfl,h3⟩ | ⟨rfl,rfl⟩
 ·exact H.adopt hB hX hN hW hb hr h3 hBr hXr hXr'
 ·exact H.adoptMp hB hX hN hW hb hr hBr hXr hXr'
end
section
variable {C : Cfg} {ρ : Ren} {w : World} {h h1 : Hp} {v : DV} {a : Act} {env : aZ}
theorem dZw (he : EnvR ρ env a) {o : Oper} {b : Pos} (hp : dW C o b env h = some (v,h1)) (hb : ρ b = none) :
  ∃ (ob : Ob) (x0 : Obj) (v' : Value),(execOp a.eval o).run C.P w = .ok (.value v') (w.alloc x0) ∧ MO ρ ob x0 ∧
   h1 = ⟨h.next,Tr.set ob b h.bl⟩ ∧ VR (mG ρ b ⟨w.heap.size,0,0,none⟩) v v':=by
 unfold dW at hp
 split at hp <;> (try (cases hp; done))
 ·rename_i t ho
  split at hp <;> (try (cases hp; done))
  rename_i i hi
  split at hp <;> (try (cases hp; done))
  rename_i z hz
  simp only [nA,bB,bN] at hp
  obtain ⟨rfl,rfl⟩:=hp
  refine ⟨_,.cells z.cells t,.pointer (some ⟨w.heap.size,0,none⟩), ?_,.inl ⟨_,_,_,rfl,rfl,fCf ρ z⟩,rfl,.p _ 0 ⟨w.heap.size,0,0,none⟩ (bW _ _ _)⟩
  unfold execOp
  simp only [ho,Instr.alloc,Sem.run_bind,rZ hi hz,Result.andThen_ok]
  simp [newVar,newRow]
 ·rename_i t x ho
  unfold aBp at hp
  split at hp <;> (try (cases hp; done))
  rename_i cs hc
  simp only [nA,bB,bN] at hp
  obtain ⟨rfl,rfl⟩:=hp
  refine ⟨.row .ex cs,.cells (a.eval x).cells t,.pointer (some ⟨w.heap.size,0,none⟩), ?_,.inl ⟨_,_,_,rfl,rfl,(bD he x).cells hc⟩,rfl,.p _ 0 ⟨w.heap.size,0,0,none⟩ (bW _ _ _)⟩
  unfold execOp
  simp [ho,Instr.box,newVar,newRow]
 ·rename_i t n ps ho
  split at hp <;> (try (cases hp; done))
  rename_i e ht
  split at hp <;> (try (cases hp; done))
  rename_i i hi
  split at hp <;> (try (cases hp; done))
  rename_i z hz
  split at hp <;> (try (cases hp; done))
  rename_i hc
  unfold bL at hp
  split at hp <;> (try (cases hp; done))
  rename_i cs hf
  simp only [bB,bN] at hp
  obtain ⟨rfl,rfl⟩:=hp
  obtain ⟨out',h3,h4⟩:=nH (P:=C.P) (w:=w) (ρ := ρ) (bD he) ht hi hz hc.1 hc.2.1 hc.2.2 hf
  refine ⟨.row .ex cs,.cells out' e,.slice (some ⟨w.heap.size,0,none⟩) n n, ?_,.inl ⟨_,_,_,rfl,rfl,h4⟩,rfl,.l _ 0 n n ⟨w.heap.size,0,0,none⟩ (bW _ _ _)⟩
  unfold execOp
  simp only [ho,Sem.run_bind]
  rw [h3]
  simp
 ·rename_i t ho
  simp only [kO,bB,bN] at hp
  obtain ⟨rfl,rfl⟩:=hp
  refine ⟨.mp [],.map #[] 0,.map (some w.heap.size), ?_,.inr ⟨rfl,rfl⟩,rfl,.m _ ⟨w.heap.size,0,0,none⟩ (bW _ _ _)⟩
  unfold execOp
  simp only [ho,Instr.makeMap,Sem.run_bind,Sem.run_pure,Result.andThen_ok,run_newObj]
  rfl
end
end Go.Dd

namespace Go.Dd
open Go.RowKit (Below)
section
variable {C : Cfg} {G : Gd} {rec : FuncId → List DV → Hp → aH} {ops : Array Oper} {nt : Nat} {p0 : Pos}
theorem tS {listed : Array Bool} {i : Nat} : i ∈ Region.ready .any ops listed ↔ i < ops.size ∧ listed.getD i true = false ∧ ∃ o,ops[i]? = some o ∧ ∀ e ∈ o.after,Region.binds .any e = true → listed.getD e.on false = true:=by
 unfold Region.ready
 rw [List.mem_filter]
 simp only [List.mem_range,Bool.and_eq_true,Bool.not_eq_eq_eq_not,Bool.not_true]
 constructor
 ·rintro ⟨h1,h2,h3⟩
  refine ⟨h1,h2,ops[i],by simp [h1],fun e he hb => ?_⟩
  simp only [h1,getElem?_pos,Option.map_some,Option.getD_some] at h3
  have:=(Array.all_eq_true_iff_forall_mem.1 h3) e he
  simpa [hb] using this
 ·rintro ⟨h1,h2,o,ho,h3⟩
  refine ⟨h1,h2, ?_⟩
  simp only [ho,Option.map_some,Option.getD_some]
  refine Array.all_eq_true_iff_forall_mem.2 fun e he => ?_
  cases hb : Region.binds .any e with
  | false=>simp
  | true=>simp [h3 e he hb]
def idp (C : Cfg) (ops : Array Oper) (p0 : Pos) (p : Nat) : Pos:=bX (cF C.P (ops.toList.take p)) p0
structure Tr1 (C : Cfg) (rec : FuncId → List DV → Hp → aH) (ops : Array Oper) (nt : Nat) (p0 : Pos) (E : Nat → aZ) (Hh : Nat → Hp) (V : Nat → DV) : Prop where
 ok : eV C.P ops = true
 st : ∀ p o,ops[p]? = some o → StepT C rec ops (Region.before ops) nt (idp C ops p0 p) E Hh V 0 [(none,Hh 0)] p o
theorem Tr1.same {E : Nat → aZ} {Hh : Nat → Hp} {V : Nat → DV} (T : Tr1 C rec ops nt p0 E Hh V) {p : Nat} {o : Oper} (ho : ops[p]? = some o) (hc : bU C.P o.op ≠ .acts) (hm : bU C.P o.op ≠ .makes) : Hh (p + 1) = Hh p:=by
 have hs:=(T.st p o ho).step hm
 cases hcl : bU C.P o.op with
 | pure=>exact (tK hcl _ _ _ hs).1
 | reads=>exact pR hcl hs
 | makes=>exact absurd hcl hm
 | acts=>exact absurd hcl hc
def eHa (C : Cfg) (ops : Array Oper) (q : Nat) : Prop:=q = 0 ∨ ∃ j oj,ops[j]? = some oj ∧ bU C.P oj.op = .acts ∧ q = j + 1
theorem pX {m : Array Nat} {i q : Nat} {Pv : Hp → Prop} {Hh : Nat → Hp} {tl : List (Option Nat × Hp)} : ∀ d,q ≤ d → uM m i Pv (jK C ops Hh 0 d ++ tl) →
  (∀ j oj,ops[j]? = some oj → bU C.P oj.op = .acts → q ≤ j → j < d → ¬ hC m j i = true) → uM m i Pv (jK C ops Hh 0 q ++ tl)
 | 0, hq, hc, _ => by have : q = 0 := by omega
                      subst this; exact hc
 | d + 1,hq,hc,hno=>by
  by_cases e : q = d + 1
  ·subst e; exact hc
  ·have hq' : q ≤ d:=by omega
   simp only [jK,Nat.zero_add] at hc
   cases ha : kW C ops d with
   | false =>
    rw [ha] at hc
    simp only [Bool.false_eq_true,if_false,List.nil_append] at hc
    exact pX d hq' hc fun j oj h1 h2 h3 h4=>hno j oj h1 h2 h3 (by omega)
   | true =>
    rw [ha] at hc
    simp only [if_true,List.cons_append,List.nil_append] at hc
    obtain ⟨_,h2⟩:=hc
    have ⟨oj,hoj,hcj⟩ : ∃ oj,ops[d]? = some oj ∧ bU C.P oj.op = .acts:=by
     unfold kW at ha
     split at ha
     ·rename_i o ho; exact ⟨o,ho,by simpa using ha⟩
     ·cases ha
    rcases h2 with h2 | h2
    ·exact absurd h2 (hno d oj hoj hcj hq' (by omega))
    ·exact pX d hq' h2 fun j oj h1 h2 h3 h4=>hno j oj h1 h2 h3 (by omega)
theorem Tr1.value {E : Nat → aZ} {Hh : Nat → Hp} {V : Nat → DV} (T : Tr1 C rec ops nt p0 E Hh V) {listed : Array Bool} {i q : Nat} {o : Oper} (ho : ops[i]? = some o) (hc : bU C.P o.op ≠ .acts) (hm : bU C.P o.op ≠ .makes)
  (hq : eHa C ops q) (hgap : ∀ j oj,ops[j]? = some oj → bU C.P oj.op = .acts → (j < q ↔ S listed j))
  (hni : ¬ S listed i) (hdown : ∀ j x,hC (Region.before ops) j x = true → S listed x → S listed j) (hpre : ∀ j,hC (Region.before ops) j i = true → S listed j) :
  bA C rec ops o (E i) (Hh q) = some (V i,Hh q):=by
 have hst:=T.st i o ho
 cases hcl : bU C.P o.op with
 | acts=>exact absurd hcl hc
 | makes=>exact absurd hcl hm
 | pure=>exact (tK hcl _ _ _ (hst.step hm)).2 _
 | reads =>
  rcases Nat.lt_or_ge i q with h | h
  ·rcases hq with rfl | ⟨j,oj,hj,haj,rfl⟩
   ·omega
   ·have hSj : S listed j:=(hgap j oj hj haj).1 (by omega)
    have hij : i ≠ j:=fun e=>by subst e; exact hni hSj
    rcases (T.st j oj hj).acts haj i o (Nat.zero_le _) (by omega) ho hcl with h3 | h3
    ·exact absurd (hdown i j h3 hSj) hni
    ·exact uR hcl h3
  ·have h1:=hst.reads hcl
   rw [Nat.sub_zero] at h1
   have h2:=pX (q:=q) i h h1 fun j oj hj haj hqj hji hord=>by
    have:=(hgap j oj hj haj).2 (hpre j hord)
    omega
   rcases hq with rfl | ⟨j,oj,hj,haj,rfl⟩
   ·exact h2.1
   ·simp only [jK,Nat.zero_add,(bRd hj).2 haj,if_true,List.cons_append,List.nil_append] at h2
    exact h2.1
theorem dSi {listed : Array Bool} {i j : Nat} (hi : i < listed.size) : S (listed.setIfInBounds i true) j ↔ (j = i ∨ S listed j):=by
 unfold S
 by_cases e : j = i
 ·subst e; simp [hi]
 ·simp [Array.getElem?_setIfInBounds_ne (Ne.symm e),e]
theorem tI {listed : Array Bool} {i : Nat} (hi : i < listed.size) : listed.getD i true = listed.getD i false:=by
 simp [hi]
theorem eFy {V : Nat → DV} {env : aZ} {listed : Array Bool} {i : Nat} {o : Oper} (ho : ops[i]? = some o) (hi : i < listed.size) (hni : ¬ S listed i) (t : Nat)
  (hlast : ∀ j oj,i < j → ops[j]? = some oj → oj.dst = some t → o.dst = some t → ¬ S listed j) :
  ∀ p,i < p → TS ops V env (listed.setIfInBounds i true) p t = if o.dst = some t then V i else TS ops V env listed p t:=by
 have hbefore : ∀ p,p ≤ i → TS ops V env (listed.setIfInBounds i true) p = TS ops V env listed p:=by
  intro p
  induction p with
  | zero=>intro _; rfl
  | succ p ih =>
   intro h
   have e : (listed.setIfInBounds i true).getD p false = listed.getD p false:=by simp [Array.getElem?_setIfInBounds_ne (show i ≠ p by omega)]
   simp only [TS,ih (by omega),e]
 intro p
 induction p with
 | zero=>intro h; omega
 | succ p ih =>
  intro h
  by_cases hpi : p = i
  ·subst hpi
   have e1 : (listed.setIfInBounds p true).getD p false = true:=by simp [hi]
   have e2 : ¬ listed.getD p false = true:=hni
   simp only [TS,ho,hbefore p (Nat.le_refl _),e1,if_true,mO]
   rw [if_neg e2]
  ·have ih':=ih (by omega)
   have e : (listed.setIfInBounds i true).getD p false = listed.getD p false:=by simp [Array.getElem?_setIfInBounds_ne (Ne.symm hpi)]
   cases hop : ops[p]? with
   | none=>simp only [TS,hop]; exact ih'
   | some op =>
    simp only [TS,hop,e]
    split
    ·rename_i hl
     rw [mO,mO,ih']
     by_cases hd : op.dst = some t
     ·rw [if_pos hd,if_pos hd]
      by_cases hod : o.dst = some t
      ·exact absurd hl (hlast p op (by omega) hop hd hod)
      ·rw [if_neg hod]
     ·rw [if_neg hd,if_neg hd]
    ·exact ih'
def jQ (C : Cfg) (ops : Array Oper) (listed : Array Bool) (q i : Nat) : Prop:=∃ o,ops[i]? = some o ∧ bU C.P o.op = .makes ∧ S listed i ∧ q ≤ i
def GX (G : Gd) (N : Nat) (C : Cfg) (ops : Array Oper) (listed : Array Bool) (R : Nat → Nat) (q : Nat) : Gd:=⟨G.B,fun k=>G.X k ∨ ∃ i,jQ C ops listed q i ∧ R i = k,N,G.W,G.ok⟩
structure Made (G : Gd) (C : Cfg) (ops : Array Oper) (p0 : Pos) (Hh : Nat → Hp) (ρ : Ren) (w : World) (R : Nat → Nat) (i : Nat) : Prop where
 name : ρ (idp C ops p0 i) = some ⟨R i,0,0,none⟩
 low : G.B ≤ R i
 ex : ¬ G.X (R i)
 row : ∃ (x0 : Obj) (ob : Ob),w.heap[R i]? = some x0 ∧ MO ρ ob x0 ∧ Hh (i + 1) = ⟨(Hh i).next,Tr.set ob (idp C ops p0 i) (Hh i).bl⟩
theorem aUh {E : Nat → aZ} {Hh : Nat → Hp} {V : Nat → DV} (T : Tr1 C rec ops nt p0 E Hh V) {listed : Array Bool} {R : Nat → Nat} {N q : Nat} {ρ : Ren} {w : World}
  (hmade : ∀ i,jQ C ops listed q i → Made G C ops p0 Hh ρ w R i) (hdist : ∀ i i',jQ C ops listed q i → jQ C ops listed q i' → R i = R i' → i = i') :
  ∀ p,q ≤ p → p ≤ ops.size → (∀ j oj,ops[j]? = some oj → q ≤ j → j < p → bU C.P oj.op ≠ .acts ∧ (bU C.P oj.op = .makes → S listed j)) →
  HR (GX G N C ops listed R q) ρ (Hh q) w → HR (GX G N C ops listed R p) ρ (Hh p) w:=by
 intro p
 induction p with
 | zero => intro h1 _ _ H; have : q = 0 := by omega
           subst this; exact H
 | succ p ih =>
  intro h1 h2 hr H
  by_cases e : q = p + 1
  ·subst e; exact H
  ·have H':=ih (by omega) (by omega) (fun j oj hj hq hjp=>hr j oj hj hq (by omega)) H
   obtain ⟨o,ho⟩ : ∃ o,ops[p]? = some o:=⟨ops[p],by simp [show p < ops.size by omega]⟩
   obtain ⟨ha,hm⟩:=hr p o ho (by omega) (by omega)
   have hsub : ∀ k,(GX G N C ops listed R (p + 1)).X k → (GX G N C ops listed R p).X k:=by
    rintro k (hk | ⟨i,⟨oi,h3,h4,h5,h6⟩,h7⟩)
    ·exact .inl hk
    ·exact .inr ⟨i,⟨oi,h3,h4,h5,by omega⟩,h7⟩
   by_cases hmk : bU C.P o.op = .makes
   ·have hE : jQ C ops listed q p:=⟨o,ho,hmk,hm hmk,by omega⟩
    have hM:=hmade p hE
    obtain ⟨x0,ob,r1,r2,r3⟩:=hM.row
    rw [r3]
    refine fCo (G:=GX G N C ops listed R (p + 1)) H' rfl hsub (Nat.le_refl _) rfl hM.name r1 r2 hM.low ?_ (.inr ⟨p,⟨o,ho,hmk,hm hmk,Nat.le_refl _⟩,rfl⟩)
    rintro (hk | ⟨i,⟨oi,h3,h4,h5,h6⟩,h7⟩)
    ·exact hM.ex hk
    ·have:=hdist i p ⟨oi,h3,h4,h5,by omega⟩ hE h7
     omega
   ·rw [T.same ho ha hmk]
    exact H'.weak rfl hsub (Nat.le_refl _) rfl
def Inv (DD : List Deferred) (C : Cfg) (G : Gd) (ops : Array Oper) (nt : Nat) (p0 : Pos) (N : Nat) (E : Nat → aZ) (Hh : Nat → Hp) (V : Nat → DV) (ρ : Ren) (w0 : World) (listed : Array Bool) (a : Act) (w : World) : Prop :=
 listed.size = ops.size ∧ (∀ j x,hC (Region.before ops) j x = true → S listed x → S listed j) ∧
 ∃ q,q ≤ ops.size ∧ eHa C ops q ∧ (∀ j oj,ops[j]? = some oj → bU C.P oj.op = .acts → (j < q ↔ S listed j)) ∧
 ∃ (ρ' : Ren) (R : Nat → Nat),Ex G ρ ρ' ∧ HR (GX G N C ops listed R q) ρ' (Hh q) w ∧ EnvR ρ' (TS ops V (E 0) listed ops.size) a ∧ Kp G w0 w ∧ nt ≤ a.tmps.size ∧ a.defers = DD ∧
  (∀ i o,ops[i]? = some o → bU C.P o.op = .makes → ¬ S listed i → ρ' (idp C ops p0 i) = none) ∧
  (∀ i,jQ C ops listed q i → Made G C ops p0 Hh ρ' w R i) ∧ (∀ i i',jQ C ops listed q i → jQ C ops listed q i' → R i = R i' → i = i')
theorem cHp {i : Nat} {o : Oper} (ho : ops[i]? = some o) (hm : bU C.P o.op = .makes) : (idp C ops p0 i).toNat < p0.toNat + cF C.P ops.toList:=by
 unfold idp
 rw [dM]
 have hlt : i < ops.toList.length:=by
  rcases Nat.lt_or_ge i ops.toList.length with h | h
  ·exact h
  ·simp at h; simp [Array.getElem?_eq_none h] at ho
 have key : ∀ (l : List Oper) (i : Nat),l[i]? = some o → cF C.P (l.take i) < cF C.P l:=by
  intro l
  induction l with
  | nil=>intro i h; simp at h
  | cons x l ih =>
   intro i h
   cases i with
   | zero=>simp at h; subst h; simp [cF,hm]; omega
   | succ i=>simp at h; have:=ih i h; simp only [List.take_succ_cons,cF]; omega
 have:=key ops.toList i (by simpa using ho)
 omega
theorem eBn {i i' : Nat} {o o' : Oper} (ho : ops[i]? = some o) (hm : bU C.P o.op = .makes) (ho' : ops[i']? = some o') (hm' : bU C.P o'.op = .makes) (hne : i ≠ i') : idp C ops p0 i ≠ idp C ops p0 i':=by
 have key : ∀ (l : List Oper) (i j : Nat) (o : Oper),l[i]? = some o → bU C.P o.op = .makes → i < j → cF C.P (l.take i) < cF C.P (l.take j):=by
  intro l
  induction l with
  | nil=>intro i j o h; simp at h
  | cons x l ih =>
   intro i j o h hm hij
   cases j with
   | zero=>omega
   | succ j =>
    cases i with
    | zero=>simp at h; subst h; simp only [List.take_succ_cons,cF,hm,List.take_zero]; omega
    | succ i=>simp at h; have:=ih i j o h hm (by omega); simp only [List.take_succ_cons,cF]; omega
 intro e
 have e':=congrArg Pos.toNat e
 unfold idp at e'
 rw [dM,dM] at e'
 rcases Nat.lt_or_ge i i' with h | h
 ·have:=key ops.toList i i' o (by simpa using ho) hm h; omega
 ·have:=key ops.toList i' i o' (by simpa using ho') hm' (by omega); omega
theorem cIa {DD : List Deferred} (K : OkC C rec) {N : Nat} {E : Nat → aZ} {Hh : Nat → Hp} {V : Nat → DV} (T : Tr1 C rec ops nt p0 E Hh V) (hN : N = p0.toNat + cF C.P ops.toList) (hGN : G.N ≤ p0.toNat) {ρ : Ren} {w0 : World} {Q : Exit → Act → World → Prop}
  (hQ : ∀ ρ' a' w',Ex G ρ ρ' → HR G ρ' (Hh ops.size) w' → EnvR ρ' (E ops.size) a' → Kp G w0 w' → nt ≤ a'.tmps.size → a'.defers = DD → Q .normal a' w') :
  ∀ (fuel : Nat) (listed : Array Bool) (a : Act) (w : World),Inv DD C G ops nt p0 N E Hh V ρ w0 listed a w → ((List.range ops.size).filter fun i => !listed.getD i false).length ≤ fuel → wpAny C.P .any ops Q fuel listed a w:=by
 have hlt : ∀ p,p < ops.size → ∃ o,ops[p]? = some o:=fun p hp=>⟨ops[p],by simp [hp]⟩
 have hin : ∀ (j : Nat) oj,ops[j]? = some oj → j < ops.size:=fun j oj hj=>by
  rcases Nat.lt_or_ge j ops.size with h | h
  ·exact h
  ·simp [Array.getElem?_eq_none h] at hj
 have hend : ∀ listed a w,Inv DD C G ops nt p0 N E Hh V ρ w0 listed a w → (∀ i,i < ops.size → S listed i) → Q .normal a w:=by
  rintro listed a w ⟨hsz,hdown,q,hq,hcand,hgap, ρ',R,h1,h2,h3,h4,h5,h6,h7,h8,h9⟩ hall
  have hH:=aUh (G:=G) T h8 h9 ops.size hq (Nat.le_refl _) (fun j oj hj hqj hjn=>⟨fun ha=>by
   have:=(hgap j oj hj ha).2 (hall j hjn)
   omega,fun _=>hall j hjn⟩) h2
  have hE : ∀ t,TS ops V (E 0) listed ops.size t = E ops.size t:=fun t =>
   cLn (E:=E) rfl (fun p o hp ho=>(T.st p o ho).env) (fun p hp=>hlt p hp) (fun j o hj _ _=>hall j hj) ops.size (Nat.le_refl _)
  refine hQ ρ' a w h1 (hH.weak rfl (fun k hk=>.inl hk) (by show G.N ≤ N; omega) rfl) (fun t => ?_) h4 h5 h6
  rw [← hE t]
  exact h3 t
 have hready : ∀ listed,listed.size = ops.size → Region.ready .any ops listed = [] → ∀ i,i < ops.size → S listed i:=by
  intro listed hsz hr i
  induction i using Nat.strongRecOn with
  | _ i ih =>
   intro hi
   obtain ⟨o,ho⟩:=hlt i hi
   by_cases hs : S listed i
   ·exact hs
   ·exfalso
    have hmem : i ∈ Region.ready .any ops listed:=by
     rw [tS]
     refine ⟨hi, ?_,o,ho,fun e he hb => ?_⟩
     ·rw [tI (by omega)]
      unfold S at hs
      simpa using hs
     ·have:=(dR T.ok ho).1 e he hb
      exact ih e.on this (by omega)
    rw [hr] at hmem
    cases hmem
 intro fuel
 induction fuel with
 | zero =>
  intro listed a w hI hfuel
  have hall : ∀ i,i < ops.size → S listed i:=by
   intro i hi
   by_cases hs : S listed i
   ·exact hs
   ·exfalso
    have : i ∈ (List.range ops.size).filter fun i => !listed.getD i false:=by
     rw [List.mem_filter]
     refine ⟨by simpa using hi, ?_⟩
     unfold S at hs
     simpa using hs
    have:=List.length_pos_of_mem this
    omega
  refine ⟨?_,hend listed a w hI hall⟩
  cases hr : Region.ready .any ops listed with
  | nil=>rfl
  | cons x xs =>
   have hx : x ∈ Region.ready .any ops listed:=by rw [hr]; simp
   rw [tS] at hx
   have:=hall x hx.1
   rw [tI (by rw [hI.1]; exact hx.1)] at hx
   unfold S at this
   rw [this] at hx
   cases hx.2.1
 | succ fuel ih =>
  intro listed a w hI hfuel
  refine ⟨fun hr=>hend listed a w hI (hready listed hI.1 hr),fun i hi => ?_⟩
  obtain ⟨hsz,hdown,q,hq,hcand,hgap, ρ',R,h1,h2,h3,h4,h5,h6,h7,h8,h9⟩:=hI
  rw [tS] at hi
  obtain ⟨hisz,hni,o,ho,hpre0⟩:=hi
  rw [tI (by omega)] at hni
  have hnS : ¬ S listed i:=by unfold S; rw [hni]; simp
  have hpre : ∀ j,hC (Region.before ops) j i = true → S listed j:=by
   intro j hj
   obtain ⟨e,he,hb,h | h⟩:=aSu ho hj
   ·rw [← h]; exact hpre0 e he hb
   ·exact hdown j e.on h (hpre0 e he hb)
  have hst:=T.st i o ho
  have hlook : ∀ t ∈ o.looksAt ops,TS ops V (E 0) listed ops.size t = E i t:=by
   intro t ht
   rw [cXo (i:=i) (fun j oj hij hj hd hS => ?_) ops.size (by omega)]
   ·exact cLn (E:=E) rfl (fun p op hp hop=>(T.st p op hop).env) (fun p hp=>hlt p (by omega)) (fun j oj hj hoj hd=>by
     rcases (dR T.ok ho).2.2 j oj hj hoj with h | ⟨h,_⟩
     ·exact hpre j h
     ·exact absurd ht ((Oper.apart_spec h).1 t hd)) i (Nat.le_refl _)
   ·rcases Nat.eq_or_lt_of_le hij with e | e
    ·subst e; exact hnS hS
    ·rcases (dR T.ok hj).2.2 i o e ho with h | ⟨h,_⟩
     ·exact hnS (hdown i j h hS)
     ·exact absurd ht ((Oper.apart_spec h).2.2 t hd)
  have hmkq : ∀ j oj,ops[j]? = some oj → bU C.P oj.op = .makes → j < q → S listed j:=by
   intro j oj hj hmj hjq
   rcases hcand with rfl | ⟨l,ol,hl,hal,rfl⟩
   ·omega
   ·have hSl : S listed l:=(hgap l ol hl hal).1 (by omega)
    have hjl : j ≠ l:=fun e=>by subst e; rw [hl] at hj; cases hj; rw [hal] at hmj; cases hmj
    rcases (dR T.ok hl).2.2 j oj (by omega) hj with h | ⟨_,h⟩
    ·exact hdown j l h hSl
    ·exact absurd ⟨.inr hmj,hal⟩ h
  have hdown' : ∀ j x,hC (Region.before ops) j x = true → S (listed.setIfInBounds i true) x → S (listed.setIfInBounds i true) j:=by
   intro j x hjx hx
   rw [dSi (by omega)] at hx ⊢
   rcases hx with rfl | hx
   ·exact .inr (hpre j hjx)
   ·exact .inr (hdown j x hjx hx)
  have hTS : ∀ (ρ2 : Ren) (v2 : Value),Ext ρ' ρ2 → VR ρ2 (V i) v2 → EnvR ρ2 (TS ops V (E 0) (listed.setIfInBounds i true) ops.size) (a.put o.dst v2):=by
   intro ρ2 v2 e1 e2 t
   rw [eFy ho (by omega) hnS t (fun j oj hij hj hd hod hS=>by
    rcases (dR T.ok hj).2.2 i o hij ho with h | ⟨h,_⟩
    ·exact hnS (hdown i j h hS)
    ·exact (Oper.apart_spec h).2.1 t hod hd) ops.size (by omega)]
   have:=EnvR.put h3 e1 e2 hst.fits h5 t
   rwa [mO] at this
  have hcount : ((List.range ops.size).filter fun j => !(listed.setIfInBounds i true).getD j false).length ≤ fuel:=by
   have hmem : i ∈ (List.range ops.size).filter fun i => !listed.getD i false:=by
    rw [List.mem_filter]
    exact ⟨by simpa using hisz,by simp [hni]⟩
   have hle : ((List.range ops.size).filter fun j => !(listed.setIfInBounds i true).getD j false).length < ((List.range ops.size).filter fun j => !listed.getD j false).length:=by
    have hsub : ((List.range ops.size).filter fun j => !(listed.setIfInBounds i true).getD j false) = ((List.range ops.size).filter fun j => !listed.getD j false).filter (fun j=>j != i):=by
     rw [List.filter_filter]
     apply List.filter_congr
     intro j hj
     by_cases e : j = i
     ·subst e; simp [show j < listed.size by omega]
     ·simp [Array.getElem?_setIfInBounds_ne (Ne.symm e),e]
    rw [hsub]
    exact List.length_filter_lt_length_iff_exists.2 ⟨i,hmem,by simp⟩
   omega
  have hS' : ∀ j,S (listed.setIfInBounds i true) j ↔ (j = i ∨ S listed j):=fun j=>dSi (by omega)
  by_cases hmk : bU C.P o.op = .makes
  ·
   have hqi : q ≤ i:=by
    rcases Nat.lt_or_ge i q with h | h
    ·exact absurd (hmkq i o ho hmk h) hnS
    ·exact h
   have hg:=(dR T.ok ho).2.1 hmk
   have hbn:=h7 i o ho hmk hnS
   have hst1:=hst.made hmk
   have hext : Ext ρ' (mG ρ' (idp C ops p0 i) ⟨w.heap.size,0,0,none⟩):=by
    intro x L hx
    by_cases e : x = idp C ops p0 i
    ·subst e; rw [hbn] at hx; cases hx
    ·rw [aU _ _ e]; exact hx
   have hE0 : dW C o (idp C ops p0 i) (TS ops V (E 0) listed ops.size) (Hh i) = some (V i,Hh (i + 1)):=by
    rw [← hst1]
    refine aFb fun x hx=>aFu fun t ht=>hlook t ?_
    unfold Oper.looksAt
    refine List.mem_append_left _ (List.mem_filterMap.2 ⟨x,by simpa using hx, ?_⟩)
    rw [ht]
   obtain ⟨ob,x0,v',m1,m2,m3,m4⟩:=dZw (w:=w) h3 hE0 hbn
   have hidlt:=cHp (p0:=p0) ho hmk
   have H2:=h2.early hbn (by have:=h2.nx; simp only [GX] at this; omega) x0
   unfold wpOp
   simp only [ho]
   rw [if_pos (by simp [Region.wanted,hg])]
   refine .inl ?_
   unfold Oper.wp
   rw [m1]
   show wpAny C.P .any ops Q fuel (listed.setIfInBounds i true) (a.put o.dst v') (w.alloc x0)
   have hEarly : ∀ j,jQ C ops (listed.setIfInBounds i true) q j → j = i ∨ jQ C ops listed q j:=by
    rintro j ⟨oj,e1,e2,e3,e4⟩
    rcases (hS' j).1 e3 with e | e
    ·exact .inl e
    ·exact .inr ⟨oj,e1,e2,e,e4⟩
   have hRlt : ∀ j,jQ C ops listed q j → R j < w.heap.size:=fun j hj=>h2.sz.2 _ (.inr ⟨j,hj,rfl⟩)
   have hjne : ∀ j,jQ C ops listed q j → j ≠ i:=by
    rintro j ⟨oj,e1,e2,e3,e4⟩ e
    subst e; exact hnS e3
   refine ih _ _ _ ⟨by simpa using hsz,hdown',q,hq,hcand,fun j oj hj haj => ?_,mG ρ' (idp C ops p0 i) ⟨w.heap.size,0,0,none⟩,fun j=>if j = i then w.heap.size else R j, ?_, ?_,hTS _ _ hext m4, ?_,by rw [mD]; exact h5,by rw [iU]; exact h6, ?_, ?_, ?_⟩ hcount
   ·rw [hS' j,hgap j oj hj haj]
    constructor
    ·exact .inr
    ·rintro (h | h)
     ·subst h; rw [ho] at hj; cases hj; rw [hmk] at haj; cases haj
     ·exact h
   ·refine h1.trans ⟨hext,fun b L hb => ?_⟩
    by_cases e : b = idp C ops p0 i
    ·right
     rw [e]
     unfold idp
     rw [dM]
     omega
    ·rw [aU _ _ e] at hb; exact .inl hb
   ·refine H2.weak rfl ?_ (Nat.le_refl _) rfl
    rintro k (hk | ⟨j,hj,hjk⟩)
    ·exact .inl (.inl hk)
    ·rcases hEarly j hj with rfl | hj'
     ·right; simpa using hjk.symm
     ·left; right
      refine ⟨j,hj', ?_⟩
      simpa [hjne j hj'] using hjk
   ·exact h4.trans (dB (G:=G) ⟨h2.sz.1,fun k hk=>h2.sz.2 k (.inl hk)⟩ _)
   ·intro j oj hj hmj hSj
    have hji : j ≠ i:=fun e=>hSj ((hS' j).2 (.inl e))
    rw [aU _ _ (eBn hj hmj ho hmk hji)]
    exact h7 j oj hj hmj fun h=>hSj ((hS' j).2 (.inr h))
   ·intro j hj
    rcases hEarly j hj with rfl | hj'
    ·refine ⟨by simp [bW],by simp; exact h2.sz.1, ?_,x0,ob, ?_,m2.mono hext,m3⟩
     ·simp only [if_true]
      intro hx
      have:=h2.sz.2 _ (.inl hx)
      omega
     ·simp only [if_true]
      show (w.heap.push _)[w.heap.size]? = _
      simp
    ·have hM:=h8 j hj'
     obtain ⟨x1,ob1,r1,r2,r3⟩:=hM.row
     have hji:=hjne j hj'
     refine ⟨?_,by simp [hji]; exact hM.low,by simp [hji]; exact hM.ex,x1,ob1, ?_,r2.mono hext,r3⟩
     ·simp only [hji,if_false]; exact hext _ _ hM.name
     ·simp only [hji,if_false]
      rw [Below.heap_alloc _ _ _ (hRlt j hj')]
      exact r1
   ·intro j j' hj hj' he
    rcases hEarly j hj with rfl | hj1
    ·rcases hEarly j' hj' with rfl | hj1'
     ·rfl
     ·simp only [if_true,hjne j' hj1',if_false] at he
      have:=hRlt j' hj1'
      omega
    ·rcases hEarly j' hj' with rfl | hj1'
     ·simp only [if_true,hjne j hj1,if_false] at he
      have:=hRlt j hj1
      omega
     ·simp only [hjne j hj1,hjne j' hj1',if_false] at he
      exact h9 j j' hj1 hj1' he
  ·
   have hstep : ∃ q1 q2,q ≤ q1 ∧ q1 ≤ ops.size ∧ q2 ≤ ops.size ∧ q1 ≤ q2 ∧ eHa C ops q2 ∧ HR (GX G N C ops listed R q1) ρ' (Hh q1) w ∧
     bA C rec ops o (TS ops V (E 0) listed ops.size) (Hh q1) = some (V i,Hh q2) ∧
     (∀ j oj,ops[j]? = some oj → bU C.P oj.op = .acts → (j < q2 ↔ S (listed.setIfInBounds i true) j)) ∧
     (∀ j,jQ C ops (listed.setIfInBounds i true) q2 j → jQ C ops listed q1 j):=by
    rw [show bA C rec ops o (TS ops V (E 0) listed ops.size) = bA C rec ops o (E i) from funext fun h=>aUq hlook]
    by_cases ha : bU C.P o.op = .acts
    ·have hqi : q ≤ i:=by
      rcases Nat.lt_or_ge i q with h | h
      ·exact absurd ((hgap i o ho ha).1 h) hnS
      ·exact h
     refine ⟨i,i + 1,hqi,by omega,by omega,by omega,.inr ⟨i,o,ho,ha,rfl⟩, ?_,hst.step hmk,fun j oj hj haj => ?_, ?_⟩
     ·refine aUh (G:=G) T h8 h9 i hqi (by omega) (fun j oj hj hqj hji=>⟨fun haj => ?_,fun hmj => ?_⟩) h2
      ·rcases (dR T.ok ho).2.2 j oj hji hj with h | ⟨_,h⟩
       ·have:=(hgap j oj hj haj).2 (hpre j h); omega
       ·exact absurd ⟨.inl haj,ha⟩ h
      ·rcases (dR T.ok ho).2.2 j oj hji hj with h | ⟨_,h⟩
       ·exact hpre j h
       ·exact absurd ⟨.inr hmj,ha⟩ h
     ·rw [hS' j]
      constructor
      ·intro hlt'
       by_cases e : j = i
       ·exact .inl e
       ·right
        rcases (dR T.ok ho).2.2 j oj (by omega) hj with h | ⟨_,h⟩
        ·exact hpre j h
        ·exact absurd ⟨.inl haj,ha⟩ h
      ·rintro (h | h)
       ·omega
       ·rcases Nat.lt_or_ge i j with hij | hij
        ·rcases (dR T.ok hj).2.2 i o hij ho with h' | ⟨_,h'⟩
         ·exact absurd (hdown i j h' h) hnS
         ·exact absurd ⟨.inl ha,haj⟩ h'
        ·omega
     ·rintro j ⟨oj,e1,e2,e3,e4⟩
      rcases (hS' j).1 e3 with e | e
      ·omega
      ·exact ⟨oj,e1,e2,e,by omega⟩
    ·refine ⟨q,q,Nat.le_refl _,hq,hq,Nat.le_refl _,hcand,h2,T.value ho ha hmk hcand hgap hnS hdown hpre,fun j oj hj haj => ?_, ?_⟩
     ·rw [hS' j,hgap j oj hj haj]
      constructor
      ·exact .inr
      ·rintro (h | h)
       ·subst h; rw [ho] at hj; cases hj; exact absurd haj ha
       ·exact h
     ·rintro j ⟨oj,e1,e2,e3,e4⟩
      rcases (hS' j).1 e3 with e | e
      ·subst e; rw [ho] at e1; cases e1; exact absurd e2 hmk
      ·exact ⟨oj,e1,e2,e,e4⟩
   obtain ⟨q1,q2,k1,k2,k2',k12,k3,k4,k5,k6,k7⟩:=hstep
   refine xN (wS K k4 h3 k5) rfl ho k4 fun ρ2 w2 v2 e1 e2 e3 e4 => ?_
   have hEq : ∀ j,jQ C ops listed q1 j → jQ C ops listed q j:=by
    rintro j ⟨oj,f1,f2,f3,f4⟩
    exact ⟨oj,f1,f2,f3,by omega⟩
   refine ih _ _ _ ⟨by simpa using hsz,hdown',q2,k2',k3,k6, ρ2,R, ?_, ?_,hTS _ _ e1.ext e2, ?_,by rw [mD]; exact h5,by rw [iU]; exact h6, ?_, ?_, ?_⟩ hcount
   ·refine h1.trans ⟨e1.ext,fun b L hb=>(e1.new b L hb).imp id fun h => ?_⟩
    simp only [GX] at h
    omega
   ·refine e3.weak rfl ?_ (Nat.le_refl _) rfl
    rintro k (hk | ⟨j,hj,hjk⟩)
    ·exact .inl hk
    ·exact .inr ⟨j,k7 j hj,hjk⟩
   ·exact h4.trans ⟨e4.low,fun k hk=>e4.ex k (.inl hk)⟩
   ·intro j oj hj hmj hSj
    have hn:=h7 j oj hj hmj fun h=>hSj ((hS' j).2 (.inr h))
    cases hr : ρ2 (idp C ops p0 j) with
    | none=>rfl
    | some L =>
     rcases e1.new _ _ hr with h | h
     ·rw [hn] at h; cases h
     ·have:=cHp (p0:=p0) hj hmj
      simp only [GX] at h
      omega
   ·intro j hj
    have hj1:=k7 j hj
    have hM:=h8 j (hEq j hj1)
    obtain ⟨x1,ob1,r1,r2,r3⟩:=hM.row
    exact ⟨e1.ext _ _ hM.name,hM.low,hM.ex,x1,ob1,by rw [e4.ex _ (.inr ⟨j,hj1,rfl⟩)]; exact r1,r2.mono e1.ext,r3⟩
   ·intro j j' hj hj' he
    exact h9 j j' (hEq j (k7 j hj)) (hEq j' (k7 j' hj')) he
theorem aTv {DD : List Deferred} (K : OkC C rec) {k : Dd.K} {r : DV × Hp} {env : aZ} {h : Hp} {ρ : Ren} {a : Act} {w : World} {Q : Exit → Act → World → Prop}
  (hok : eV C.P ops = true) (hp : iR C rec nt ops k env h = some r) (H : HR G ρ h w) (he : EnvR ρ env a) (hnt : nt ≤ a.tmps.size) (hd : a.defers = DD)
  (hQ : ∀ ρ' env' h' a' w',Ex G ρ ρ' → HR G ρ' h' w' → EnvR ρ' env' a' → Kp G w w' → nt ≤ a'.tmps.size → a'.defers = DD → k env' h' = some r → Q .normal a' w') :
  wpAny C.P .any ops Q ops.size (Array.replicate ops.size false) a { w with drawn:=w.drawn + 1 }:=by
 obtain ⟨E,Hh,V,e1,e2,e3,e4⟩:=vJ (p0:=h.next) ops.toList 0 0 false [] _ env _ r hp (by simp) (fun _=>⟨_,_,rfl⟩)
 simp only [Nat.zero_add,Array.length_toList,Nat.sub_zero] at e3 e4
 have T : Tr1 C rec ops nt h.next E Hh V:=⟨hok,fun p o ho=>by
  have:=(e4 p o (Nat.zero_le _) (by
   rcases Nat.lt_or_ge p ops.size with h | h
   ·exact h
   ·simp [Array.getElem?_eq_none h] at ho) ho).1
  rw [← e2] at this
  exact this⟩
 obtain ⟨n1,n2⟩:=tR (cF C.P ops.toList) h
 have hNN : (resv (cF C.P ops.toList) h).next.toNat = h.next.toNat + cF C.P ops.toList:=by rw [n1,dM]
 refine (cIa (G:=G) K T rfl H.nx (ρ := ρ) (w0:=w) (fun ρ' a' w' h1 h2 h3 h4 h5 h6=>hQ ρ' _ _ a' w' h1 h2 h3 h4 h5 h6 e3) ops.size _ a _ ?_ ?_)
 ·have hno : ∀ j,¬ S (Array.replicate ops.size false) j:=by
   intro j hj
   unfold S at hj
   simp [Array.getElem?_replicate] at hj
   split at hj <;> simp at hj
  have hnoE : ∀ j,¬ jQ C ops (Array.replicate ops.size false) 0 j:=by
   rintro j ⟨oj,_,_,h3,_⟩
   exact hno j h3
  refine ⟨by simp,fun j x _ hx=>absurd hx (hno x),0,Nat.zero_le _,.inl rfl,fun j oj hj ha=>⟨fun h=>by omega,fun h=>absurd h (hno j)⟩, ρ,fun _=>0,Ex.refl G ρ, ?_, ?_, ?_,hnt,hd, ?_,fun j hj=>absurd hj (hnoE j),fun j j' hj=>absurd hj (hnoE j)⟩
  ·rw [e2]
   have:=(H.reserve (cF C.P ops.toList)).congr (w':={ w with drawn:=w.drawn + 1 }) rfl
   rw [hNN] at this
   refine this.weak rfl ?_ (Nat.le_refl _) rfl
   rintro k (hk | ⟨j,hj,_⟩)
   ·exact hk
   ·exact absurd hj (hnoE j)
  ·have hT : ∀ p,TS ops V (E 0) (Array.replicate ops.size false) p = E 0:=by
    intro p
    induction p with
    | zero=>rfl
    | succ p ih =>
     simp only [TS,ih]
     split
     ·rename_i o ho
      rw [if_neg (show ¬ (Array.replicate ops.size false).getD p false = true from hno p)]
     ·rfl
   intro t
   rw [hT,e1]
   exact he t
  ·exact (Kp.refl G w).drew
  ·intro j oj hj hmj _
   cases hr : ρ (idp C ops h.next j) with
   | none=>rfl
   | some L =>
    have h1:=H.lt _ _ hr
    unfold idp at h1
    rw [dM] at h1
    omega
 ·have:=List.length_filter_le (fun i => !(Array.replicate ops.size false).getD i false) (List.range ops.size)
  simpa using this
theorem bHb {DD : List Deferred} (K : OkC C rec) (hm : C.P.follows .mixedOrders = true) {id : Nat} {k : Dd.K} {r : DV × Hp} {env : aZ} {h : Hp} {ρ : Ren} {a : Act} {w : World} {Q : Exit → Act → World → Prop}
  (hok : eV C.P ops = true) (hp : iR C rec nt ops k env h = some r) (H : HR G ρ h w) (he : EnvR ρ env a) (hnt : nt ≤ a.tmps.size) (hd : a.defers = DD)
  (hQ : ∀ ρ' env' h' a' w',Ex G ρ ρ' → HR G ρ' h' w' → EnvR ρ' env' a' → Kp G w w' → nt ≤ a'.tmps.size → a'.defers = DD → k env' h' = some r → Q .normal a' w') :
  (Code.region id ops true).wp C.P Q a w :=
 wp_region_any hm (aTv K hok hp H he hnt hd hQ)
end
end Go.Dd

namespace Go.Dd
open Go.RowKit (Below)
section
variable {C : Cfg} {G : Gd} {rec : FuncId → List DV → Hp → aH} {nt n : Nat}
def St (DD : List Deferred) (G : Gd) (nt : Nat) (ρ : Ren) (w0 : World) (k : K) (r : DV × Hp) (a : Act) (w : World) : Prop :=
 ∃ ρ' env h,Ex G ρ ρ' ∧ HR G ρ' h w ∧ EnvR ρ' env a ∧ Kp G w0 w ∧ nt ≤ a.tmps.size ∧ a.defers = DD ∧ k env h = some r
def QQ (DD : List Deferred) (G : Gd) (nt : Nat) (ρ : Ren) (w0 : World) (X : Nat → K) (kr k : K) (r : DV × Hp) : Exit → Act → World → Prop
 | .normal,a,w=>St DD G nt ρ w0 k r a w
 | .exit id,a,w=>St DD G nt ρ w0 (X id) r a w
 | .ret,a,w=>St DD G nt ρ w0 kr r a w
 | _,_,_=>False
theorem bHm {DD : List Deferred} (K : OkC C rec) (hm : C.P.follows .mixedOrders = true) {ρ : Ren} {w0 : World} {r : DV × Hp} : ∀ (c : Code) (X : Nat → Dd.K) (kr k : Dd.K) (a : Act) (w : World),
  St DD G nt ρ w0 (aW C rec nt n c X kr k) r a w → c.wp C.P (QQ DD G nt ρ w0 X kr k r) a w:=by
 intro c
 induction c with
 | skip=>intro X kr k a w h; exact wp_skip h
 | region id ops dr =>
  intro X kr k a w h
  obtain ⟨ρ',env,hp,h1,h2,h3,h4,h5,h6,h7⟩:=h
  change (Bool.rec (motive:=fun _=>Dd.K) (fY C rec nt ops ops.toList k) (Bool.rec (motive:=fun _=>Dd.K) bY (iR C rec nt ops k) (eV C.P ops)) dr) env hp = some r at h7
  cases dr with
  | true =>
   dsimp only at h7
   cases hok : eV C.P ops with
   | false=>rw [hok] at h7; cases h7
   | true =>
    rw [hok] at h7
    exact bHb K hm hok h7 h2 h3 h5 h6 fun ρ2 env2 h2' a2 w2 e1 e2 e3 e4 e5 e6 e7=>⟨ρ2,env2,h2',h1.trans e1,e2,e3,h4.trans e4,e5,e6,e7⟩
  | false =>
   simp only [cond_false] at h7
   obtain ⟨env',h',hr,hk⟩:=nL ops.toList k env hp r h7
   refine wp_region ?_
   have:=aPs (Q:=QQ DD G nt ρ w0 X kr k r) K ops.toList 0 ρ' env hp a w (by simp) hr h2 h3 h5 h6 fun ρ2 a2 w2 e1 e2 e3 e4 e5 e6=>⟨ρ2,env',h',h1.trans e1,e2,e3,h4.trans e4,e5,e6,hk⟩
   rw [List.range_eq_range']
   simpa using this
 | seq x y ihx ihy =>
  intro X kr k a w h
  refine wp_seq (wp_mono (ihx X kr (aW C rec nt n y X kr k) a w h) fun e a' w' hq => ?_)
  cases e with
  | normal=>exact ihy X kr k a' w' hq
  | exit id=>exact hq
  | ret=>exact hq
  | goto l=>exact hq
  | panic ch=>exact hq
  | outgrown=>exact hq
 | cond c x y ihx ihy =>
  intro X kr k a w h
  obtain ⟨ρ',env,hp,h1,h2,h3,h4,h5,h6,h7⟩:=h
  change aR (opr env c) (aW C rec nt n x X kr k env hp) (aW C rec nt n y X kr k env hp) = some r at h7
  have hc:=bD h3 c
  rw [oL] at h7
  split at h7 <;> (try (cases h7; done))
  ·rename_i hcb
   rw [hcb] at hc
   generalize hcv : a.eval c = cv at hc
   cases hc
   exact wp_cond_true hcv (ihx X kr k a w ⟨ρ',env,hp,h1,h2,h3,h4,h5,h6,h7⟩)
  ·rename_i hcb
   rw [hcb] at hc
   generalize hcv : a.eval c = cv at hc
   cases hc
   exact wp_cond_false hcv (ihy X kr k a w ⟨ρ',env,hp,h1,h2,h3,h4,h5,h6,h7⟩)
 | block id x ih =>
  intro X kr k a w h
  refine wp_block (wp_mono (ih (fun j=>bif Nat.beq j id then k else X j) kr k a w h) fun e a' w' hq => ?_)
  cases e with
  | normal=>exact hq
  | exit id' =>
   simp only [QQ] at hq
   simp only [Exit.inBlock,QQ]
   split
   ·rename_i e
    subst e
    have hb : Nat.beq id' id' = true:=Nat.beq_refl id'
    rw [hb] at hq
    exact hq
   ·rename_i e
    have : Nat.beq id' id = false:=by
     cases hb : Nat.beq id' id with
     | false=>rfl
     | true=>exact absurd (Nat.eq_of_beq_eq_true hb) e
    rw [this] at hq
    exact hq
  | ret=>exact hq
  | goto l=>exact hq
  | panic ch=>exact hq
  | outgrown=>exact hq
 | loop x ih =>
  intro X kr k a w h
  have key : ∀ (m : Nat) (a : Act) (w : World),St DD G nt ρ w0 (aM (fun kk=>aW C rec nt n x X kr kk) m) r a w → Code.rounds C.P x (QQ DD G nt ρ w0 X kr k r) m a w:=by
   intro m
   induction m with
   | zero =>
    rintro a w ⟨ρ',env,hp,h1,h2,h3,h4,h5,h6,h7⟩
    cases h7
   | succ m ihm =>
    intro a w hs
    rw [rounds_succ]
    refine wp_mono (ih X kr (aM (fun kk=>aW C rec nt n x X kr kk) m) a w hs) fun e a' w' hq => ?_
    cases e with
    | normal=>exact ihm a' w' hq
    | exit id=>exact hq
    | ret=>exact hq
    | goto l=>exact hq
    | panic ch=>exact hq
    | outgrown=>exact hq
  exact wp_loop_rounds n (key n a w h)
 | rangeFunc f ps x y ihx ihy =>
  rintro X kr k a w ⟨ρ',env,hp,h1,h2,h3,h4,h5,h6,h7⟩
  cases h7
 | exit id=>intro X kr k a w h; exact wp_exit h
 | scope x ih =>
  intro X kr k a w h
  refine wp_scope_straight (wp_mono (ih X kr k a w h) fun e a' w' hq => ?_)
  cases e with
  | goto l=>exact hq
  | normal=>exact hq
  | exit id=>exact hq
  | ret=>exact hq
  | panic ch=>exact hq
  | outgrown=>exact hq
 | label l=>intro X kr k a w h; exact wp_label h
 | goto l =>
  rintro X kr k a w ⟨ρ',env,hp,h1,h2,h3,h4,h5,h6,h7⟩
  cases h7
 | ret=>intro X kr k a w h; exact wp_ret h
 | refuse why =>
  rintro X kr k a w ⟨ρ',env,hp,h1,h2,h3,h4,h5,h6,h7⟩
  cases h7
def aHs (tmps : Array Value) (rv : ResultVar) : Sem Value :=
 match rv with
 | .tmp t=>pure (tmps.getD t undef)
 | .cell q t=>do loadVar t (← asAddr (tmps.getD q undef))
theorem qN (fn : Func) (tmps : Array Value) : results fn tmps = (do
  let vs ← fn.results.mapM (aHs tmps)
  pure (if h : vs.size = 1 then vs[0] else .tuple vs)):=by
 unfold results
 congr 2
theorem cPk {ρ : Ren} {w : World} {h : Hp} {x : DV} {x' : Value} {t : TypeId} {k : DV → aH} {r : DV × Hp} (H : HR G ρ h w) (hx : VR ρ x x') (hr : aFg C t x h k = some r) :
  ∃ v v',(do loadVar t (← asAddr x') : Sem Value).run C.P w = .ok v' w ∧ VR ρ v v' ∧ k v = some r:=by
 unfold aFg at hr
 split at hr <;> (try (cases hr; done))
 rename_i d i ht hi
 obtain ⟨v,h',hl,hk⟩:=cS hr
 have hconv : ∀ b o,x = .p b o → (Instr.loadAt t x') = (do loadVar t (← asAddr x')):=by
  rintro b o rfl
  cases hx
  simp [Instr.loadAt,Instr.sureAddr,asAddr]
 cases hd : kA d with
 | true =>
  rw [hd] at hl
  simp only [cond_true] at hl
  rw [eH] at hl
  split at hl <;> (try (cases hl; done))
  rename_i b o
  split at hl <;> (try (cases hl; done))
  rename_i cs hc
  simp only [bB,bN] at hl
  obtain ⟨rfl,_⟩:=hl
  cases hx with
  | p _ _ L hL =>
   obtain ⟨c1,c2,_,vs,c4,c5,c6⟩:=dO H hc hL
   have hrun:=cK (P:=C.P) vs rfl c6
   rw [c5] at hrun
   refine ⟨_,.agg vs.toArray, ?_,.a cs vs.toArray (by simpa using c4),hk⟩
   simp only [asAddr,Sem.run_bind,Sem.run_pure,Result.andThen_ok,loadVar,rA ht,hd,if_true,rS hi,hrun]
 | false =>
  rw [hd] at hl
  simp only [cond_false] at hl
  rw [cO] at hl
  split at hl <;> (try (cases hl; done))
  rename_i b o
  split at hl <;> (try (cases hl; done))
  rename_i u' hc
  simp only [bB,bN] at hl
  obtain ⟨rfl,_⟩:=hl
  cases hx with
  | p _ _ L hL =>
   rw [dD] at hc
   rw [cQ] at hc
   simp only [nthD_eq] at hc
   split at hc <;> (try (cases hc; done))
   rename_i l hl
   split at hl <;> (try (cases hl; done))
   rename_i kd l0 hb
   simp only [bB] at hl
   subst hl
   split at hc <;> (try (cases hc; done))
   rename_i u0 hu
   split at hc <;> (try (cases hc; done))
   rename_i ho
   simp only [bB] at hc
   subst hc
   obtain ⟨v',h5,h6⟩:=H.cell b kd l0 L o u0 hb hL hu ho
   refine ⟨_,v', ?_,h6,hk⟩
   simp only [asAddr,Sem.run_bind,Sem.run_pure,Result.andThen_ok,loadVar,rA ht,hd,Bool.false_eq_true,if_false,run_load,h5]
theorem zQ {ρ : Ren} {w : World} {h : Hp} {env : aZ} {a : Act} (H : HR G ρ h w) (he : EnvR ρ env a) {r : DV × Hp} : ∀ (l : List ResultVar) (k : List DV → aH),bFg C env h l k = some r →
  ∃ vs vs',(l.mapM (aHs a.tmps)).run C.P w = .ok vs' w ∧ VRs ρ vs vs' ∧ k vs = some r
 | [],k,hr=>⟨[],[],by simp,.nil,hr⟩
 | .tmp t :: l,k,hr=>by
  obtain ⟨vs,vs',h1,h2,h3⟩:=zQ H he l (fun vs=>k (env t :: vs)) hr
  refine ⟨env t :: vs,a.tmps.getD t undef :: vs', ?_,.cons _ _ _ _ (he t) h2,h3⟩
  simp only [List.mapM_cons,Sem.run_bind,aHs,Result.andThen_ok,h1,Sem.run_pure]
 | .cell q t :: l,k,hr=>by
  obtain ⟨v,v',h1,h2,h3⟩:=cPk (x':=a.tmps.getD q undef) H (he q) hr
  obtain ⟨vs,vs',h4,h5,h6⟩:=zQ H he l (fun vs=>k (v :: vs)) h3
  refine ⟨v :: vs,v' :: vs', ?_,.cons _ _ _ _ h2 h5,h6⟩
  simp only [List.mapM_cons,Sem.run_bind,aHs] at h1 ⊢
  simp only [h1,Result.andThen_ok,h4,Sem.run_pure]
theorem aKj {ρ : Ren} {w : World} {h h1 : Hp} {env : aZ} {a : Act} (H : HR G ρ h w) (he : EnvR ρ env a) {fn : Func} {v : DV} (hr : bE C fn env h = some (v,h1)) :
  h1 = h ∧ ∃ v',(results fn a.tmps).run C.P w = .ok v' w ∧ VR ρ v v':=by
 obtain ⟨us,vs',h2,h3,hk⟩:=zQ H he _ _ hr
 unfold cVx at hk
 split at hk
 ·rename_i u
  simp only [bB,bN] at hk
  obtain ⟨rfl,rfl⟩:=hk
  cases h3 with
  | cons _ v' _ l' hv hn =>
   cases hn
   refine ⟨rfl,v', ?_,hv⟩
   rw [qN,Array.mapM_eq_mapM_toList]
   simp only [Sem.run_bind,Sem.run_map,h2,Result.andThen_ok,Sem.run_pure]
   simp
 ·rename_i hne
  simp only [bB,bN] at hk
  obtain ⟨rfl,rfl⟩:=hk
  have hl:=h3.length
  have hne1 : vs'.length ≠ 1:=by
   intro e
   rw [e] at hl
   match us,hl with
   | [x],_=>exact hne x rfl
  refine ⟨rfl,.tuple vs'.toArray, ?_,.t _ _ (by simpa using h3)⟩
  rw [qN,Array.mapM_eq_mapM_toList]
  simp only [Sem.run_bind,Sem.run_map,h2,Result.andThen_ok,Sem.run_pure]
  rw [dif_neg (by simpa using hne1)]
structure POk (P : Program) : Prop where
 mixed : P.follows .mixedOrders = true
 names : ∀ (f : Nat) (fn : Func),P.funcs[f]? = some fn → (fn.name == "runtime.NumGoroutine") = false
theorem xJ (K : OkC C rec) (hP : POk C.P) (n : Nat) (f : FuncId) : jV C.P G f (aI C rec n f):=by
 intro args h v h1 hr ρ w args' H hargs
 unfold aI at hr
 split at hr <;> (try (cases hr; done))
 rename_i fn hf
 split at hr <;> (try (cases hr; done))
 rename_i c hb
 refine .inl ⟨?_, ?_⟩
 ·unfold callFunc
  have hn : ¬ fn.name = "runtime.NumGoroutine" := by simpa using hP.names f fn hf
  simp [hf,hn,hb]
 ·refine calls_of_wp hf hb ?_
  have he : EnvR ρ (aQ args) { tmps:=args' ++ Array.replicate (fn.ntmps - args'.size) undef,defers:=[] }:=by
   intro t
   unfold aQ
   have hlen:=hargs.length
   simp only [Array.length_toList] at hlen
   by_cases ht : t < args.length
   ·have hg : args[t]? = some args[t]:=by simp [ht]
    obtain ⟨v',h2,h3⟩:=hargs.get t _ hg
    simp only [Array.getElem?_toList] at h2
    rw [show args.getD t aT = args[t] by simp [List.getD,hg]]
    have : (args' ++ Array.replicate (fn.ntmps - args'.size) undef).getD t undef = v':=by
     simp [Array.getElem?_append_left (show t < args'.size by omega),h2]
    rw [this]
    exact h3
   ·have hg : args.getD t aT = aT:=by simp [List.getD,List.getElem?_eq_none (Nat.le_of_not_lt ht)]
    rw [hg]
    have : (args' ++ Array.replicate (fn.ntmps - args'.size) undef).getD t undef = undef:=by
     rw [Array.getD_eq_getD_getElem?,Array.getElem?_append_right (by omega)]
     simp only [Array.getElem?_replicate]
     split <;> rfl
    rw [this]
    exact .t [] #[] .nil
  have hst : St [] G fn.ntmps ρ w (aW C rec fn.ntmps n c (fun _=>bY) (bE C fn) (bE C fn)) (v,h1) { tmps:=args' ++ Array.replicate (fn.ntmps - args'.size) undef,defers:=[] } w :=
   ⟨ρ,aQ args,h,Ex.refl G ρ,H,he,Kp.refl G w,by simp; omega,rfl,hr⟩
  refine wp_mono (bHm K hP.mixed c _ _ _ _ _ hst) fun e a' w' hq => ?_
  have hfin : St [] G fn.ntmps ρ w (bE C fn) (v,h1) a' w' → a'.defers = [] ∧ ∃ v',(results fn a'.tmps).run C.P w' = .ok v' w' ∧ bS G ρ w v h1 (.returned v') w':=by
   rintro ⟨ρ',env,h',e1,e2,e3,e4,e5,e6,e7⟩
   obtain ⟨rfl,v',r1,r2⟩:=aKj e2 e3 e7
   exact ⟨e6,v',r1, ρ',v',rfl,e1,r2,e2,e4⟩
  cases e with
  | normal=>exact hfin hq
  | ret=>exact hfin hq
  | exit id =>
   obtain ⟨ρ',env,h',e1,e2,e3,e4,e5,e6,e7⟩:=hq
   cases e7
  | goto l=>exact hq.elim
  | panic ch=>exact hq.elim
  | outgrown=>exact hq.elim
theorem cFe (hP : POk C.P) (hI : ∀ G g F,C.I g = some F → jV C.P G g F) : ∀ (n : Nat) (G : Gd) (f : FuncId),jV C.P G f (fnD C n f)
 | 0,G,f=>fun args h v h1 hr=>by cases hr
 | n + 1,G,f=>xJ (rec:=fnD C n) ⟨hI,fun G g=>cFe hP hI n G g⟩ hP n f
end
end Go.Dd

namespace Go.Dd
open Go.RowKit (Below)
section
variable {C : Cfg} {G : Gd} {rec : FuncId → List DV → Hp → aH} {nt : Nat}
def lC (h : Hp) : Prop:=∀ b o,h.bl.get b = some o → b.toNat < h.next.toNat
theorem HR.isFresh {ρ : Ren} {h : Hp} {w : World} (H : HR G ρ h w) : lC h:=fun b o hb=>by
 obtain ⟨L,hL⟩:=H.dom b o hb
 exact H.lt b L hL
def dC (C : Cfg) (rec : FuncId → List DV → Hp → aH) (nt : Nat) (ops : Array Oper) (bS : aZ → Hp → Prop) : Nat → Array Bool → aZ → Hp → Prop
 | 0,listed,env,h=>Region.ready .any ops listed = [] ∧ bS env h
 | f + 1,listed,env,h=>(Region.ready .any ops listed = [] → bS env h) ∧
   ∀ i ∈ Region.ready .any ops listed,∃ o v h',ops[i]? = some o ∧ cX nt o.dst = true ∧ bA C rec ops o env h = some (v,h') ∧
    dC C rec nt ops bS f (listed.setIfInBounds i true) (bJ env o.dst v) h'
theorem cSc (K : OkC C rec) {ops : Array Oper} {bS : aZ → Hp → Prop} {Q : Exit → Act → World → Prop} : ∀ (fuel : Nat) (listed : Array Bool) (ρ : Ren) (env : aZ) (h : Hp) (a : Act) (w : World),
  dC C rec nt ops bS fuel listed env h → HR G ρ h w → EnvR ρ env a → nt ≤ a.tmps.size → a.defers = [] →
  (∀ ρ' env' h' a' w',bS env' h' → Ex G ρ ρ' → HR G ρ' h' w' → EnvR ρ' env' a' → Kp G w w' → nt ≤ a'.tmps.size → a'.defers = [] → Q .normal a' w') →
  wpAny C.P .any ops Q fuel listed a w
 | 0,listed, ρ,env,h,a,w,hp,H,he,hnt,hd,hQ=>⟨hp.1,hQ ρ env h a w hp.2 (Ex.refl G ρ) H he (Kp.refl G w) hnt hd⟩
 | f + 1,listed, ρ,env,h,a,w,hp,H,he,hnt,hd,hQ=>by
  refine ⟨fun hr=>hQ ρ env h a w (hp.1 hr) (Ex.refl G ρ) H he (Kp.refl G w) hnt hd,fun i hi => ?_⟩
  obtain ⟨o,v,h',ho,hf,hs,hn⟩:=hp.2 i hi
  refine xN (wS K H he hs) rfl ho H fun ρ' w' v' h2 h3 h4 h5 => ?_
  exact cSc K f _ ρ' _ h' _ w' hn h4 (he.put h2.ext h3 hf hnt) (by rw [mD]; exact hnt) (by rw [iU]; exact hd)
   fun ρ2 env2 hh a2 w2 e0 e1 e2 e3 e4 e5 e6=>hQ ρ2 env2 hh a2 w2 e0 (h2.trans e1) e2 e3 (h5.trans e4) e5 e6
def qR (C : Cfg) (rec : FuncId → List DV → Hp → aH) (nt : Nat) : Code → (Nat → aZ → Hp → Prop) → (aZ → Hp → Prop) → (aZ → Hp → Prop) → aZ → Hp → Prop
 | .skip,_,_,N=>N
 | .region _ ops dr,_,_,N=>fun env h=>if dr then (dC C rec nt ops (fun e h=>lC h → N e h) ops.size (Array.replicate ops.size false) env h ∨
    (eV C.P ops = true ∧ ∃ k r,iR C rec nt ops k env h = some r ∧ ∀ env' h',k env' h' = some r → lC h' → N env' h'))
   else ∃ env' h',aCe C rec nt ops ops.toList env h env' h' ∧ (lC h' → N env' h')
 | .seq a b,X,R,N=>qR C rec nt a X R (qR C rec nt b X R N)
 | .cond c a b,X,R,N=>fun env h=>(opr env c = .b true ∧ qR C rec nt a X R N env h) ∨ (opr env c = .b false ∧ qR C rec nt b X R N env h)
 | .block id a,X,R,N=>qR C rec nt a (fun j=>if j = id then N else X j) R N
 | .exit id,X,_,_=>X id
 | .scope a,X,R,N=>qR C rec nt a X R N
 | .ret,_,R,_=>R
 | .loop x,X,R,N=>fun env h=>∃ n kX kr k r,aW C rec nt n (.loop x) kX kr k env h = some r ∧ (∀ id e h',kX id e h' = some r → lC h' → X id e h') ∧ (∀ e h',kr e h' = some r → lC h' → R e h') ∧ (∀ e h',k e h' = some r → lC h' → N e h')
 | _,_,_,_=>fun _ _=>False
def StP (G : Gd) (nt : Nat) (ρ : Ren) (w0 : World) (N : aZ → Hp → Prop) (a : Act) (w : World) : Prop :=
 ∃ ρ' env h,Ex G ρ ρ' ∧ HR G ρ' h w ∧ EnvR ρ' env a ∧ Kp G w0 w ∧ nt ≤ a.tmps.size ∧ a.defers = [] ∧ N env h
def QP (G : Gd) (nt : Nat) (ρ : Ren) (w0 : World) (X : Nat → aZ → Hp → Prop) (R N : aZ → Hp → Prop) : Exit → Act → World → Prop
 | .normal,a,w=>StP G nt ρ w0 N a w
 | .exit id,a,w=>StP G nt ρ w0 (X id) a w
 | .ret,a,w=>StP G nt ρ w0 R a w
 | _,_,_=>False
theorem cXb (K : OkC C rec) (hm : C.P.follows .mixedOrders = true) {ρ : Ren} {w0 : World} : ∀ (c : Code) (X : Nat → aZ → Hp → Prop) (R N : aZ → Hp → Prop) (a : Act) (w : World),
  StP G nt ρ w0 (qR C rec nt c X R N) a w → c.wp C.P (QP G nt ρ w0 X R N) a w:=by
 intro c
 induction c with
 | skip=>intro X R N a w h; exact wp_skip h
 | region id ops dr =>
  intro X R N a w h
  obtain ⟨ρ',env,hp,h1,h2,h3,h4,h5,h6,h7⟩:=h
  cases dr with
  | true =>
   simp only [qR,if_true] at h7
   rcases h7 with h7 | ⟨hok,k,r,h7,h8⟩
   ·refine wp_region_any hm (cSc K ops.size _ ρ' env hp a _ h7 (h2.congr rfl) h3 h5 h6 fun ρ2 env2 h2' a2 w2 e0 e1 e2 e3 e4 e5 e6 => ?_)
    exact ⟨ρ2,env2,h2',h1.trans e1,e2,e3,(h4.trans ((Kp.refl G w).drew)).trans e4,e5,e6,e0 e2.isFresh⟩
   ·exact bHb K hm hok h7 h2 h3 h5 h6 fun ρ2 env2 h2' a2 w2 e1 e2 e3 e4 e5 e6 e7=>⟨ρ2,env2,h2',h1.trans e1,e2,e3,h4.trans e4,e5,e6,h8 _ _ e7 e2.isFresh⟩
  | false =>
   simp only [qR,Bool.false_eq_true,if_false] at h7
   obtain ⟨env',h',hr,hk⟩:=h7
   refine wp_region ?_
   have:=aPs (Q:=QP G nt ρ w0 X R N) K ops.toList 0 ρ' env hp a w (by simp) hr h2 h3 h5 h6 fun ρ2 a2 w2 e1 e2 e3 e4 e5 e6=>⟨ρ2,env',h',h1.trans e1,e2,e3,h4.trans e4,e5,e6,hk e2.isFresh⟩
   rw [List.range_eq_range']
   simpa using this
 | seq x y ihx ihy =>
  intro X R N a w h
  refine wp_seq (wp_mono (ihx X R (qR C rec nt y X R N) a w h) fun e a' w' hq => ?_)
  cases e with
  | normal=>exact ihy X R N a' w' hq
  | exit id=>exact hq
  | ret=>exact hq
  | goto l=>exact hq
  | panic ch=>exact hq
  | outgrown=>exact hq
 | cond c x y ihx ihy =>
  intro X R N a w h
  obtain ⟨ρ',env,hp,h1,h2,h3,h4,h5,h6,h7⟩:=h
  have hc:=bD h3 c
  rcases h7 with ⟨hcb,h7⟩ | ⟨hcb,h7⟩
  ·rw [hcb] at hc
   generalize hcv : a.eval c = cv at hc
   cases hc
   exact wp_cond_true hcv (ihx X R N a w ⟨ρ',env,hp,h1,h2,h3,h4,h5,h6,h7⟩)
  ·rw [hcb] at hc
   generalize hcv : a.eval c = cv at hc
   cases hc
   exact wp_cond_false hcv (ihy X R N a w ⟨ρ',env,hp,h1,h2,h3,h4,h5,h6,h7⟩)
 | block id x ih =>
  intro X R N a w h
  refine wp_block (wp_mono (ih (fun j=>if j = id then N else X j) R N a w h) fun e a' w' hq => ?_)
  cases e with
  | normal=>exact hq
  | exit id' =>
   simp only [QP] at hq
   simp only [Exit.inBlock]
   split
   ·rename_i e
    rw [if_pos e] at hq
    exact hq
   ·rename_i e
    rw [if_neg e] at hq
    exact hq
  | ret=>exact hq
  | goto l=>exact hq
  | panic ch=>exact hq
  | outgrown=>exact hq
 | loop x ih =>
  rintro X R N a w ⟨ρ',env,hp,h1,h2,h3,h4,h5,h6,h7⟩
  obtain ⟨n,kX,kr,k,r,hr,hX,hR,hN⟩:=h7
  refine wp_mono (bHm (n:=n) (DD:=[]) K hm (.loop x) kX kr k a w ⟨ρ',env,hp,h1,h2,h3,h4,h5,h6,hr⟩) fun e a' w' hq => ?_
  cases e with
  | normal=>obtain ⟨ρ2,e2,hh,q1,q2,q3,q4,q5,q6,q7⟩:=hq; exact ⟨ρ2,e2,hh,q1,q2,q3,q4,q5,q6,hN _ _ q7 q2.isFresh⟩
  | exit id=>obtain ⟨ρ2,e2,hh,q1,q2,q3,q4,q5,q6,q7⟩:=hq; exact ⟨ρ2,e2,hh,q1,q2,q3,q4,q5,q6,hX id _ _ q7 q2.isFresh⟩
  | ret=>obtain ⟨ρ2,e2,hh,q1,q2,q3,q4,q5,q6,q7⟩:=hq; exact ⟨ρ2,e2,hh,q1,q2,q3,q4,q5,q6,hR _ _ q7 q2.isFresh⟩
  | goto l=>exact hq.elim
  | panic ch=>exact hq.elim
  | outgrown=>exact hq.elim
 | rangeFunc f ps x y ihx ihy=>rintro X R N a w ⟨ρ',env,hp,h1,h2,h3,h4,h5,h6,h7⟩; exact h7.elim
 | exit id=>intro X R N a w h; exact wp_exit h
 | scope x ih =>
  intro X R N a w h
  refine wp_scope_straight (wp_mono (ih X R N a w h) fun e a' w' hq => ?_)
  cases e with
  | goto l=>exact hq
  | normal=>exact hq
  | exit id=>exact hq
  | ret=>exact hq
  | panic ch=>exact hq
  | outgrown=>exact hq
 | label l=>rintro X R N a w ⟨ρ',env,hp,h1,h2,h3,h4,h5,h6,h7⟩; exact h7.elim
 | goto l=>rintro X R N a w ⟨ρ',env,hp,h1,h2,h3,h4,h5,h6,h7⟩; exact h7.elim
 | ret=>intro X R N a w h; exact wp_ret h
 | refuse why=>rintro X R N a w ⟨ρ',env,hp,h1,h2,h3,h4,h5,h6,h7⟩; exact h7.elim
def Le (h2 h1 : Hp) : Prop:=∀ G ρ w,HR G ρ h2 w → HR G ρ h1 w
theorem bXi (K : OkC C rec) (hP : POk C.P) {f : FuncId} {fn : Func} {c : Code} (hf : C.P.funcs[f]? = some fn) (hb : fn.body = some c) {F : List DV → Hp → aH}
  (hF : ∀ args h v h1,F args h = some (v,h1) → lC h → qR C rec fn.ntmps c (fun _ _ _=>False) (fun env h'=>∃ h2,bE C fn env h' = some (v,h2) ∧ Le h2 h1)
   (fun env h'=>∃ h2,bE C fn env h' = some (v,h2) ∧ Le h2 h1) (aQ args) h) : jV C.P G f F:=by
 intro args h v h1 hr ρ w args' H hargs
 refine .inl ⟨?_, ?_⟩
 ·unfold callFunc
  have hn : ¬ fn.name = "runtime.NumGoroutine" := by simpa using hP.names f fn hf
  simp [hf,hn,hb]
 ·refine calls_of_wp hf hb ?_
  have he : EnvR ρ (aQ args) { tmps:=args' ++ Array.replicate (fn.ntmps - args'.size) undef,defers:=[] }:=by
   intro t
   unfold aQ
   have hlen:=hargs.length
   simp only [Array.length_toList] at hlen
   by_cases ht : t < args.length
   ·have hg : args[t]? = some args[t]:=by simp [ht]
    obtain ⟨v',h2,h3⟩:=hargs.get t _ hg
    simp only [Array.getElem?_toList] at h2
    rw [show args.getD t aT = args[t] by simp [List.getD,hg]]
    have : (args' ++ Array.replicate (fn.ntmps - args'.size) undef).getD t undef = v':=by
     simp [Array.getElem?_append_left (show t < args'.size by omega),h2]
    rw [this]
    exact h3
   ·have hg : args.getD t aT = aT:=by simp [List.getD,List.getElem?_eq_none (Nat.le_of_not_lt ht)]
    rw [hg]
    have : (args' ++ Array.replicate (fn.ntmps - args'.size) undef).getD t undef = undef:=by
     rw [Array.getD_eq_getD_getElem?,Array.getElem?_append_right (by omega)]
     simp only [Array.getElem?_replicate]
     split <;> rfl
    rw [this]
    exact .t [] #[] .nil
  have hst : StP G fn.ntmps ρ w _ { tmps:=args' ++ Array.replicate (fn.ntmps - args'.size) undef,defers:=[] } w :=
   ⟨ρ,aQ args,h,Ex.refl G ρ,H,he,Kp.refl G w,by simp; omega,rfl,hF args h v h1 hr H.isFresh⟩
  refine wp_mono (cXb K hP.mixed c _ _ _ _ _ hst) fun e a' w' hq => ?_
  have hfin : StP G fn.ntmps ρ w (fun env h'=>∃ h2,bE C fn env h' = some (v,h2) ∧ Le h2 h1) a' w' → a'.defers = [] ∧ ∃ v',(results fn a'.tmps).run C.P w' = .ok v' w' ∧ bS G ρ w v h1 (.returned v') w':=by
   rintro ⟨ρ',env,h',e1,e2,e3,e4,e5,e6,h2,e7,e8⟩
   obtain ⟨rfl,v',r1,r2⟩:=aKj e2 e3 e7
   exact ⟨e6,v',r1, ρ',v',rfl,e1,r2,e8 _ _ _ e2,e4⟩
  cases e with
  | normal=>exact hfin hq
  | ret=>exact hfin hq
  | exit id=>obtain ⟨ρ',env,h',e1,e2,e3,e4,e5,e6,e7⟩:=hq; exact e7.elim
  | goto l=>exact hq.elim
  | panic ch=>exact hq.elim
  | outgrown=>exact hq.elim
end
end Go.Dd

namespace Go.Dd
open Go.RowKit (Below)
def Fw (ro : Option Nat) : Fence:={ Fence.wide with round:=ro }
theorem aXp {ro : Option Nat} {n : Nat} {P : Program} {f : FuncId} {args : Array Value} {w : World} {R : Ending → World → Prop} (h : Calls P f args w R) : CallsIn (Fw ro) n P f args w R:=by
 have e : CallsIn Fence.wide n P f args w R:=callsIn_wide.2 h
 exact e
theorem stepsIn_fw {ro : Option Nat} {P : Program} {m m' : Machine} : StepsIn (Machine.fenced P (Fw ro)) P m m' ↔ Steps P m m':=by
 exact stepsIn_wide (P:=P)
def gK (o : Oper) : Bool:=match o.op with
 | .defer _=>false
 | _=>true
section
variable {ro : Option Nat} {n : Nat} {P : Program} {Q : Exit → Act → World → Prop}
theorem cHw {o : Oper} {ρ : Operand → Value} (h : gK o = true) : o.semAt ro ρ = execOp ρ o:=by
 refine Oper.semAt_eq ro ρ o fun c e => ?_
 unfold gK at h
 rw [e] at h
 cases h
theorem eKh {o : Oper} {a : Act} {w : World} {K : Act → World → Prop} (hd : gK o = true) (h : o.wp P a w K Q) : o.wpIn (Fw ro) n P a w K Q:=by
 refine ⟨fun _ _=>trivial, ?_⟩
 show o.uponIn (Fw ro) n P a K Q ((o.semAt ro a.eval).run P w)
 rw [cHw hd]
 unfold Oper.wp at h
 generalize (execOp a.eval o).run P w = r at h
 cases r with
 | ok x w' =>
  cases x <;> first
   | exact h
   | exact h.elim
   | exact ⟨fun e=>(by cases e),aXp h⟩
   | exact ⟨fun e=>(by cases e),fun c cs _=>(let ⟨v,w2,r,s⟩:=h c cs; ⟨v,w2,r,stepsIn_fw.2 s⟩)⟩
 | halt x w'=>cases x <;> exact h
theorem aJq {ops : Array Oper} {i : Nat} {K K' : Act → World → Prop} {a : Act} {w : World} (hd : ∀ o ∈ ops.toList,gK o = true) (hQ : ¬ LetsOut Q) (hK : ∀ a w,K a w → K' a w) (h : wpOp P ops Q i K a w) : wpOpIn (Fw ro) n P ops Q i K' a w:=by
 unfold wpOp at h
 unfold wpOpIn
 cases ho : ops[i]? with
 | none=>rw [ho] at h; exact hK _ _ h
 | some o =>
  rw [ho] at h
  dsimp only at h ⊢
  have hm : o ∈ ops.toList:=by
   have:=Array.mem_of_getElem? ho
   exact Array.mem_toList_iff.2 this
  split
  ·rename_i hw
   rw [if_pos hw] at h
   rcases h with h | h
   ·exact Oper.wpIn_mono hK (eKh (hd o hm) h)
   ·exact absurd h.2 hQ
  ·rename_i hw
   rw [if_neg hw] at h
   exact ⟨fun _ _=>trivial,hK _ _ h⟩
theorem aSi {ops : Array Oper} (hd : ∀ o ∈ ops.toList,gK o = true) (hQ : ¬ LetsOut Q) : ∀ (l : List Nat) (a : Act) (w : World),wpOps P ops Q l a w → wpOpsIn (Fw ro) n P ops Q l a w
 | [],a,w,h=>h
 | i :: l,a,w,h=>by
  rw [wpOps_cons] at h
  rw [wpOpsIn_cons]
  exact aJq hd hQ (aSi hd hQ l) h
theorem aSz {ops : Array Oper} {md : Region.Mode} (hd : ∀ o ∈ ops.toList,gK o = true) (hQ : ¬ LetsOut Q) : ∀ (fuel : Nat) (listed : Array Bool) (a : Act) (w : World),wpAny P md ops Q fuel listed a w → wpAnyIn (Fw ro) n P md ops Q fuel listed a w
 | 0,listed,a,w,h=>h
 | fuel + 1,listed,a,w,h=>⟨h.1,fun i hi=>aJq hd hQ (aSz hd hQ fuel _) (h.2 i hi)⟩
def dZ : Code → Bool
 | .skip=>true
 | .region _ ops _=>ops.toList.all gK
 | .seq x y=>dZ x && dZ y
 | .cond _ x y=>dZ x && dZ y
 | .block _ x=>dZ x
 | .loop x=>dZ x
 | .exit _=>true
 | .ret=>true
 | _=>false
end
section
variable {C : Cfg} {G : Gd} {rec : FuncId → List DV → Hp → aH} {nt n : Nat}
theorem cOv {DD : List Deferred} {ρ : Ren} {w0 : World} {X : Nat → K} {kr k : K} {r : DV × Hp} : ¬ LetsOut (QQ DD G nt ρ w0 X kr k r):=fun ⟨_,_,h⟩=>h
theorem bLl {ro : Option Nat} {N : Nat} {DD : List Deferred} (K : OkC C rec) (hm : C.P.follows .mixedOrders = true) {ρ : Ren} {w0 : World} {r : DV × Hp} : ∀ (c : Code),dZ c = true → ∀ (X : Nat → Dd.K) (kr k : Dd.K) (a : Act) (w : World),
  St DD G nt ρ w0 (aW C rec nt n c X kr k) r a w → c.wpIn (Fw ro) N C.P (QQ DD G nt ρ w0 X kr k r) a w:=by
 intro c
 induction c with
 | skip=>intro _ X kr k a w h; exact wpIn_skip h
 | region id ops dr =>
  intro hpc X kr k a w h
  have hd : ∀ o ∈ ops.toList,gK o = true:=List.all_eq_true.1 hpc
  obtain ⟨ρ',env,hp,h1,h2,h3,h4,h5,h6,h7⟩:=h
  change (Bool.rec (motive:=fun _=>Dd.K) (fY C rec nt ops ops.toList k) (Bool.rec (motive:=fun _=>Dd.K) bY (iR C rec nt ops k) (eV C.P ops)) dr) env hp = some r at h7
  cases dr with
  | true =>
   dsimp only at h7
   cases hok : eV C.P ops with
   | false=>rw [hok] at h7; cases h7
   | true =>
    rw [hok] at h7
    exact wpIn_region_any hm (aSz hd cOv _ _ _ _ (aTv K hok h7 h2 h3 h5 h6 fun ρ2 env2 h2' a2 w2 e1 e2 e3 e4 e5 e6 e7=>⟨ρ2,env2,h2',h1.trans e1,e2,e3,h4.trans e4,e5,e6,e7⟩))
  | false =>
   simp only [cond_false] at h7
   obtain ⟨env',h',hr,hk⟩:=nL ops.toList k env hp r h7
   refine wpIn_region ?_
   have:=aPs (Q:=QQ DD G nt ρ w0 X kr k r) K ops.toList 0 ρ' env hp a w (by simp) hr h2 h3 h5 h6 fun ρ2 a2 w2 e1 e2 e3 e4 e5 e6=>⟨ρ2,env',h',h1.trans e1,e2,e3,h4.trans e4,e5,e6,hk⟩
   rw [List.range_eq_range']
   exact aSi hd cOv _ _ _ (by simpa using this)
 | seq x y ihx ihy =>
  intro hpc X kr k a w h
  simp only [dZ,Bool.and_eq_true] at hpc
  refine wpIn_seq (wpIn_mono (ihx hpc.1 X kr (aW C rec nt n y X kr k) a w h) fun e a' w' hq => ?_)
  cases e with
  | normal=>exact ihy hpc.2 X kr k a' w' hq
  | exit id=>exact hq
  | ret=>exact hq
  | goto l=>exact hq
  | panic ch=>exact hq
  | outgrown=>exact hq
 | cond c x y ihx ihy =>
  intro hpc X kr k a w h
  simp only [dZ,Bool.and_eq_true] at hpc
  obtain ⟨ρ',env,hp,h1,h2,h3,h4,h5,h6,h7⟩:=h
  change aR (opr env c) (aW C rec nt n x X kr k env hp) (aW C rec nt n y X kr k env hp) = some r at h7
  have hc:=bD h3 c
  rw [oL] at h7
  split at h7 <;> (try (cases h7; done))
  ·rename_i hcb
   rw [hcb] at hc
   generalize hcv : a.eval c = cv at hc
   cases hc
   exact wpIn_cond_true hcv (ihx hpc.1 X kr k a w ⟨ρ',env,hp,h1,h2,h3,h4,h5,h6,h7⟩)
  ·rename_i hcb
   rw [hcb] at hc
   generalize hcv : a.eval c = cv at hc
   cases hc
   exact wpIn_cond_false hcv (ihy hpc.2 X kr k a w ⟨ρ',env,hp,h1,h2,h3,h4,h5,h6,h7⟩)
 | block id x ih =>
  intro hpc X kr k a w h
  refine wpIn_block (wpIn_mono (ih hpc (fun j=>bif Nat.beq j id then k else X j) kr k a w h) fun e a' w' hq => ?_)
  cases e with
  | normal=>exact hq
  | exit id' =>
   simp only [QQ] at hq
   simp only [Exit.inBlock,QQ]
   split
   ·rename_i e
    subst e
    have hb : Nat.beq id' id' = true:=Nat.beq_refl id'
    rw [hb] at hq
    exact hq
   ·rename_i e
    have : Nat.beq id' id = false:=by
     cases hb : Nat.beq id' id with
     | false=>rfl
     | true=>exact absurd (Nat.eq_of_beq_eq_true hb) e
    rw [this] at hq
    exact hq
  | ret=>exact hq
  | goto l=>exact hq
  | panic ch=>exact hq
  | outgrown=>exact hq
 | loop x ih =>
  intro hpc X kr k a w h
  have key : ∀ (m : Nat) (a : Act) (w : World),St DD G nt ρ w0 (aM (fun kk=>aW C rec nt n x X kr kk) m) r a w → Code.roundsIn (Fw ro) N C.P x (QQ DD G nt ρ w0 X kr k r) m a w:=by
   intro m
   induction m with
   | zero =>
    rintro a w ⟨ρ',env,hp,h1,h2,h3,h4,h5,h6,h7⟩
    cases h7
   | succ m ihm =>
    intro a w hs
    rw [roundsIn_succ]
    refine wpIn_mono (ih hpc X kr (aM (fun kk=>aW C rec nt n x X kr kk) m) a w hs) fun e a' w' hq => ?_
    cases e with
    | normal=>exact ihm a' w' hq
    | exit id=>exact hq
    | ret=>exact hq
    | goto l=>exact hq
    | panic ch=>exact hq
    | outgrown=>exact hq
  exact wpIn_loop_rounds n (key n a w h)
 | exit id=>intro _ X kr k a w h; exact wpIn_exit h
 | ret=>intro _ X kr k a w h; exact wpIn_ret h
 | _=>intro hpc; cases hpc
end
end Go.Dd

namespace Go.Dd
open Go.RowKit (Below)
section
variable {G G' : Gd} {ρ : Ren} {h : Hp} {w : World}
theorem HR.earlyO (H : HR G ρ h w) {b : Pos} (hb : ρ b = none) (hlt : b.toNat < h.next.toNat) (ob : Obj) :
  HR ⟨G.B,fun k=>G.X k ∨ k = w.heap.size,G.N,G.W,G.ok⟩ (mG ρ b ⟨w.heap.size,0,0,none⟩) h (w.alloc ob):=by
 have hext : Ext ρ (mG ρ b ⟨w.heap.size,0,0,none⟩):=by
  intro x L hx
  by_cases e : x = b
  ·subst e; rw [hb] at hx; cases hx
  ·rw [aU _ _ e]; exact hx
 have hrow : h.bl.get b = none:=by
  cases hr : h.bl.get b with
  | none=>rfl
  | some o=>obtain ⟨L,hL⟩:=H.dom b o hr; rw [hb] at hL; cases hL
 have hne : ∀ x o,h.bl.get x = some o → x ≠ b:=fun x o hx e=>by subst e; rw [hrow] at hx; cases hx
 have hcl : ∀ {x a},Claims (mG ρ b ⟨w.heap.size,0,0,none⟩) h x a → Claims ρ h x a:=by
  rintro x a ⟨k,l,L,h1,h2,h3⟩
  rw [aU _ _ (hne x _ h1)] at h2
  exact ⟨k,l,L,h1,h2,h3⟩
 have hblt : ∀ {x a},Claims ρ h x a → a.block < w.heap.size:=fun hc=>by
  obtain ⟨v,hv⟩:=H.lt_cell hc
  exact eA hv
 refine { gl:=fun k hk=>by rw [Below.heap_alloc _ _ _ (Nat.lt_of_lt_of_le hk H.sz.1)]; exact H.gl k hk,sz:=⟨by have:=H.sz.1; simp; omega,fun k hk => ?_⟩,nx:=H.nx,ro:=fun x a h1 h2=>H.ro x a (hcl h1) h2,dom := ?_,lt := ?_,cell := ?_,spare := ?_,free := ?_,inj := ?_,ex := ?_,grone:=H.grone,itr := ?_,itj := ?_ }
 ·rcases hk with hk | hk
  ·have:=H.sz.2 k hk; simp; omega
  ·simp; omega
 ·intro x o hx
  obtain ⟨L,hL⟩:=H.dom x o hx
  exact ⟨L,hext _ _ hL⟩
 ·intro x L hx
  by_cases e : x = b
  ·subst e; exact hlt
  ·rw [aU _ _ e] at hx; exact H.lt x L hx
 ·intro x k l L i v hx hL hi hv
  rw [aU _ _ (hne x _ hx)] at hL
  obtain ⟨v',h5,h6⟩:=H.cell x k l L i v hx hL hi hv
  exact ⟨v',by rw [dP (eA h5)]; exact h5,h6.mono hext⟩
 ·intro x l L es j hx hL hj
  rw [aU _ _ (hne x _ hx)] at hL
  obtain ⟨v',h5⟩:=H.spare x l L es j hx hL hj
  exact ⟨v',by rw [dP (eA h5)]; exact h5⟩
 ·intro x a hc hr
  have hlt':=hblt (hcl hc)
  obtain ⟨h3,h4,h5⟩:=H.free x a (hcl hc) hr
  refine ⟨by rw [gJ (by omega)]; exact h3,h4, ?_⟩
  rintro (hk | hk)
  ·exact h5 hk
  ·omega
 ·intro x x' a hc hc' hr
  exact H.inj x x' a (hcl hc) (hcl hc') hr
 ·intro x l L hx hL
  have : x ≠ b:=by rcases hx with hx | hx <;> exact hne x _ hx
  rw [aU _ _ this] at hL
  exact H.ex x l L hx hL
 ·intro x o L h0 hx hL
  rw [aU _ _ (hne x _ hx)] at hL
  obtain ⟨⟨h1,h1'⟩,h2,bs,h3,h4⟩:=H.itr x o L h0 hx hL
  have hlt' : L.bl < w.heap.size:=by
   rcases Nat.lt_or_ge L.bl w.heap.size with h | h
   ·exact h
   ·simp [Array.getElem?_eq_none h] at h3
  refine ⟨⟨h1, ?_⟩,h2,bs,by rw [Below.heap_alloc _ _ _ hlt']; exact h3,h4.mono hext⟩
  rintro (hk | hk)
  ·exact h1' hk
  ·omega
 ·intro x o x' o' L L' h0 h0' hx hx' hL hL' he
  rw [aU _ _ (hne x _ hx)] at hL
  rw [aU _ _ (hne x' _ hx')] at hL'
  exact H.itj x o x' o' L L' h0 h0' hx hx' hL hL' he
theorem aRv {w : World} {l : Nat} {o o' : Obj} (hl : w.heap[l]? = some o) (ho : o.isCells = false) (ho' : o'.isCells = false) (a : Addr) : (w.putObj l o').cell? a = w.cell? a:=by
 by_cases e : a.block = l
 ·have h1 : (w.putObj l o').heap[a.block]? = some o':=by rw [e]; exact World.putObj_heap_same (Array.getElem?_eq_some_iff.1 hl).1
  have h2 : w.heap[a.block]? = some o:=by rw [e]; exact hl
  unfold World.cell?
  rw [h1,h2]
  cases o <;> cases ho <;> cases o' <;> cases ho' <;> rfl
 ·unfold World.cell?
  rw [World.putObj_heap_other e]
theorem aZb {w : World} {l : Nat} {o' : Obj} {a : Addr} (e : a.block ≠ l) : (w.putObj l o').frozen? a = w.frozen? a:=by
 unfold World.frozen?
 rw [World.putObj_heap_other e]
theorem HR.putX (H : HR G ρ h w) {l : Nat} {o o' : Obj} (hB : G.B ≤ l) (hX : G.X l) (hl : w.heap[l]? = some o) (ho : o.isCells = false) (ho' : o'.isCells = false) : HR G ρ h (w.putObj l o') where
 gl:=fun k hk=>by rw [World.putObj_heap_other (by omega)]; exact H.gl k hk
 sz:=by
  have e : (w.putObj l o').heap.size = w.heap.size:=by simp [World.putObj]
  rw [e]
  exact H.sz
 nx:=H.nx
 ro:=H.ro
 dom:=H.dom
 lt:=H.lt
 cell:=fun b k L i v v' h1 h2 h3 h4=>by
  obtain ⟨x,h5,h6⟩:=H.cell b k L i v v' h1 h2 h3 h4
  exact ⟨x,by rw [aRv hl ho ho']; exact h5,h6⟩
 spare:=fun b k L es j h1 h2 h3=>by
  obtain ⟨x,h5⟩:=H.spare b k L es j h1 h2 h3
  exact ⟨x,by rw [aRv hl ho ho']; exact h5⟩
 free:=fun b a h1 h2=>by
  obtain ⟨h3,h4,h5⟩:=H.free b a h1 h2
  exact ⟨by rw [aZb (by intro e; rw [e] at h5; exact h5 hX)]; exact h3,h4,h5⟩
 inj:=H.inj
 ex:=H.ex
 grone:=H.grone
 itr:=fun b o2 L h0 h1 h2=>by
  obtain ⟨⟨h3,h4⟩,h5,x,h6,h7⟩:=H.itr b o2 L h0 h1 h2
  exact ⟨⟨h3,h4⟩,h5,x,by rw [World.putObj_heap_other (by intro e; rw [e] at h4; exact h4 hX)]; exact h6,h7⟩
 itj:=H.itj
theorem Kp.putX {w0 : World} (k : Kp G w0 w) {l : Nat} {o o' : Obj} (hO : Own G l) (hs : ∀ k,G.X k → k < w0.heap.size) (hB : G.B ≤ w0.heap.size) (hl : w.heap[l]? = some o) : Kp G w0 (w.putObj l o') where
 low:=k.low.grown (grownBy_putObj' w l o') (Nat.le_trans hB k.low.size) (fun j e=>by cases e; exact hO.1)
 ex:=fun j hj=>by rw [World.putObj_heap_other (by intro e; subst e; exact hO.2 hj)]; exact k.ex j hj
end
end Go.Dd

namespace Go.Dd
open Go.RowKit (Below)
structure ItC where
 gf : FuncId
 nt : Nat
 pre : Code
 b0 : Nat
 test : Code
 b1 : Nat
 rid : Nat
 front : List Oper
 y : Oper
 back : List Oper
 after : Code
 post : Code
 step : Code
 yd : Tmp
 yt : Tmp
 yx : Tmp
def ItC.ops (I : ItC) : Array Oper:=(I.front ++ I.y :: I.back).toArray
def ItC.round (I : ItC) : Code:=.seq I.test (.seq (.block I.b1 (.seq (.seq (.region I.rid I.ops false) I.after) I.post)) I.step)
def ItC.code (I : ItC) : Code:=.seq I.pre (.block I.b0 (.loop I.round))
def jZ : Nat → K:=fun _=>bY
def ylB (v : DV) (b : Pos) : Bool:=match v with
 | .yl b'=>b' == b
 | _=>false
section
variable (C : Cfg) (rec : FuncId → List DV → Hp → aH) (n : Nat) (I : ItC)
def rF (b : Bool) (kr k : K) (e1 : aZ) : Hp → aH:=fun h =>
 cnd (cX I.nt (some I.yd)) (fY C rec I.nt I.ops I.back (aW C rec I.nt n I.after jZ kr k) (bJ e1 (some I.yd) (.b b)) h)
def aCr (nt : Nat) (p : Tmp) (x y : Code) (env : aZ) (X : Nat → K) (kr kk : K) : K:=fun e1 h1 =>
 cnd (cX nt (some p)) (aW C rec nt n x jZ bY (aW C rec nt n y
   (fun i _ h2=>rF C rec n I false (fun _ h3=>X i env h3) bY e1 h2)
   (fun _ h2=>rF C rec n I false (fun _ h3=>kr env h3) bY e1 h2)
   (fun _ h2=>rF C rec n I true bY (aW C rec I.nt n I.post jZ bY (aW C rec I.nt n I.step jZ bY kk)) e1 h2))
  (bJ env (some p) (e1 I.yx)) h1)
def lL (nt : Nat) (g : Operand) (p : Tmp) (x y : Code) (X : Nat → K) (kr k : K) : K:=fun env h =>
 match opr env g with
 | .f gf [] cap=>cnd (Nat.beq gf I.gf) (aW C rec I.nt n I.pre jZ bY
   (aM (fun kk=>aW C rec I.nt n I.test (fun j=>bif Nat.beq j I.b0 then (fun _ h=>k env h) else bY) bY
    (fY C rec I.nt I.ops I.front (fun e1 h1=>cnd (ylB (e1 I.yt) h.next) (aCr C rec n I nt p x y env X kr kk e1 h1)))) n)
   (aQ (.yl h.next :: cap)) (resv 2 h))
 | _=>none
end
structure ItOk (P : Program) (I : ItC) : Prop where
 pre : dZ I.pre = true
 test : dZ I.test = true
 after : dZ I.after = true
 post : dZ I.post = true
 step : dZ I.step = true
 ops : ∀ o ∈ I.ops.toList,gK o = true
 dst : I.y.dst = some I.yd
 guard : I.y.guard = none
 op : ∃ tys,I.y.op = .call ⟨.value (.tmp I.yt), #[.tmp I.yx],tys⟩
 fn : ∃ fn,P.funcs[I.gf]? = some fn ∧ fn.body = some I.code ∧ fn.ntmps = I.nt ∧ fn.results = #[] ∧ (fn.name == "runtime.NumGoroutine") = false
theorem aVv {ρ : Ren} {args : List DV} {args' : Array Value} (hargs : VRs ρ args args'.toList) (nt : Nat) (ds : List Deferred) : EnvR ρ (aQ args) { tmps:=args' ++ Array.replicate (nt - args'.size) undef,defers:=ds }:=by
 intro t
 unfold aQ
 have hlen:=hargs.length
 simp only [Array.length_toList] at hlen
 by_cases ht : t < args.length
 ·have hg : args[t]? = some args[t]:=by simp [ht]
  obtain ⟨v',h2,h3⟩:=hargs.get t _ hg
  simp only [Array.getElem?_toList] at h2
  rw [show args.getD t aT = args[t] by simp [List.getD,hg]]
  have : (args' ++ Array.replicate (nt - args'.size) undef).getD t undef = v':=by
   simp [Array.getElem?_append_left (show t < args'.size by omega),h2]
  rw [this]
  exact h3
 ·have hg : args.getD t aT = aT:=by simp [List.getD,List.getElem?_eq_none (Nat.le_of_not_lt ht)]
  rw [hg]
  have : (args' ++ Array.replicate (nt - args'.size) undef).getD t undef = undef:=by
   rw [Array.getD_eq_getD_getElem?,Array.getElem?_append_right (by omega)]
   simp only [Array.getElem?_replicate]
   split <;> rfl
  rw [this]
  exact .t [] #[] .nil
def GD (G : Gd) (D : Nat) : Gd:=⟨G.B,fun k=>G.X k ∨ k = D,G.N,G.W,G.ok⟩
theorem Ex.ofGD {G : Gd} {D : Nat} {ρ ρ' : Ren} (h : Ex (GD G D) ρ ρ') : Ex G ρ ρ':=⟨h.ext,h.new⟩
theorem Kp.ofGD {G : Gd} {D : Nat} {w w' : World} (h : Kp (GD G D) w w') : Kp G w w':=⟨h.low,fun k hk=>h.ex k (.inl hk)⟩
section
variable {C : Cfg} {G : Gd} {rec : FuncId → List DV → Hp → aH} {n : Nat} {I : ItC} {N : Nat}
def StM (DD : List Deferred) (G : Gd) (nt : Nat) (ρ : Ren) (w0 : World) (k : K) (r : DV × Hp) (a : Act) (w : World) : Prop :=
 ∃ D ρ' env h,Ex G ρ ρ' ∧ HR (GD G D) ρ' h w ∧ EnvR ρ' env a ∧ Kp G w0 w ∧ nt ≤ a.tmps.size ∧ a.defers = { target:=.collected D,args := #[] } :: DD ∧ Own G D ∧ w.heap[D]? = some (.deferred (some [])) ∧ k env h = some r
def QM (DD : List Deferred) (G : Gd) (nt : Nat) (ρ : Ren) (w0 : World) (X : Nat → K) (kr k : K) (r : DV × Hp) : Exit → Act → World → Prop
 | .normal,a,w=>StM DD G nt ρ w0 k r a w
 | .exit id,a,w=>StM DD G nt ρ w0 (X id) r a w
 | .ret,a,w=>StM DD G nt ρ w0 kr r a w
 | _,_,_=>False
structure Iv (G : Gd) (ρ : Ren) (w0 : World) (D l : Nat) (rc : Loop) (ρ' : Ren) (h : Hp) (W : World) : Prop where
 ex : Ex G ρ ρ'
 hr : HR (GD (GD G D) l) ρ' h W
 kp : Kp G w0 W
 hl : W.heap[l]? = some (.loop rc)
 hD : W.heap[D]? = some (.deferred (some []))
def SS (G : Gd) (ρ : Ren) (w0 : World) (D l : Nat) (rc : Loop) (ds : List Deferred) (nt : Nat) (K : K) (r : DV × Hp) (a : Act) (W : World) : Prop :=
 ∃ ρ' env h,Iv G ρ w0 D l rc ρ' h W ∧ EnvR ρ' env a ∧ nt ≤ a.tmps.size ∧ a.defers = ds ∧ K env h = some r
def QS (G : Gd) (ρ : Ren) (w0 : World) (D l : Nat) (rc : Loop) (ds : List Deferred) (nt : Nat) (X : Nat → K) (kr k : K) (r : DV × Hp) : Exit → Act → World → Prop
 | .normal,a,w=>SS G ρ w0 D l rc ds nt k r a w
 | .exit id,a,w=>SS G ρ w0 D l rc ds nt (X id) r a w
 | .ret,a,w=>SS G ρ w0 D l rc ds nt kr r a w
 | _,_,_=>False
theorem Iv.step {ρ : Ren} {w0 : World} {D l : Nat} {rc : Loop} {ρ' ρ2 : Ren} {h h2 : Hp} {W W2 : World} (v : Iv G ρ w0 D l rc ρ' h W) (e : Ex (GD (GD G D) l) ρ' ρ2) (H : HR (GD (GD G D) l) ρ2 h2 W2) (k : Kp (GD (GD G D) l) W W2) : Iv G ρ w0 D l rc ρ2 h2 W2 where
 ex:=v.ex.trans e.ofGD.ofGD
 hr:=H
 kp:=v.kp.trans k.ofGD.ofGD
 hl:=by rw [k.ex l (.inr rfl)]; exact v.hl
 hD:=by rw [k.ex D (.inl (.inr rfl))]; exact v.hD
theorem lD {ro : Option Nat} (K : OkC C rec) (hm : C.P.follows .mixedOrders = true) {ρ : Ren} {w0 : World} {D l : Nat} {rc : Loop} {ds : List Deferred} {nt : Nat} {X : Nat → Dd.K} {kr k : Dd.K} {r : DV × Hp} {a : Act} {W : World} (c : Code) (hc : dZ c = true)
  (h : SS G ρ w0 D l rc ds nt (aW C rec nt n c X kr k) r a W) : c.wpIn (Fw ro) N C.P (QS G ρ w0 D l rc ds nt X kr k r) a W:=by
 obtain ⟨ρ',env,hp,v,he,hnt,hd,hk⟩:=h
 refine wpIn_mono (bLl (DD:=ds) (G:=GD (GD G D) l) (ρ := ρ') (w0:=W) K hm c hc X kr k a W ⟨ρ',env,hp,Ex.refl _ _,v.hr,he,Kp.refl _ _,hnt,hd,hk⟩) fun e a' w' hq => ?_
 cases e with
 | normal=>obtain ⟨ρ2,env2,h2,e1,e2,e3,e4,e5,e6,e7⟩:=hq; exact ⟨ρ2,env2,h2,v.step e1 e2 e4,e3,e5,e6,e7⟩
 | exit id=>obtain ⟨ρ2,env2,h2,e1,e2,e3,e4,e5,e6,e7⟩:=hq; exact ⟨ρ2,env2,h2,v.step e1 e2 e4,e3,e5,e6,e7⟩
 | ret=>obtain ⟨ρ2,env2,h2,e1,e2,e3,e4,e5,e6,e7⟩:=hq; exact ⟨ρ2,env2,h2,v.step e1 e2 e4,e3,e5,e6,e7⟩
 | goto l=>exact hq
 | panic ch=>exact hq
 | outgrown=>exact hq
theorem cOz {G : Gd} {ro : Option Nat} (K : OkC C rec) {nt : Nat} {DD : List Deferred} {ops : Array Oper} {Q : Exit → Act → World → Prop} {env' : aZ} {h' : Hp} (hops : ∀ o ∈ ops.toList,gK o = true) (hQo : ¬ LetsOut Q) (rest : List Nat) : ∀ (l : List Oper) (i : Nat) (ρ : Ren) (env : aZ) (h : Hp) (a : Act) (w : World),
  (∀ j : Nat,j < l.length → l[j]? = ops[i + j]?) → aCe C rec nt ops l env h env' h' → HR G ρ h w → EnvR ρ env a → nt ≤ a.tmps.size → a.defers = DD →
  (∀ ρ' a' w',Ex G ρ ρ' → HR G ρ' h' w' → EnvR ρ' env' a' → Kp G w w' → nt ≤ a'.tmps.size → a'.defers = DD → wpOpsIn (Fw ro) N C.P ops Q rest a' w') → wpOpsIn (Fw ro) N C.P ops Q (List.range' i l.length ++ rest) a w
 | [],i, ρ,env,h,a,w,_,hr,H,he,hnt,hd,hQ=>by
  obtain ⟨rfl,rfl⟩:=hr
  exact hQ ρ a w (Ex.refl G ρ) H he (Kp.refl G w) hnt hd
 | o :: os,i, ρ,env,h,a,w,hl,hr,H,he,hnt,hd,hQ=>by
  obtain ⟨hf,v,h1,hs,hr'⟩:=hr
  have hi : ops[i]? = some o:=by simpa using (hl 0 (by simp)).symm
  simp only [List.length_cons,List.range'_succ,List.cons_append]
  rw [wpOpsIn_cons]
  refine aJq (K:=fun a w=>wpOpsIn (Fw ro) N C.P ops Q (List.range' (i + 1) os.length ++ rest) a w) hops hQo (fun _ _ h=>h) (xN (wS K H he hs) rfl hi H fun ρ' w' v' h2 h3 h4 h5 => ?_)
  refine cOz (DD:=DD) K hops hQo rest os (i + 1) ρ' _ h1 _ w' (fun j hj => ?_) hr' h4 (he.put h2.ext h3 hf hnt) (by rw [mD]; exact hnt) (by rw [iU]; exact hd) fun ρ2 a2 w2 e1 e2 e3 e4 e5 e6 => ?_
  ·have:=hl (j + 1) (by simpa using hj)
   simpa [Nat.add_assoc,Nat.add_comm 1 j] using this
  ·exact hQ ρ2 a2 w2 (h2.trans e1) e2 e3 (h5.trans e4) e5 e6
theorem bCp {ro : Option Nat} (K : OkC C rec) {ρ : Ren} {w0 : World} {D l : Nat} {rc : Loop} {ds : List Deferred} {nt : Nat} {k : Dd.K} {r : DV × Hp} {a : Act} {W : World} {ops : Array Oper} {Q : Exit → Act → World → Prop} (hops : ∀ o ∈ ops.toList,gK o = true) (L : List Oper) (i : Nat) (hL : ∀ j : Nat,j < L.length → L[j]? = ops[i + j]?)
  (hQ : ¬ LetsOut Q) (h : SS G ρ w0 D l rc ds nt (fY C rec nt ops L k) r a W) (rest : List Nat) (hn : ∀ a W,SS G ρ w0 D l rc ds nt k r a W → wpOpsIn (Fw ro) N C.P ops Q rest a W) : wpOpsIn (Fw ro) N C.P ops Q (List.range' i L.length ++ rest) a W:=by
 obtain ⟨ρ',env,hp,v,he,hnt,hd,hk⟩:=h
 obtain ⟨env',h',hr,hk'⟩:=nL L k env hp r hk
 exact cOz (G:=GD (GD G D) l) (DD:=ds) K hops hQ rest L i ρ' env hp a W hL hr v.hr he hnt hd fun ρ2 a2 w2 e1 e2 e3 e4 e5 e6=>hn a2 w2 ⟨ρ2,env',h',v.step e1 e2 e4,e3,e5,e6,hk'⟩
end
end Go.Dd

namespace Go.Dd
open Go.RowKit (Below)
theorem bSp {P : Program} {o : Oper} {a : Act} {W : World} {t x p : Tmp} {tys : Array TypeId} {l : Nat} {rc : Loop} (ho : o.op = .call ⟨.value (.tmp t), #[.tmp x],tys⟩) (ht : a.eval (.tmp t) = .func (.yield l) #[] #[])
  (hl : W.heap[l]? = some (.loop rc)) (hp : rc.params = #[p]) : (execOp a.eval o).run P W = .ok (.round l rc.fn (rc.tmps.setIfInBounds p (a.eval (.tmp x))) rc.assign rc.body) W:=by
 have hy:=run_yield (P:=P) (args := #[a.eval (.tmp x)]) hl (by rw [hp]; rfl)
 rw [hp] at hy
 unfold execOp
 rw [ho]
 simp only [resolve,ht,Deferred.ofValue,Sem.run_bind,Sem.run_pure,Result.andThen,List.map_toArray,List.map_cons,List.map_nil]
 simp only [Array.map,List.map] at *
 simpa [invoke] using hy
section
variable {C : Cfg} {G : Gd} {rec : FuncId → List DV → Hp → aH} {n : Nat} {I : ItC} {N : Nat}
def pC (f : FuncId) (tmps : Array Value) (p : Tmp) (x y : Code) (D : Nat) (st : LoopState) (pe : Option Code) : Loop:={ state:=st,pending:=pe,fn:=f,tmps:=tmps,params := #[p],assign:=x,body:=y,defers:=D }
theorem Iv.put {ρ : Ren} {w0 : World} {D l : Nat} {rc : Loop} {ρ' : Ren} {h : Hp} {W : World} (v : Iv G ρ w0 D l rc ρ' h W) (rc' : Loop) (hD : D ≠ l) (hO : Own G l) (hs : ∀ k,G.X k → k < w0.heap.size) (hB : G.B ≤ w0.heap.size) : Iv G ρ w0 D l rc' ρ' h (W.putObj l (.loop rc')) where
 ex:=v.ex
 hr:=v.hr.putX hO.1 (.inr rfl) v.hl rfl rfl
 kp:=v.kp.putX hO hs hB v.hl
 hl:=World.putObj_heap_same (Array.getElem?_eq_some_iff.1 v.hl).1
 hD:=by rw [World.putObj_heap_other hD]; exact v.hD
def QI (G : Gd) (ρ : Ren) (w0 : World) (D l nt : Nat) (rc : LoopState → Option Code → Loop) (env : aZ) (X : Nat → K) (kr k : K) (r : DV × Hp) : Exit → Act → World → Prop
 | .normal,a,w=>SS G ρ w0 D l (rc .ready none) [] nt (fun _ h=>k env h) r a w
 | .ret,a,w=>∃ c J,((c = .ret ∧ J = kr) ∨ ∃ i,c = .exit i ∧ J = X i) ∧ SS G ρ w0 D l (rc .done (some c)) [] nt (fun _ h=>J env h) r a w
 | _,_,_=>False
theorem ItC.ops_size (I : ItC) : I.ops.size = I.front.length + (I.back.length + 1):=by simp [ItC.ops]
theorem ItC.ops_front (I : ItC) (j : Nat) (h : j < I.front.length) : I.front[j]? = I.ops[0 + j]? := by
 simp [ItC.ops,List.getElem?_append_left h]
theorem ItC.ops_y (I : ItC) : I.ops[I.front.length]? = some I.y:=by simp [ItC.ops]
theorem ItC.ops_back (I : ItC) (j : Nat) (h : j < I.back.length) : I.back[j]? = I.ops[I.front.length + 1 + j]? := by
 simp only [ItC.ops,List.getElem?_toArray]
 rw [List.getElem?_append_right (by omega),show I.front.length + 1 + j - I.front.length = j + 1 by omega,List.getElem?_cons_succ]
theorem ItC.ops_range (I : ItC) : List.range I.ops.size = List.range' 0 I.front.length ++ I.front.length :: (List.range' (I.front.length + 1) I.back.length ++ []):=by
 rw [I.ops_size,List.range_eq_range',← List.range'_append_1,List.append_nil,Nat.zero_add,List.range'_succ]
section
variable {ρ : Ren} {w0 : World} {D l : Nat} {nt : Nat} {p : Tmp} {x y : Code} {f0 : FuncId} {a0 : Act} {env : aZ} {X : Nat → Dd.K} {kr k : Dd.K} {r : DV × Hp} {b : Pos}
theorem bSs (K : OkC C rec) (hm : C.P.follows .mixedOrders = true) (iOk : ItOk C.P I) {rc : LoopState → Option Code → Loop} {kk : Dd.K} {Qr : Exit → Act → World → Prop} (hQr : ¬ LetsOut Qr)
  (ih : ∀ a W,SS G ρ w0 D l (rc .ready none) [] I.nt kk r a W → Qr .normal a W) {a : Act} {W : World}
  (h : SS G ρ w0 D l (rc .ready none) [] I.nt (fY C rec I.nt I.ops I.back (aW C rec I.nt n I.after jZ bY (aW C rec I.nt n I.post jZ bY (aW C rec I.nt n I.step jZ bY kk)))) r a W) :
  wpOpsIn (Fw none) N C.P I.ops (Exit.then (I.after.wpIn (Fw none) N C.P (Exit.then (I.post.wpIn (Fw none) N C.P (Exit.inBlock I.b1 (Exit.then (I.step.wpIn (Fw none) N C.P Qr) Qr))) (Exit.inBlock I.b1 (Exit.then (I.step.wpIn (Fw none) N C.P Qr) Qr)))) (Exit.then (I.post.wpIn (Fw none) N C.P (Exit.inBlock I.b1 (Exit.then (I.step.wpIn (Fw none) N C.P Qr) Qr))) (Exit.inBlock I.b1 (Exit.then (I.step.wpIn (Fw none) N C.P Qr) Qr))))
   (List.range' (I.front.length + 1) I.back.length ++ []) a W:=by
 refine bCp K iOk.ops I.back (I.front.length + 1) (fun j hj=>I.ops_back j hj) ?_ h [] fun a1 W1 h1 => ?_
 ·rintro ⟨a,w,q⟩
  exact hQr ⟨a,w,q⟩
 show I.after.wpIn (Fw none) N C.P _ a1 W1
 refine wpIn_mono (lD K hm I.after iOk.after h1) fun e a2 W2 hq => ?_
 cases e with
 | normal =>
  show I.post.wpIn (Fw none) N C.P _ a2 W2
  refine wpIn_mono (lD K hm I.post iOk.post hq) fun e a3 W3 hq => ?_
  cases e with
  | normal =>
   show I.step.wpIn (Fw none) N C.P Qr a3 W3
   refine wpIn_mono (lD K hm I.step iOk.step hq) fun e a4 W4 hq => ?_
   cases e with
   | normal=>exact ih a4 W4 hq
   | exit id=>obtain ⟨_,_,_,_,_,_,_,q⟩:=hq; cases q
   | ret=>obtain ⟨_,_,_,_,_,_,_,q⟩:=hq; cases q
   | goto l=>exact hq.elim
   | panic ch=>exact hq.elim
   | outgrown=>exact hq.elim
  | exit id=>obtain ⟨_,_,_,_,_,_,_,q⟩:=hq; cases q
  | ret=>obtain ⟨_,_,_,_,_,_,_,q⟩:=hq; cases q
  | goto l=>exact hq.elim
  | panic ch=>exact hq.elim
  | outgrown=>exact hq.elim
 | exit id=>obtain ⟨_,_,_,_,_,_,_,q⟩:=hq; cases q
 | ret=>obtain ⟨_,_,_,_,_,_,_,q⟩:=hq; cases q
 | goto l=>exact hq.elim
 | panic ch=>exact hq.elim
 | outgrown=>exact hq.elim
theorem aBf (K : OkC C rec) (hm : C.P.follows .mixedOrders = true) (iOk : ItOk C.P I) {rc : Loop} {J : Dd.K} {Qr : Exit → Act → World → Prop} (hQr : ¬ LetsOut Qr)
  (ih : ∀ a W,SS G ρ w0 D l rc [] I.nt J r a W → Qr .ret a W) {a : Act} {W : World}
  (h : SS G ρ w0 D l rc [] I.nt (fY C rec I.nt I.ops I.back (aW C rec I.nt n I.after jZ J bY)) r a W) :
  wpOpsIn (Fw none) N C.P I.ops (Exit.then (I.after.wpIn (Fw none) N C.P (Exit.then (I.post.wpIn (Fw none) N C.P (Exit.inBlock I.b1 (Exit.then (I.step.wpIn (Fw none) N C.P Qr) Qr))) (Exit.inBlock I.b1 (Exit.then (I.step.wpIn (Fw none) N C.P Qr) Qr)))) (Exit.then (I.post.wpIn (Fw none) N C.P (Exit.inBlock I.b1 (Exit.then (I.step.wpIn (Fw none) N C.P Qr) Qr))) (Exit.inBlock I.b1 (Exit.then (I.step.wpIn (Fw none) N C.P Qr) Qr))))
   (List.range' (I.front.length + 1) I.back.length ++ []) a W:=by
 refine bCp K iOk.ops I.back (I.front.length + 1) (fun j hj=>I.ops_back j hj) ?_ h [] fun a1 W1 h1 => ?_
 ·rintro ⟨a,w,q⟩
  exact hQr ⟨a,w,q⟩
 show I.after.wpIn (Fw none) N C.P _ a1 W1
 refine wpIn_mono (lD K hm I.after iOk.after h1) fun e a2 W2 hq => ?_
 cases e with
 | normal=>obtain ⟨_,_,_,_,_,_,_,q⟩:=hq; cases q
 | exit id=>obtain ⟨_,_,_,_,_,_,_,q⟩:=hq; cases q
 | ret=>exact ih a2 W2 hq
 | goto l=>exact hq.elim
 | panic ch=>exact hq.elim
 | outgrown=>exact hq.elim
end
end
end Go.Dd

namespace Go.Dd
open Go.RowKit (Below)
section
variable {C : Cfg} {G : Gd} {rec : FuncId → List DV → Hp → aH} {n : Nat} {I : ItC} {N : Nat}
variable {ρ : Ren} {w0 : World} {D l : Nat} {nt : Nat} {p : Tmp} {x y : Code} {f0 : FuncId} {a0 : Act} {env : aZ} {X : Nat → Dd.K} {kr k : Dd.K} {r : DV × Hp} {b : Pos}
def aVk (C : Cfg) (rec : FuncId → List DV → Hp → aH) (n : Nat) (I : ItC) (nt : Nat) (p : Tmp) (x y : Code) (env : aZ) (X : Nat → K) (kr k : K) (b : Pos) (kk : K) : K :=
 aW C rec I.nt n I.test (fun j=>bif Nat.beq j I.b0 then (fun _ h=>k env h) else bY) bY
  (fY C rec I.nt I.ops I.front (fun e1 h1=>cnd (ylB (e1 I.yt) b) (aCr C rec n I nt p x y env X kr kk e1 h1)))
theorem eCx {v : DV} {b : Pos} (h : ylB v b = true) : v = .yl b:=by
 unfold ylB at h
 split at h
 ·rename_i b'
  have : b' = b:=by simpa using h
  rw [this]
 ·cases h
theorem sW {c : Bool} {q : aH} {z : DV × Hp} (h : cnd c q = some z) : c = true ∧ q = some z:=by
 cases c with
 | false=>cases h
 | true=>exact ⟨rfl,h⟩
theorem Iv.base {rc : Loop} {ρ' : Ren} {h : Hp} {W : World} (v : Iv G ρ w0 D l rc ρ' h W) : Iv G ρ' w0 D l rc ρ' h W:=⟨Ex.refl _ _,v.hr,v.kp,v.hl,v.hD⟩
theorem Iv.up {rc : Loop} {ρ' ρ2 : Ren} {h : Hp} {W : World} (v : Iv G ρ' w0 D l rc ρ2 h W) (e : Ex G ρ ρ') : Iv G ρ w0 D l rc ρ2 h W:=⟨e.trans v.ex,v.hr,v.kp,v.hl,v.hD⟩
theorem SS.out {rc : Loop} {ds : List Deferred} {nt : Nat} {a : Act} {W : World} (h : SS G ρ w0 D l rc ds nt bY r a W) : False:=by
 obtain ⟨_,_,_,_,_,_,_,q⟩:=h
 cases q
theorem dHn (K : OkC C rec) (hm : C.P.follows .mixedOrders = true) (iOk : ItOk C.P I) (hx : dZ x = true) (hy : dZ y = true) (hDl : D ≠ l) (hOl : Own G l) (hs : ∀ k,G.X k → k < w0.heap.size) (hB : G.B ≤ w0.heap.size)
  (hb : ρ b = some ⟨l,0,0,none⟩) (he0 : EnvR ρ env a0) (hnt0 : nt ≤ a0.tmps.size) :
  ∀ (m : Nat) (a : Act) (W : World),SS G ρ w0 D l (pC f0 a0.tmps p x y D .ready none) [] I.nt (aM (aVk C rec n I nt p x y env X kr k b) m) r a W →
   Code.roundsIn (Fw none) N C.P I.round (Exit.inBlock I.b0 (QI G ρ w0 D l I.nt (pC f0 a0.tmps p x y D) env X kr k r)) m a W:=by
 intro m
 induction m with
 | zero=>intro a W h; exact h.out.elim
 | succ m ih =>
  intro a W h
  rw [roundsIn_succ]
  change SS G ρ w0 D l _ [] I.nt (aVk C rec n I nt p x y env X kr k b (aM (aVk C rec n I nt p x y env X kr k b) m)) r a W at h
  refine wpIn_seq (wpIn_mono (lD K hm I.test iOk.test h) fun e a1 W1 hq => ?_)
  cases e with
  | exit id =>
   obtain ⟨ρ',e',h',v,h2,h3,h4,h5⟩:=hq
   dsimp only at h5
   show Exit.inBlock I.b0 (QI G ρ w0 D l I.nt (pC f0 a0.tmps p x y D) env X kr k r) (.exit id) a1 W1
   cases hid : Nat.beq id I.b0 with
   | false=>rw [hid] at h5; cases h5
   | true =>
    rw [hid] at h5
    have e0 : id = I.b0:=Nat.eq_of_beq_eq_true hid
    unfold Exit.inBlock
    simp only
    rw [if_pos e0]
    exact ⟨ρ',e',h',v,h2,h3,h4,h5⟩
  | ret=>exact (SS.out hq).elim
  | goto l=>exact hq.elim
  | panic ch=>exact hq.elim
  | outgrown=>exact hq.elim
  | normal =>
   have hQr : ¬ LetsOut (Exit.then (Code.roundsIn (Fw none) N C.P I.round (Exit.inBlock I.b0 (QI G ρ w0 D l I.nt (pC f0 a0.tmps p x y D) env X kr k r)) m) (Exit.inBlock I.b0 (QI G ρ w0 D l I.nt (pC f0 a0.tmps p x y D) env X kr k r))):=fun ⟨_,_,q⟩=>q
   show (Code.seq _ _).wpIn (Fw none) N C.P _ a1 W1
   refine wpIn_seq (wpIn_block (wpIn_seq (wpIn_seq (wpIn_region ?_))))
   rw [I.ops_range]
   refine bCp K iOk.ops I.front 0 (fun j hj=>I.ops_front j hj) ?_ hq _ fun a2 W2 h2 => ?_
   ·rintro ⟨_,_,q⟩
    exact q
   obtain ⟨ρ',e1,h1,v,he,hnt,hd,hk⟩:=h2
   obtain ⟨hyl,hk⟩:=sW hk
   obtain ⟨hfp,hk⟩:=sW hk
   have hyv:=he I.yt
   rw [eCx hyl] at hyv
   obtain ⟨L,hL,hyv'⟩ : ∃ L, ρ' b = some L ∧ a2.tmps.getD I.yt undef = .func (.yield L.bl) #[] #[]:=by
    generalize hz : a2.tmps.getD I.yt undef = z at hyv
    cases hyv with
    | yl _ L h=>exact ⟨L,h,rfl⟩
   rw [v.ex.ext _ _ hb] at hL
   cases hL
   obtain ⟨tys,hop⟩:=iOk.op
   have hrun:=bSp (P:=C.P) (a:=a2) (W:=W2) hop hyv' v.hl rfl
   rw [wpOpsIn_cons]
   unfold wpOpIn
   rw [I.ops_y]
   have hw : Region.wanted I.y (yielded I.ops a2.tmps) = true:=by simp [Region.wanted,iOk.guard]
   simp only [hw,if_true]
   refine ⟨fun _ _=>trivial, ?_⟩
   show I.y.uponIn (Fw none) N C.P a2 _ _ ((execOp a2.eval I.y).run C.P W2)
   rw [hrun]
   refine ⟨fun e=>(by cases e),roundIn_of_wpIn (F:=Fw none) trivial ?_⟩
   have put : ∀ (rc' : Loop) {ρ1 ρ2 : Ren} {h2 : Hp} {W3 : World} {rc : Loop},Iv G ρ1 w0 D l rc ρ2 h2 W3 → Iv G ρ1 w0 D l rc' ρ2 h2 (W3.putObj l (.loop rc')):=fun rc' _ _ _ _ _ v=>v.put rc' hDl hOl hs hB
   have hass : SS G ρ' w0 D l (pC f0 a0.tmps p x y D .ready none) [] nt (aW C rec nt n x jZ bY (aW C rec nt n y
     (fun i _ h2=>rF C rec n I false (fun _ h3=>X i env h3) bY e1 h2)
     (fun _ h2=>rF C rec n I false (fun _ h3=>kr env h3) bY e1 h2)
     (fun _ h2=>rF C rec n I true bY (aW C rec I.nt n I.post jZ bY (aW C rec I.nt n I.step jZ bY (aM (aVk C rec n I nt p x y env X kr k b) m))) e1 h2))) r
     { tmps:=a0.tmps.setIfInBounds p (a2.eval (.tmp I.yx)),defers:=[] } W2 :=
    ⟨ρ',bJ env (some p) (e1 I.yx),h1,v.base,(he0.mono v.ex.ext).put (fun _ _ h=>h) (he I.yx) hfp hnt0,by simpa using hnt0,rfl,hk⟩
   refine wpIn_mono (lD (ro:=some l) K hm x hx hass) fun e a3 W3 hq => ?_
   cases e with
   | exit id=>exact (SS.out hq).elim
   | ret=>exact (SS.out hq).elim
   | goto l=>exact hq.elim
   | panic ch=>exact hq.elim
   | outgrown=>exact hq.elim
   | normal =>
    obtain ⟨ρ3,e3,h3,v3,he3,hnt3,hd3,hk3⟩:=hq
    refine ⟨_,run_beginRound v3.hl rfl, ?_⟩
    have v4:=put (pC f0 a0.tmps p x y D .busy none) v3
    have key : ∀ (bb : Bool) (kr' k' : Dd.K) {ρ5 : Ren} {h5 : Hp} {W5 : World} {rc : Loop},Iv G ρ w0 D l rc ρ5 h5 W5 → Ext ρ' ρ5 → rF C rec n I bb kr' k' e1 h5 = some r →
      SS G ρ w0 D l rc [] I.nt (fY C rec I.nt I.ops I.back (aW C rec I.nt n I.after jZ kr' k')) r (a2.put (some I.yd) (.bool bb)) W5:=by
     intro bb kr' k' ρ5 h5 W5 rc v5 hext hbk
     obtain ⟨hf5,hk5⟩:=sW hbk
     exact ⟨ρ5,_,h5,v5,he.put hext (.b bb) hf5 hnt,by rw [mD]; exact hnt,by rw [iU]; exact hd,hk5⟩
    refine wpIn_mono (lD (ro:=some l) K hm y hy ⟨ρ3,e3,h3,v4,he3,hnt3,hd3,hk3⟩) fun e a5 W5 hq => ?_
    cases e with
    | normal =>
     obtain ⟨ρ5,e5,h5,v5,he5,hnt5,hd5,hk5⟩:=hq
     refine ⟨_,_,run_endRound none v5.hl, ?_⟩
     show wpOpsIn (Fw none) N C.P I.ops _ _ (a2.put I.y.dst (.bool true)) _
     rw [iOk.dst]
     exact bSs K hm iOk hQr (fun a W h=>ih a W h) (key true _ _ ((put (pC f0 a0.tmps p x y D .ready none) v5).up v.ex) v5.ex.ext hk5)
    | exit i =>
     obtain ⟨ρ5,e5,h5,v5,he5,hnt5,hd5,hk5⟩:=hq
     refine ⟨_,_,run_endRound (some (.exit i)) v5.hl, ?_⟩
     show wpOpsIn (Fw none) N C.P I.ops _ _ (a2.put I.y.dst (.bool false)) _
     rw [iOk.dst]
     exact aBf K hm iOk hQr (fun a W h=>⟨_,X i,.inr ⟨i,rfl,rfl⟩,h⟩) (key false _ _ ((put (pC f0 a0.tmps p x y D .done (some (.exit i))) v5).up v.ex) v5.ex.ext hk5)
    | ret =>
     obtain ⟨ρ5,e5,h5,v5,he5,hnt5,hd5,hk5⟩:=hq
     refine ⟨_,_,run_endRound (some .ret) v5.hl, ?_⟩
     show wpOpsIn (Fw none) N C.P I.ops _ _ (a2.put I.y.dst (.bool false)) _
     rw [iOk.dst]
     exact aBf K hm iOk hQr (fun a W h=>⟨_,kr,.inl ⟨rfl,rfl⟩,h⟩) (key false _ _ ((put (pC f0 a0.tmps p x y D .done (some .ret)) v5).up v.ex) v5.ex.ext hk5)
    | goto l=>exact hq.elim
    | panic ch=>exact hq.elim
    | outgrown=>exact hq.elim
end
end Go.Dd

namespace Go.Dd
open Go.RowKit (Below)
section
variable {C : Cfg} {G : Gd} {rec : FuncId → List DV → Hp → aH} {n : Nat} {I : ItC} {N : Nat}
theorem results_none {P : Program} {fn : Func} (h : fn.results = #[]) (tmps : Array Value) (w : World) : ∃ v,(results fn tmps).run P w = .ok v w:=by
 rw [qN,h]
 exact ⟨.tuple #[],by simp [go_sem]⟩
theorem cAy (K : OkC C rec) (hm : C.P.follows .mixedOrders = true) (iOk : ItOk C.P I) {DD : List Deferred} {nt : Nat} {ρ : Ren} {w0 : World} {g : Operand} {p : Tmp} {x y : Code} (hx : dZ x = true) (hy : dZ y = true)
  {X : Nat → Dd.K} {kr k : Dd.K} {r : DV × Hp} {a : Act} {w : World} (h : St DD G nt ρ w0 (lL C rec n I nt g p x y X kr k) r a w) :
  (Code.rangeFunc g #[p] x y).wpIn (Fw none) N C.P (QM DD G nt ρ w0 X kr k r) a w:=by
 obtain ⟨ρ1,env,h0,e1,H,he,kp,hnt,hd,hk⟩:=h
 unfold lL at hk
 split at hk <;> (try (cases hk; done))
 rename_i gf cap hg
 obtain ⟨hgf,hk2⟩:=sW hk
 clear hk
 have hgf' : gf = I.gf:=Nat.eq_of_beq_eq_true hgf
 subst hgf'
 have hv:=bD he g
 rw [hg] at hv
 obtain ⟨lb,hlb,hge⟩ : ∃ lb,VRs ρ1 cap lb.toList ∧ a.eval g = .func (.func I.gf) #[] lb:=by
  generalize a.eval g = z at hv
  cases hv with
  | f _ _ _ x' y' h1 h2 =>
   refine ⟨y',h2, ?_⟩
   have : x' = #[]:=by
    obtain ⟨q⟩:=x'
    cases h1
    rfl
   rw [this]
 obtain ⟨fnI,hf,hb,hntI,hres,hname⟩:=iOk.fn
 refine wpIn_rangeFunc ?_
 intro fn _
 obtain ⟨W1,hW1⟩ : ∃ W1,(w.alloc (.deferred (some []))).alloc (.loop (pC fn a.tmps p x y w.heap.size .ready none)) = W1:=⟨_,rfl⟩
 have hL1 : W1.heap[w.heap.size + 1]? = some (.loop (pC fn a.tmps p x y w.heap.size .ready none)):=by
  rw [← hW1]
  have:=World.alloc_heap_new (w.alloc (.deferred (some []))) (.loop (pC fn a.tmps p x y w.heap.size .ready none))
  rwa [World.size_alloc] at this
 have hD1 : W1.heap[w.heap.size]? = some (.deferred (some [])):=by
  rw [← hW1]
  exact (Below.heap_alloc _ _ _ (by simp)).trans (World.alloc_heap_new w _)
 obtain ⟨iargs,hia⟩ : ∃ iargs : Array Value, #[Value.func (.yield (w.heap.size + 1)) #[] #[]] ++ lb = iargs:=⟨_,rfl⟩
 refine ⟨w.heap.size + 1,[{ target:=.collected w.heap.size,args := #[] }],W1,{ target:=.fn (.func I.gf) lb,args := #[Value.func (.yield (w.heap.size + 1)) #[] #[]] },W1,I.gf,
  iargs,W1, ?_, ?_,fun _ _=>trivial, ?_,fun e=>(by cases e), ?_⟩
 ·rw [← hW1]
  exact run_enterLoop_outer _ _ _ _ _
 ·simp only [resolve,hge]
  simp [go_sem]
 ·have hn : ¬ fnI.name = "runtime.NumGoroutine" := by simpa using hname
  unfold invoke
  simp only
  rw [hia]
  unfold callFunc
  simp [hf,hn,hb]
 ·
  have hno : ∀ b : Pos,h0.next.toNat ≤ b.toNat → ρ1 b = none:=fun b hb=>by
   cases e : ρ1 b with
   | none=>rfl
   | some L=>have:=H.lt b L e; omega
  obtain ⟨n1,n2⟩:=tR 2 h0
  have hN2 : (resv 2 h0).next.toNat = h0.next.toNat + 2:=by rw [n1,dM]
  have hsucc:=fBa h0.next
  have H1:=H.reserve 2
  have H2:=H1.earlyO (b:=h0.next.succ) (hno _ (by omega)) (by omega) (.deferred (some []))
  have hne : h0.next ≠ h0.next.succ:=fun e=>by have:=congrArg Pos.toNat e; omega
  have H3:=H2.earlyO (b:=h0.next) (by rw [aU _ _ hne]; exact hno _ (Nat.le_refl _)) (by omega) (.loop (pC fn a.tmps p x y w.heap.size .ready none))
  rw [hW1] at H3
  obtain ⟨ρ2,hρ2⟩ : ∃ ρ2,mG (mG ρ1 h0.next.succ ⟨w.heap.size,0,0,none⟩) h0.next ⟨(w.alloc (.deferred (some []))).heap.size,0,0,none⟩ = ρ2:=⟨_,rfl⟩
  rw [hρ2] at H3
  have hb2 : ρ2 h0.next = some ⟨w.heap.size + 1,0,0,none⟩:=by rw [← hρ2,bW,World.size_alloc]
  have ex2 : Ex G ρ1 ρ2:=by
   refine ⟨fun b L hL => ?_,fun b L hL => ?_⟩
   ·have h1 : b ≠ h0.next:=fun e=>by rw [e,hno _ (Nat.le_refl _)] at hL; cases hL
    have h2 : b ≠ h0.next.succ:=fun e=>by rw [e,hno _ (by omega)] at hL; cases hL
    rw [← hρ2,aU _ _ h1,aU _ _ h2]
    exact hL
   ·have hx:=H.nx
    by_cases h1 : b = h0.next
    ·exact .inr (by rw [h1]; exact hx)
    ·by_cases h2 : b = h0.next.succ
     ·exact .inr (by rw [h2]; omega)
     ·rw [← hρ2,aU _ _ h1,aU _ _ h2] at hL
      exact .inl hL
  have H4 : HR (GD (GD G w.heap.size) (w.heap.size + 1)) ρ2 (resv 2 h0) W1:=H3.weak rfl (fun k hk=>by rw [World.size_alloc]; exact hk) (by have:=H.nx; show G.N ≤ (resv 2 h0).next.toNat; omega) rfl
  have kp1 : Kp G w W1:=by
   rw [← hW1]
   refine (dB H.sz _).trans (dB ⟨?_,fun k hk => ?_⟩ _)
   ·have:=H.sz.1; simp; omega
   ·have:=H.sz.2 k hk; simp; omega
  have hOD : Own G w.heap.size:=⟨H.sz.1,fun hX=>Nat.lt_irrefl _ (H.sz.2 _ hX)⟩
  have hOl : Own G (w.heap.size + 1):=⟨by have:=H.sz.1; omega,fun hX=>by have:=H.sz.2 _ hX; omega⟩
  have hbody : I.code.wpIn (Fw none) (N - 1) C.P (QI G ρ2 w w.heap.size (w.heap.size + 1) I.nt (pC fn a.tmps p x y w.heap.size) env X kr k r)
    { tmps:=iargs ++ Array.replicate (fnI.ntmps - iargs.size) undef,defers:=[] } W1:=by
   have hargs : VRs ρ2 (.yl h0.next :: cap) iargs.toList:=by
    rw [← hia]
    have:=VRs.cons (ρ := ρ2) _ _ _ _ (.yl h0.next _ hb2) (hlb.mono ex2.ext)
    simpa using this
   have hss : SS G ρ2 w w.heap.size (w.heap.size + 1) (pC fn a.tmps p x y w.heap.size .ready none) [] I.nt
     (aW C rec I.nt n I.pre jZ bY (aM (aVk C rec n I nt p x y env X kr k h0.next) n)) r
     { tmps:=iargs ++ Array.replicate (fnI.ntmps - iargs.size) undef,defers:=[] } W1 :=
    ⟨ρ2,_,_,⟨Ex.refl _ _,H4,kp1,hL1,hD1⟩,aVv hargs _ _,by rw [hntI]; simp; omega,rfl,hk2⟩
   refine wpIn_seq (wpIn_mono (lD K hm I.pre iOk.pre hss) fun e a1 W2 hq => ?_)
   cases e with
   | exit id=>exact (SS.out hq).elim
   | ret=>exact (SS.out hq).elim
   | goto l=>exact hq.elim
   | panic ch=>exact hq.elim
   | outgrown=>exact hq.elim
   | normal =>
    show (Code.block I.b0 (.loop I.round)).wpIn (Fw none) (N - 1) C.P _ a1 W2
    exact wpIn_block (wpIn_loop_rounds n (dHn K hm iOk hx hy (by omega) hOl H.sz.2 H.sz.1 hb2 (he.mono ex2.ext) hnt n a1 W2 hq))
  refine callsIn_of_wp hf hb trivial (wpIn_mono hbody fun e a' W' hq => ?_)
  have fin : ∀ (rc : Loop) (J : Dd.K),rc.state ≠ .busy → SS G ρ2 w w.heap.size (w.heap.size + 1) rc [] I.nt (fun _ h=>J env h) r a' W' →
    a'.defers = [] ∧ (Instr.endLoop (w.heap.size + 1)).run C.P W' = .ok rc.pending (W'.putObj (w.heap.size + 1) (.loop { rc with state:=.exhausted })) ∧
    StM DD G nt ρ w0 J r { a with defers:=[{ target:=.collected w.heap.size,args := #[] }] ++ a.defers } (W'.putObj (w.heap.size + 1) (.loop { rc with state:=.exhausted })):=by
   rintro rc J hst ⟨ρ',e',h',v,_,_,hd',hk'⟩
   have v':=v.put { rc with state:=.exhausted } (by omega) hOl H.sz.2 H.sz.1
   refine ⟨hd',run_endLoop v.hl hst,w.heap.size, ρ',env,h',e1.trans (ex2.trans v.ex),v'.hr.weak rfl (fun k hk=>.inl hk) (Nat.le_refl _) rfl,he.mono (ex2.trans v.ex).ext,kp.trans v'.kp,hnt, ?_,hOD,v'.hD,hk'⟩
   rw [← hd]
   rfl
  obtain ⟨vv,hvv⟩:=results_none (P:=C.P) hres a'.tmps W'
  cases e with
  | normal =>
   obtain ⟨q1,q2,q3⟩:=fin _ k (by intro e; cases e) hq
   exact ⟨q1,vv,hvv,_,_,q2,q3⟩
  | ret =>
   obtain ⟨c,J,hcj,hss⟩:=hq
   obtain ⟨q1,q2,q3⟩:=fin _ J (by intro e; cases e) hss
   refine ⟨q1,vv,hvv,_,_,q2, ?_⟩
   rcases hcj with ⟨rfl,rfl⟩ | ⟨i,rfl,rfl⟩
   ·exact wpIn_ret q3
   ·exact wpIn_exit q3
  | exit id=>exact hq.elim
  | goto l=>exact hq.elim
  | panic ch=>exact hq.elim
  | outgrown=>exact hq.elim
end
end Go.Dd

namespace Go.Dd
open Go.RowKit (Below)
def eGl (ps : Array Tmp) (k : Tmp → K) : K:=match ps.toList with
 | [p]=>k p
 | _=>bY
section
variable (C : Cfg) (rec : FuncId → List DV → Hp → aH) (nt n : Nat) (I : ItC)
def lG (c : Code) : (Nat → K) → K → K → K :=
 Code.rec (motive:=fun _=>(Nat → K) → K → K → K)
  (fun _ _ k=>k)
  (fun _ ops dr _ _ k=>Bool.rec (motive:=fun _=>K) (fY C rec nt ops ops.toList k) (Bool.rec (motive:=fun _=>K) bY (iR C rec nt ops k) (eV C.P ops)) dr)
  (fun _ _ iha ihb X kr k=>iha X kr (ihb X kr k))
  (fun c _ _ iha ihb X kr k=>fun env h=>aR (opr env c) (iha X kr k env h) (ihb X kr k env h))
  (fun id _ ih X kr k=>ih (fun j=>bif Nat.beq j id then k else X j) kr k)
  (fun _ ih X kr _=>aM (fun kk=>ih X kr kk) n)
  (fun g ps x y _ _ X kr k=>eGl ps fun p=>lL C rec n I nt g p x y X kr k)
  (fun id X _ _=>X id)
  (fun _ _ _ _ _=>bY)
  (fun _ _ _ _=>bY)
  (fun _ _ _ _=>bY)
  (fun _ kr _=>kr)
  (fun _ _ _ _=>bY) c
def jM (f : FuncId) (args : List DV) (h : Hp) : aH :=
 match C.P.funcs[f]? with
 | some fn=>match fn.body with
  | some c=>lG C rec fn.ntmps n I c (fun _=>bY) (bE C fn) (bE C fn) (aQ args) h
  | none=>none
 | none=>none
end
def gZ : Code → Bool
 | .skip=>true
 | .region _ ops _=>ops.toList.all gK
 | .seq x y=>gZ x && gZ y
 | .cond _ x y=>gZ x && gZ y
 | .block _ x=>gZ x
 | .loop x=>gZ x
 | .rangeFunc _ _ x y=>dZ x && dZ y
 | .exit _=>true
 | .ret=>true
 | _=>false
def GDs (G : Gd) (Ds : List Nat) : Gd:=⟨G.B,fun k=>G.X k ∨ k ∈ Ds,G.N,G.W,G.ok⟩
def mkD (D : Nat) : Deferred:={ target:=.collected D,args := #[] }
theorem Ex.ofGDs {G : Gd} {Ds : List Nat} {ρ ρ' : Ren} (h : Ex (GDs G Ds) ρ ρ') : Ex G ρ ρ':=⟨h.ext,h.new⟩
theorem Kp.ofGDs {G : Gd} {Ds : List Nat} {w w' : World} (h : Kp (GDs G Ds) w w') : Kp G w w':=⟨h.low,fun k hk=>h.ex k (.inl hk)⟩
section
variable {C : Cfg} {G : Gd} {rec : FuncId → List DV → Hp → aH} {nt n : Nat} {I : ItC}
def StL (G : Gd) (nt : Nat) (ρ : Ren) (w0 : World) (k : K) (r : DV × Hp) (a : Act) (w : World) : Prop :=
 ∃ Ds ρ' env h,Ex G ρ ρ' ∧ HR (GDs G Ds) ρ' h w ∧ EnvR ρ' env a ∧ Kp G w0 w ∧ nt ≤ a.tmps.size ∧ a.defers = Ds.map mkD ∧ Ds.Nodup ∧ (∀ D ∈ Ds,Own G D ∧ w.heap[D]? = some (.deferred (some []))) ∧ k env h = some r
def QL (G : Gd) (nt : Nat) (ρ : Ren) (w0 : World) (X : Nat → K) (kr k : K) (r : DV × Hp) : Exit → Act → World → Prop
 | .normal,a,w=>StL G nt ρ w0 k r a w
 | .exit id,a,w=>StL G nt ρ w0 (X id) r a w
 | .ret,a,w=>StL G nt ρ w0 kr r a w
 | _,_,_=>False
theorem cOd {N : Nat} (K : OkC C rec) (hm : C.P.follows .mixedOrders = true) (iOk : ItOk C.P I) {ρ : Ren} {w0 : World} {r : DV × Hp} : ∀ (c : Code),gZ c = true → ∀ (X : Nat → Dd.K) (kr k : Dd.K) (a : Act) (w : World),
  StL G nt ρ w0 (lG C rec nt n I c X kr k) r a w → c.wpIn (Fw none) N C.P (QL G nt ρ w0 X kr k r) a w:=by
 have plain : ∀ (c : Code),dZ c = true → ∀ (X : Nat → Dd.K) (kr k : Dd.K) (a : Act) (w : World),StL G nt ρ w0 (aW C rec nt n c X kr k) r a w → c.wpIn (Fw none) N C.P (QL G nt ρ w0 X kr k r) a w:=by
  rintro c hc X kr k a w ⟨Ds, ρ',env,h,e1,e2,e3,e4,e5,e6,e7,e8,e9⟩
  have back : ∀ (J : Dd.K) (a' : Act) (w' : World),St (Ds.map mkD) (GDs G Ds) nt ρ' w J r a' w' → StL G nt ρ w0 J r a' w':=by
   rintro J a' w' ⟨ρ2,env2,h2,q1,q2,q3,q4,q5,q6,q7⟩
   exact ⟨Ds, ρ2,env2,h2,e1.trans q1.ofGDs,q2,q3,e4.trans q4.ofGDs,q5,q6,e7,fun D hD=>⟨(e8 D hD).1,by rw [q4.ex D (.inr hD)]; exact (e8 D hD).2⟩,q7⟩
  refine wpIn_mono (bLl (DD:=Ds.map mkD) (G:=GDs G Ds) (ρ := ρ') (w0:=w) K hm c hc X kr k a w ⟨ρ',env,h,Ex.refl _ _,e2,e3,Kp.refl _ _,e5,e6,e9⟩) fun e a' w' hq => ?_
  cases e with
  | normal=>exact back _ _ _ hq
  | exit id=>exact back _ _ _ hq
  | ret=>exact back _ _ _ hq
  | goto l=>exact hq
  | panic ch=>exact hq
  | outgrown=>exact hq
 intro c
 induction c with
 | skip=>intro _ X kr k a w h; exact wpIn_skip h
 | region id ops dr=>intro hpc X kr k a w h; exact plain (.region id ops dr) hpc X kr k a w h
 | seq x y ihx ihy =>
  intro hpc X kr k a w h
  simp only [gZ,Bool.and_eq_true] at hpc
  refine wpIn_seq (wpIn_mono (ihx hpc.1 X kr (lG C rec nt n I y X kr k) a w h) fun e a' w' hq => ?_)
  cases e with
  | normal=>exact ihy hpc.2 X kr k a' w' hq
  | exit id=>exact hq
  | ret=>exact hq
  | goto l=>exact hq
  | panic ch=>exact hq
  | outgrown=>exact hq
 | cond c x y ihx ihy =>
  intro hpc X kr k a w h
  simp only [gZ,Bool.and_eq_true] at hpc
  obtain ⟨Ds, ρ',env,hp,h1,h2,h3,h4,h5,h6,h8,h9,h7⟩:=h
  change aR (opr env c) (lG C rec nt n I x X kr k env hp) (lG C rec nt n I y X kr k env hp) = some r at h7
  have hc:=bD h3 c
  rw [oL] at h7
  split at h7 <;> (try (cases h7; done))
  ·rename_i hcb
   rw [hcb] at hc
   generalize hcv : a.eval c = cv at hc
   cases hc
   exact wpIn_cond_true hcv (ihx hpc.1 X kr k a w ⟨Ds, ρ',env,hp,h1,h2,h3,h4,h5,h6,h8,h9,h7⟩)
  ·rename_i hcb
   rw [hcb] at hc
   generalize hcv : a.eval c = cv at hc
   cases hc
   exact wpIn_cond_false hcv (ihy hpc.2 X kr k a w ⟨Ds, ρ',env,hp,h1,h2,h3,h4,h5,h6,h8,h9,h7⟩)
 | block id x ih =>
  intro hpc X kr k a w h
  refine wpIn_block (wpIn_mono (ih hpc (fun j=>bif Nat.beq j id then k else X j) kr k a w h) fun e a' w' hq => ?_)
  cases e with
  | normal=>exact hq
  | exit id' =>
   simp only [QL] at hq
   simp only [Exit.inBlock,QL]
   split
   ·rename_i e
    subst e
    have hb : Nat.beq id' id' = true:=Nat.beq_refl id'
    rw [hb] at hq
    exact hq
   ·rename_i e
    have : Nat.beq id' id = false:=by
     cases hb : Nat.beq id' id with
     | false=>rfl
     | true=>exact absurd (Nat.eq_of_beq_eq_true hb) e
    rw [this] at hq
    exact hq
  | ret=>exact hq
  | goto l=>exact hq
  | panic ch=>exact hq
  | outgrown=>exact hq
 | loop x ih =>
  intro hpc X kr k a w h
  have key : ∀ (m : Nat) (a : Act) (w : World),StL G nt ρ w0 (aM (fun kk=>lG C rec nt n I x X kr kk) m) r a w → Code.roundsIn (Fw none) N C.P x (QL G nt ρ w0 X kr k r) m a w:=by
   intro m
   induction m with
   | zero =>
    rintro a w ⟨Ds, ρ',env,hp,h1,h2,h3,h4,h5,h6,h8,h9,h7⟩
    cases h7
   | succ m ihm =>
    intro a w hs
    rw [roundsIn_succ]
    refine wpIn_mono (ih hpc X kr (aM (fun kk=>lG C rec nt n I x X kr kk) m) a w hs) fun e a' w' hq => ?_
    cases e with
    | normal=>exact ihm a' w' hq
    | exit id=>exact hq
    | ret=>exact hq
    | goto l=>exact hq
    | panic ch=>exact hq
    | outgrown=>exact hq
  exact wpIn_loop_rounds n (key n a w h)
 | rangeFunc g ps x y ihx ihy =>
  intro hpc X kr k a w h
  simp only [gZ,Bool.and_eq_true] at hpc
  obtain ⟨Ds, ρ',env,hp,h1,h2,h3,h4,h5,h6,h8,h9,h7⟩:=h
  change eGl ps (fun p=>lL C rec n I nt g p x y X kr k) env hp = some r at h7
  obtain ⟨p,hps,h7⟩ : ∃ p,ps = #[p] ∧ lL C rec n I nt g p x y X kr k env hp = some r:=by
   unfold eGl at h7
   obtain ⟨l⟩:=ps
   match l,h7 with
   | [p],h7=>exact ⟨p,rfl,h7⟩
   | [],h7=>cases h7
   | _ :: _ :: _,h7=>cases h7
  subst hps
  have back : ∀ (J : Dd.K) (a' : Act) (w' : World),StM (Ds.map mkD) (GDs G Ds) nt ρ' w J r a' w' → StL G nt ρ w0 J r a' w':=by
   rintro J a' w' ⟨D, ρ2,env2,h2,q1,q2,q3,q4,q5,q6,q7,q8,q9⟩
   have hn : D ∉ Ds:=fun hD=>q7.2 (.inr hD)
   refine ⟨D :: Ds, ρ2,env2,h2,h1.trans q1.ofGDs,q2.weak rfl (fun k hk => ?_) (Nat.le_refl _) rfl,q3,h4.trans q4.ofGDs,q5,q6,List.nodup_cons.2 ⟨hn,h8⟩,fun E hE => ?_,q9⟩
   ·rcases hk with hk | hk
    ·exact .inl (.inl hk)
    ·rcases List.mem_cons.1 hk with rfl | hk
     ·exact .inr rfl
     ·exact .inl (.inr hk)
   ·rcases List.mem_cons.1 hE with rfl | hE
    ·exact ⟨⟨q7.1,fun hX=>q7.2 (.inl hX)⟩,q8⟩
    ·exact ⟨(h9 E hE).1,by rw [q4.ex E (.inr hE)]; exact (h9 E hE).2⟩
  refine wpIn_mono (cAy (DD:=Ds.map mkD) (G:=GDs G Ds) (ρ := ρ') (w0:=w) K hm iOk hpc.1 hpc.2 ⟨ρ',env,hp,Ex.refl _ _,h2,h3,Kp.refl _ _,h5,h6,h7⟩) fun e a' w' hq => ?_
  cases e with
  | normal=>exact back _ _ _ hq
  | exit id=>exact back _ _ _ hq
  | ret=>exact back _ _ _ hq
  | goto l=>exact hq
  | panic ch=>exact hq
  | outgrown=>exact hq
 | exit id=>intro _ X kr k a w h; exact wpIn_exit h
 | ret=>intro _ X kr k a w h; exact wpIn_ret h
 | _=>intro hpc; cases hpc
theorem bKa {N : Nat} {fn : Func} {ρ : Ren} {w0 : World} {v : DV} {h1 : Hp} {a : Act} : ∀ (Ds : List Nat) (w : World),(∃ ρ' env h,Ex G ρ ρ' ∧ HR (GDs G Ds) ρ' h w ∧ EnvR ρ' env a ∧ Kp G w0 w ∧ bE C fn env h = some (v,h1)) →
  G.B ≤ w0.heap.size → (∀ k,G.X k → k < w0.heap.size) → Ds.Nodup → (∀ D ∈ Ds,Own G D ∧ w.heap[D]? = some (.deferred (some []))) →
  LeavesInM (Fw none) N C.P fn a.tmps (bS G ρ w0 v h1) (Ds.map mkD) .returning w
 | [],w,⟨ρ',env,h,e1,e2,e3,e4,e5⟩,_,_,_,_=>by
  obtain ⟨rfl,v',r1,r2⟩:=aKj e2 e3 e5
  exact ⟨v',r1, ρ',v',rfl,e1,r2,e2.weak rfl (fun k hk=>.inl hk) (Nat.le_refl _) rfl,e4⟩
 | D :: Ds,w,⟨ρ',env,h,e1,e2,e3,e4,e5⟩,hB,hs,hnd,hD=>by
  obtain ⟨o1,o2⟩:=hD D (by simp)
  have hnd':=List.nodup_cons.1 hnd
  refine ⟨by simp,.inl ⟨D,_,rfl,run_takeDeferred o2, ?_⟩⟩
  refine bKa Ds _ ⟨ρ',env,h,e1,(e2.putX (l:=D) (o:=.deferred (some [])) (o':=.deferred none) o1.1 (.inr (by simp)) o2 rfl rfl).weak rfl (fun k hk => ?_) (Nat.le_refl _) rfl,e3,e4.putX o1 hs hB o2,e5⟩ hB hs hnd'.2 fun E hE => ?_
  ·rcases hk with hk | hk
   ·exact .inl hk
   ·exact .inr (List.mem_cons_of_mem _ hk)
  ·have hne : E ≠ D:=fun e=>hnd'.1 (by rw [← e]; exact hE)
   exact ⟨(hD E (List.mem_cons_of_mem _ hE)).1,by rw [World.putObj_heap_other hne]; exact (hD E (List.mem_cons_of_mem _ hE)).2⟩
theorem cWh (K : OkC C rec) (hP : POk C.P) (iOk : ItOk C.P I) (n : Nat) (f : FuncId) (hc : ∀ fn c,C.P.funcs[f]? = some fn → fn.body = some c → gZ c = true) : jV C.P G f (jM C rec n I f):=by
 intro args h v h1 hr ρ w args' H hargs
 unfold jM at hr
 split at hr <;> (try (cases hr; done))
 rename_i fn hf
 split at hr <;> (try (cases hr; done))
 rename_i c hb
 refine .inl ⟨?_, ?_⟩
 ·unfold callFunc
  have hn : ¬ fn.name = "runtime.NumGoroutine" := by simpa using hP.names f fn hf
  simp [hf,hn,hb]
 ·refine (callsIn_wide (n:=3)).1 ?_
  show CallsIn (Fw none) 3 C.P f args' w _
  refine callsIn_of_wp_marks hf hb trivial ?_
  have he:=aVv hargs fn.ntmps []
  have hst : StL G fn.ntmps ρ w (lG C rec fn.ntmps n I c (fun _=>bY) (bE C fn) (bE C fn)) (v,h1) { tmps:=args' ++ Array.replicate (fn.ntmps - args'.size) undef,defers:=[] } w :=
   ⟨[], ρ,aQ args,h,Ex.refl G ρ,H.weak rfl (fun k hk=>by rcases hk with hk | hk; exact hk; cases hk) (Nat.le_refl _) rfl,he,Kp.refl G w,by simp; omega,rfl,List.nodup_nil,(by simp),hr⟩
  refine wpIn_mono (cOd K hP.mixed iOk c (hc fn c hf hb) _ _ _ _ _ hst) fun e a' w' hq => ?_
  have hfin : StL G fn.ntmps ρ w (bE C fn) (v,h1) a' w' → LeavesInM (Fw none) 3 C.P fn a'.tmps (bS G ρ w v h1) a'.defers .returning w':=by
   rintro ⟨Ds, ρ',env,h',e1,e2,e3,e4,e5,e6,e7,e8,e9⟩
   rw [e6]
   exact bKa Ds w' ⟨ρ',env,h',e1,e2,e3,e4,e9⟩ H.sz.1 H.sz.2 e7 e8
  cases e with
  | normal=>exact hfin hq
  | ret=>exact hfin hq
  | exit id =>
   obtain ⟨Ds, ρ',env,h',e1,e2,e3,e4,e5,e6,e7,e8,e9⟩:=hq
   cases e9
  | goto l=>exact hq.elim
  | panic ch=>exact hq.elim
  | outgrown=>exact hq.elim
end
end Go.Dd

namespace Go.Dd
noncomputable section
def WT.get (t : WT) : Nat → Int :=
 WT.rec (motive:=fun _=>Nat → Int) (fun _=>.ofNat 0)
  (fun _ v _ ihl ihr k=>bif Nat.beq k 0 then v else bif Nat.beq (Nat.mod k 2) 1 then ihl (Nat.div k 2) else ihr (Nat.div (Nat.sub k 1) 2)) t
def fBw (x : Int) (fuel : Nat) : Nat → WT → WT :=
 Nat.rec (motive:=fun _=>Nat → WT → WT) (fun _ t=>t)
  (fun _ ih k t=>WT.rec (motive:=fun _=>WT)
   (bif Nat.beq k 0 then .n .e x .e else bif Nat.beq (Nat.mod k 2) 1 then .n (ih (Nat.div k 2) .e) (.ofNat 0) .e else .n .e (.ofNat 0) (ih (Nat.div (Nat.sub k 1) 2) .e))
   (fun l v r _ _=>bif Nat.beq k 0 then .n l x r else bif Nat.beq (Nat.mod k 2) 1 then .n (ih (Nat.div k 2) l) v r else .n l v (ih (Nat.div (Nat.sub k 1) 2) r)) t) fuel
def WT.set (t : WT) (k : Nat) (x : Int) : WT:=fBw x 24 k t
theorem WT.get_e (k : Nat) : WT.e.get k = 0:=rfl
theorem fBq (l : WT) (v : Int) (r : WT) (k : Nat) : (WT.n l v r).get k = if k = 0 then v else if k % 2 = 1 then l.get (k / 2) else r.get ((k - 1) / 2):=by
 show (bif Nat.beq k 0 then v else bif Nat.beq (Nat.mod k 2) 1 then l.get (Nat.div k 2) else r.get (Nat.div (Nat.sub k 1) 2)) = _
 cases h0 : Nat.beq k 0 with
 | true=>have:=Nat.eq_of_beq_eq_true h0; subst this; rfl
 | false =>
  have n0 : k ≠ 0:=by intro e; subst e; cases h0
  rw [if_neg n0]
  cases h1 : Nat.beq (Nat.mod k 2) 1 with
  | true=>have : k % 2 = 1:=Nat.eq_of_beq_eq_true h1; rw [if_pos this]; rfl
  | false =>
   have n1 : k % 2 ≠ 1:=by intro e; have e' : Nat.mod k 2 = 1:=e; rw [e'] at h1; cases h1
   rw [if_neg n1]; rfl
theorem fCg (x : Int) (f k : Nat) (t : WT) : fBw x (f + 1) k t = match t with
  | .e=>if k = 0 then .n .e x .e else if k % 2 = 1 then .n (fBw x f (k / 2) .e) 0 .e else .n .e 0 (fBw x f ((k - 1) / 2) .e)
  | .n l v r=>if k = 0 then .n l x r else if k % 2 = 1 then .n (fBw x f (k / 2) l) v r else .n l v (fBw x f ((k - 1) / 2) r):=by
 have hb : ∀ {α : Type} (a b c : α),(bif Nat.beq k 0 then a else bif Nat.beq (Nat.mod k 2) 1 then b else c) = if k = 0 then a else if k % 2 = 1 then b else c:=by
  intro α a b c
  cases h0 : Nat.beq k 0 with
  | true=>have:=Nat.eq_of_beq_eq_true h0; subst this; rfl
  | false =>
   have n0 : k ≠ 0:=by intro e; subst e; cases h0
   rw [if_neg n0]
   cases h1 : Nat.beq (Nat.mod k 2) 1 with
   | true=>have : k % 2 = 1:=Nat.eq_of_beq_eq_true h1; rw [if_pos this]; rfl
   | false =>
    have n1 : k % 2 ≠ 1:=by intro e; have e' : Nat.mod k 2 = 1:=e; rw [e'] at h1; cases h1
    rw [if_neg n1]; rfl
 cases t with
 | e=>exact hb _ _ _
 | n l v r=>exact hb _ _ _
theorem fBz (x : Int) : ∀ (f k : Nat) (t : WT) (j : Nat),k + 1 < 2 ^ f → (fBw x f k t).get j = if j = k then x else t.get j
 | 0,k,t,j,h=>by simp at h
 | f + 1,k,t,j,h=>by
  have h2 : 2 ^ (f + 1) = 2 * 2 ^ f:=by rw [Nat.pow_succ]; omega
  have ih:=fun k t j (h : k + 1 < 2 ^ f)=>fBz x f k t j h
  rw [fCg]
  cases t with
  | e =>
   simp only
   split
   ·subst_vars
    rw [fBq]
    split
    ·rfl
    ·simp [WT.get_e]
   ·split
    ·rw [fBq]
     split
     ·subst_vars; rw [if_neg (by omega)]; rfl
     ·split
      ·rw [ih _ _ _ (by omega),WT.get_e,WT.get_e]
       by_cases hj : j = k
       ·rw [if_pos hj,if_pos (by omega)]
       ·rw [if_neg hj,if_neg (by omega)]
      ·rw [WT.get_e,if_neg (by omega)]; rfl
    ·rw [fBq]
     split
     ·subst_vars; rw [if_neg (by omega)]; rfl
     ·split
      ·rw [WT.get_e,if_neg (by omega)]; rfl
      ·rw [ih _ _ _ (by omega),WT.get_e,WT.get_e]
       by_cases hj : j = k
       ·rw [if_pos hj,if_pos (by omega)]
       ·rw [if_neg hj,if_neg (by omega)]
  | n l v r =>
   simp only
   split
   ·subst_vars
    rw [fBq,fBq]
    split
    ·rfl
    ·rfl
   ·split
    ·rw [fBq,fBq]
     split
     ·subst_vars; rw [if_neg (by omega)]
     ·split
      ·rw [ih _ _ _ (by omega)]
       by_cases hj : j = k
       ·rw [if_pos hj,if_pos (by omega)]
       ·rw [if_neg hj,if_neg (by omega)]
      ·rw [if_neg (by omega)]
    ·rw [fBq,fBq]
     split
     ·subst_vars; rw [if_neg (by omega)]
     ·split
      ·rw [if_neg (by omega)]
      ·rw [ih _ _ _ (by omega)]
       by_cases hj : j = k
       ·rw [if_pos hj,if_pos (by omega)]
       ·rw [if_neg hj,if_neg (by omega)]
theorem WT.get_set (t : WT) (k : Nat) (x : Int) (j : Nat) (h : k < 16000000) : (t.set k x).get j = if j = k then x else t.get j :=
 fBz x 24 k t j (by omega)
def iO (n : Nat) (t : WT) : List DV:=(List.range n).map fun i=>.i .i64 (t.get i)
def vL (g : Bool) : Ob → Ob → Prop
 | .big n t,o=>if g then o = .big n t else o = .row .ex (iO n t)
 | .mi t,o=>if g then o = .mi t else ∃ es,o = .mp es ∧ ∀ a : Int,gW (.int .i64) (.i .i64 a) es = some (if 0 ≤ a ∧ t.get a.toNat ≠ 0 then some (.b true) else none)
 | o,o'=>o' = o
structure Sim (g : Bool) (h h' : Hp) : Prop where
 next : h'.next = h.next
 get : ∀ b o,h.bl.get b = some o → ∃ o',h'.bl.get b = some o' ∧ vL g o o'
def SimR (g : Bool) (r r' : aH) : Prop:=∀ v h,r = some (v,h) → ∃ h',r' = some (v,h') ∧ Sim g h h'
def SimP (g : Bool) (p p' : Hp → aH) : Prop:=∀ h h',Sim g h h' → SimR g (p h) (p' h')
variable {h h' : Hp} {g : Bool}
theorem Sim.row (S : Sim g h h') {b : Pos} {k : Kind} {l : List DV} (hb : h.bl.get b = some (.row k l)) : h'.bl.get b = some (.row k l):=by
 obtain ⟨o',h1,h2⟩:=S.get b _ hb
 rw [h1,show o' = .row k l from h2]
theorem Sim.it (S : Sim g h h') {b : Pos} {s : List Nat} {p : Nat} (hb : h.bl.get b = some (.it s p)) : h'.bl.get b = some (.it s p):=by
 obtain ⟨o',h1,h2⟩:=S.get b _ hb
 rw [h1,show o' = .it s p from h2]
theorem Sim.mp (S : Sim g h h') {b : Pos} {es : List (DV × DV)} (hb : h.bl.get b = some (.mp es)) : h'.bl.get b = some (.mp es):=by
 obtain ⟨o',h1,h2⟩:=S.get b _ hb
 rw [h1,show o' = .mp es from h2]
theorem Sim.set (S : Sim g h h') {o o' : Ob} (hr : vL g o o') (b n : Pos) : Sim g ⟨n,Tr.set o b h.bl⟩ ⟨n,Tr.set o' b h'.bl⟩:=by
 refine ⟨rfl,fun x ob hx => ?_⟩
 by_cases e : x = b
 ·subst e
  simp only [fAx,bB] at hx ⊢
  subst hx
  exact ⟨o',rfl,hr⟩
 ·simp only [fAw _ _ _ _ e] at hx ⊢
  exact S.get x ob hx
theorem Sim.setR (S : Sim g h h') (k : Kind) (l : List DV) (b n : Pos) : Sim g ⟨n,Tr.set (.row k l) b h.bl⟩ ⟨n,Tr.set (.row k l) b h'.bl⟩:=S.set (show vL g (.row k l) (.row k l) from rfl) b n
theorem Sim.setM (S : Sim g h h') (es : List (DV × DV)) (b n : Pos) : Sim g ⟨n,Tr.set (.mp es) b h.bl⟩ ⟨n,Tr.set (.mp es) b h'.bl⟩:=S.set (show vL g (.mp es) (.mp es) from rfl) b n
theorem Sim.setI (S : Sim g h h') (s : List Nat) (p : Nat) (b n : Pos) : Sim g ⟨n,Tr.set (.it s p) b h.bl⟩ ⟨n,Tr.set (.it s p) b h'.bl⟩:=S.set (show vL g (.it s p) (.it s p) from rfl) b n
theorem Sim.new (S : Sim g h h') {o o' : Ob} (hr : vL g o o') : Sim g ⟨h.next.succ,Tr.set o h.next h.bl⟩ ⟨h'.next.succ,Tr.set o' h'.next h'.bl⟩:=by
 rw [S.next]; exact S.set hr _ _
theorem SimR.none (r : aH) : SimR g none r:=fun v h e=>by cases e
theorem SimR.some (S : Sim g h h') (v : DV) : SimR g (some (v,h)) (some (v,h')):=fun u k e=>by
 simp only [bB,bN] at e
 obtain ⟨rfl,rfl⟩:=e
 exact ⟨h',rfl,S⟩
theorem fAz {F : Hp → aH} (hF : PureP F) : SimP g F F:=fun h h' S v k e=>by
 obtain ⟨rfl,h2⟩:=hF h v k e
 exact ⟨h',h2 h',S⟩
theorem Sim.rowOf (S : Sim g h h') {b : Pos} {l : List DV} (hb : rowOf b h = some l) : rowOf b h' = some l:=by
 rw [cQ] at hb ⊢
 split at hb <;> (try (cases hb; done))
 rename_i k l0 h0
 rw [S.row h0]; exact hb
theorem Sim.cellsAt (S : Sim g h h') {b : Pos} {o n : Nat} {cs : List DV} (hb : cellsAt b o n h = some cs) : cellsAt b o n h' = some cs:=by
 unfold Dd.cellsAt at hb ⊢
 simp only [dropD_eq] at hb ⊢
 split at hb <;> (try (cases hb; done))
 rename_i l h0
 rw [S.rowOf h0]; exact hb
theorem Sim.cellD (S : Sim g h h') {b : Pos} {o : Nat} {v : DV} (hb : cellD b o h = some v) : cellD b o h' = some v:=by
 rw [dD] at hb ⊢
 simp only [nthD_eq] at hb ⊢
 split at hb <;> (try (cases hb; done))
 rename_i l h0
 rw [S.rowOf h0]; exact hb
theorem Sim.storeAt (S : Sim g h h') {b : Pos} {o : Nat} {vs : List DV} {k : Hp} (hb : fQ b o vs h = some k) : ∃ k',fQ b o vs h' = some k' ∧ Sim g k k':=by
 rw [cW] at hb ⊢
 simp only [putQ_eq] at hb ⊢
 split at hb <;> (try (cases hb; done))
 rename_i kd l h0
 rw [S.row h0]
 dsimp only
 split at hb <;> (try (cases hb; done))
 rename_i hw
 rw [if_pos hw]
 split at hb <;> (try (cases hb; done))
 rename_i l' hp
 simp only [bB] at hb
 subst hb
 try simp only [hp]
 exact ⟨_,rfl,by rw [S.next]; exact S.set (show vL g (.row kd l') (.row kd l') from rfl) _ _⟩
theorem aMq (cs : List DV) : SimP g (bQ cs) (bQ cs):=fun h h' S v k e=>by
 simp only [bQ,bB,bN] at e ⊢
 obtain ⟨rfl,rfl⟩:=e
 exact ⟨_,⟨by rw [S.next],rfl⟩,S.new rfl⟩
theorem aFx (b : Pos) (cs : List DV) : SimP g (nA b cs) (nA b cs):=fun h h' S v k e=>by
 simp only [nA,bB,bN] at e ⊢
 obtain ⟨rfl,rfl⟩:=e
 exact ⟨_,⟨rfl,rfl⟩,by rw [S.next]; first | exact S.setR _ _ _ _ | exact S.setM _ _ _ | exact S.setI _ _ _ _⟩
theorem dOf (x : DV) : SimP g (bZ x) (bZ x):=by
 unfold bZ
 cases dJ x with
 | none=>exact fun h h' S=>SimR.none _
 | some cs=>exact aMq cs
theorem bQt (b : Pos) (x : DV) : SimP g (aBp b x) (aBp b x):=by
 unfold aBp
 cases dJ x with
 | none=>exact fun h h' S=>SimR.none _
 | some cs=>exact aFx b cs
theorem iY (x : DV) : SimP g (aA x) (aA x):=fun h h' S v k e=>by
 rw [cO] at e ⊢
 split at e <;> (try (cases e; done))
 split at e <;> (try (cases e; done))
 rename_i hc
 simp only [bB,bN] at e
 obtain ⟨rfl,rfl⟩:=e
 simp only [S.cellD hc]
 exact ⟨_,rfl,S⟩
theorem jB (n : Nat) (x : DV) : SimP g (aK n x) (aK n x):=fun h h' S v k e=>by
 rw [eH] at e ⊢
 split at e <;> (try (cases e; done))
 split at e <;> (try (cases e; done))
 rename_i hc
 simp only [bB,bN] at e
 obtain ⟨rfl,rfl⟩:=e
 simp only [S.cellsAt hc]
 exact ⟨_,rfl,S⟩
theorem eW (n : Nat) (x y : DV) : SimP g (aJ n x y) (aJ n x y):=fun h h' S v k e=>by
 rw [eM] at e ⊢
 split at e <;> (try (cases e; done))
 rename_i b o cs hc
 try rw [hc]
 try dsimp only
 split at e <;> (try (cases e; done))
 rename_i hn
 rw [if_pos hn]
 split at e <;> (try (cases e; done))
 rename_i k0 hs
 simp only [bB,bN] at e
 obtain ⟨rfl,rfl⟩:=e
 obtain ⟨k',h1,h2⟩:=S.storeAt hs
 try simp only [h1]
 exact ⟨_,rfl,h2⟩
theorem bWs (size : Nat) (x : DV) (lo hi : Option DV) : SimP g (eL size x lo hi) (eL size x lo hi):=fun h h' S v k e=>by
 unfold eL at e ⊢
 split at e <;> (try (cases e; done))
 ·split at e <;> (try (cases e; done))
  rename_i en he
  try simp only [he]
  split at e <;> (try (cases e; done))
  rename_i s hs
  try simp only [hs]
  split at e <;> (try (cases e; done))
  ·rename_i l0 hb
   rw [S.row hb]
   simp only [bB,bN] at e
   obtain ⟨rfl,rfl⟩:=e
   exact ⟨_,rfl,S⟩
  ·rename_i l0 hb
   rw [S.row hb]
   simp only [bB,bN] at e
   obtain ⟨rfl,rfl⟩:=e
   exact ⟨_,rfl,S⟩
  ·rename_i k0 l0 n1 n2 hb
   rw [S.row hb]
   cases k0 with
   | ro=>exact absurd rfl n1
   | ex=>exact absurd rfl n2
   | gr es =>
    dsimp only
    split at e
    ·rename_i hcs
     simp only [bB,bN] at e
     obtain ⟨rfl,rfl⟩:=e
     rw [if_pos hcs]
     exact ⟨_,rfl,S⟩
    ·rename_i hcs
     simp only [bB,bN] at e
     obtain ⟨rfl,rfl⟩:=e
     rw [if_neg hcs]
     exact ⟨_,rfl,S⟩
   | sp =>
    dsimp only
    split at e
    ·rename_i hcs
     simp only [bB,bN] at e
     obtain ⟨rfl,rfl⟩:=e
     rw [if_pos hcs]
     exact ⟨_,rfl,S⟩
    ·rename_i hcs
     simp only [bB,bN] at e
     obtain ⟨rfl,rfl⟩:=e
     rw [if_neg hcs]
     exact ⟨_,rfl,S⟩
 all_goals
  split at e <;> (try (cases e; done))
  rename_i en he
  try simp only [he]
  split at e <;> (try (cases e; done))
  rename_i s hs
  try simp only [hs]
  simp only [bB,bN] at e
  obtain ⟨rfl,rfl⟩:=e
  exact ⟨_,rfl,S⟩
theorem aYk (x : DV) (lo : Option DV) (hi mx : DV) : SimP g (oS x lo hi mx) (oS x lo hi mx):=fun h h' S v k e=>by
 unfold oS at e ⊢
 split at e <;> (try (cases e; done))
 all_goals
  split at e <;> (try (cases e; done))
 ·rename_i m e1
  try simp only [e1]
  split at e <;> (try (cases e; done))
  rename_i n e2
  try simp only [e2]
  simp only [bB,bN] at e
  obtain ⟨rfl,rfl⟩:=e
  exact ⟨_,rfl,S⟩
 ·rename_i m e1
  try simp only [e1]
  split at e <;> (try (cases e; done))
  rename_i n e2
  try simp only [e2]
  simp only [bB,bN] at e
  obtain ⟨rfl,rfl⟩:=e
  exact ⟨_,rfl,S⟩
 ·rename_i n1 n2 e1 e2
  try simp only [e1,e2]
  simp only [bB,bN] at e
  obtain ⟨rfl,rfl⟩:=e
  exact ⟨_,rfl,S⟩
 ·rename_i n1 n2 e1 e2
  try simp only [e1,e2]
  simp only [bB,bN] at e
  obtain ⟨rfl,rfl⟩:=e
  exact ⟨_,rfl,S⟩
theorem bQs (x : DV) : SimP g (nG x) (nG x):=fun h h' S v k e=>by
 unfold nG at e ⊢
 split at e <;> (try (cases e; done))
 ·simp only [bB,bN] at e
  obtain ⟨rfl,rfl⟩:=e
  exact ⟨_,rfl,S⟩
 ·split at e <;> (try (cases e; done))
  rename_i cs hc
  simp only [S.cellsAt hc]
  split at e <;> (try (cases e; done))
  rename_i l hl
  try simp only [hl]
  simp only [bB,bN] at e
  obtain ⟨rfl,rfl⟩:=e
  exact ⟨_,rfl,S⟩
theorem aAt (z : List DV) (n : Nat) (ps : List (Nat × Nat × DV)) : SimP g (aS z n ps) (aS z n ps):=fun h h' S v k e=>by
 unfold aS at e ⊢
 split at e <;> (try (cases e; done))
 rename_i cs hf
 try simp only [hf]
 simp only [bB,bN] at e ⊢
 obtain ⟨rfl,rfl⟩:=e
 exact ⟨_,⟨by rw [S.next],rfl⟩,S.new rfl⟩
theorem uL (b : Pos) (z : List DV) (n : Nat) (ps : List (Nat × Nat × DV)) : SimP g (bL b z n ps) (bL b z n ps):=fun h h' S v k e=>by
 unfold bL at e ⊢
 split at e <;> (try (cases e; done))
 rename_i cs hf
 try simp only [hf]
 simp only [bB,bN] at e ⊢
 obtain ⟨rfl,rfl⟩:=e
 exact ⟨_,⟨rfl,rfl⟩,by rw [S.next]; first | exact S.setR _ _ _ _ | exact S.setM _ _ _ | exact S.setI _ _ _ _⟩
theorem aTc : SimP g eE eE:=fun h h' S v k e=>by
 simp only [eE,bB,bN] at e ⊢
 obtain ⟨rfl,rfl⟩:=e
 exact ⟨_,⟨by rw [S.next],rfl⟩,S.new rfl⟩
theorem Sim.entries (S : Sim g h h') {x : DV} {es : List (DV × DV)} (he : kL x h = some es) : kL x h' = some es:=by
 unfold kL at he ⊢
 split at he <;> (try (cases he; done))
 ·exact he
 ·split at he <;> (try (cases he; done))
  rename_i hb
  rw [S.mp hb]; exact he
theorem zY (d : TypeDesc) (z : DV) (ok : Bool) (x key : DV) : SimP g (dV d z ok x key) (dV d z ok x key):=fun h h' S v k e=>by
 unfold dV at e ⊢
 split at e <;> (try (cases e; done))
 rename_i es he
 simp only [S.entries he]
 split at e <;> (try (cases e; done))
 all_goals
  rename_i hf
  try simp only [hf]
  simp only [bB,bN] at e
  obtain ⟨rfl,rfl⟩:=e
  exact ⟨_,rfl,S⟩
theorem zP (d : TypeDesc) (x key y : DV) : SimP g (fW d x key y) (fW d x key y):=fun h h' S v k e=>by
 unfold fW at e ⊢
 split at e <;> (try (cases e; done))
 split at e <;> (try (cases e; done))
 rename_i b _ es hb
 rw [S.mp hb]
 dsimp only
 split at e <;> (try (cases e; done))
 rename_i hf
 try simp only [hf]
 simp only [bB,bN] at e
 obtain ⟨rfl,rfl⟩:=e
 exact ⟨_,rfl,by rw [S.next]; first | exact S.setR _ _ _ _ | exact S.setM _ _ _ | exact S.setI _ _ _ _⟩
theorem aNt (d : TypeDesc) (z x key : DV) : SimP g (jE d z x key) (jE d z x key):=fun h h' S v k e=>by
 unfold jE at e ⊢
 split at e <;> (try (cases e; done))
 split at e <;> (try (cases e; done))
 rename_i b _ es hb
 rw [S.mp hb]
 dsimp only
 split at e <;> (try (cases e; done))
 all_goals
  rename_i hf
  try simp only [hf]
  simp only [bB,bN] at e
  obtain ⟨rfl,rfl⟩:=e
  exact ⟨_,rfl,by rw [S.next]; first | exact S.setR _ _ _ _ | exact S.setM _ _ _ | exact S.setI _ _ _ _⟩
theorem aBq (x s y : DV) : SimP g (gH x s y) (gH x s y):=fun h h' S v k e=>by
 unfold gH at e ⊢
 split at e <;> (try (cases e; done))
 split at e <;> (try (cases e; done))
 rename_i es hb
 rw [S.mp hb]
 dsimp only
 split at e <;> (try (cases e; done))
 rename_i hf
 try simp only [hf]
 simp only [bB,bN] at e
 obtain ⟨rfl,rfl⟩:=e
 exact ⟨_,rfl,by rw [S.next]; first | exact S.setR _ _ _ _ | exact S.setM _ _ _ | exact S.setI _ _ _ _⟩
theorem aFa (size bytes : Nat) (z : List DV) (n c : DV) : SimP g (cI size bytes z n c) (cI size bytes z n c):=fun h h' S v k e=>by
 unfold cI at e ⊢
 split at e <;> (try (cases e; done))
 split at e <;> (try (cases e; done))
 rename_i hc
 rw [if_pos hc]
 simp only [bB,bN] at e ⊢
 obtain ⟨rfl,rfl⟩:=e
 exact ⟨_,⟨by rw [S.next],rfl⟩,S.new rfl⟩
theorem bQx (z : List DV) (x : DV) : SimP g (kY z x) (kY z x):=fun h h' S v k e=>by
 unfold kY at e ⊢
 split at e <;> (try (cases e; done))
 ·simp only [bB,bN] at e
  obtain ⟨rfl,rfl⟩:=e
  exact ⟨_,rfl,S⟩
 ·simp only [bB,bN] at e
  obtain ⟨rfl,rfl⟩:=e
  exact ⟨_,rfl,S⟩
 ·split at e
  ·rename_i hn
   simp only [bB,bN] at e
   obtain ⟨rfl,rfl⟩:=e
   simp only [hn,if_true]
   exact ⟨_,rfl,S⟩
  ·rename_i hn
   rw [if_neg hn]
   split at e <;> (try (cases e; done))
   rename_i k0 hs
   simp only [bB,bN] at e
   obtain ⟨rfl,rfl⟩:=e
   obtain ⟨k',h1,h2⟩:=S.storeAt hs
   try simp only [h1]
   exact ⟨_,rfl,h2⟩
theorem Sim.src (S : Sim g h h') {size : Nat} {x : DV} {r : Nat × List DV} (hs : aCd size x h = some r) : aCd size x h' = some r:=by
 unfold aCd at hs ⊢
 split at hs <;> (try (cases hs; done))
 ·exact hs
 ·exact hs
 ·split at hs <;> (try (cases hs; done))
  rename_i hc
  simp only [S.cellsAt hc]; exact hs
 ·split at hs <;> (try (cases hs; done))
  rename_i hc
  simp only [S.cellsAt hc]; exact hs
 ·exact hs
theorem aZx (size bytes : Nat) (s x : DV) : SimP g (bH size bytes s x) (bH size bytes s x):=fun h h' S v k e=>by
 unfold bH at e ⊢
 split at e <;> (try (cases e; done))
 rename_i n new hs
 simp only [S.src hs]
 split at e <;> (try (cases e; done))
 ·split at e
  ·rename_i hn
   rw [if_pos hn]
   simp only [bB,bN] at e
   obtain ⟨rfl,rfl⟩:=e
   exact ⟨_,rfl,S⟩
  ·rename_i hn
   rw [if_neg hn]
   split at e <;> (try (cases e; done))
   rename_i hr
   rw [if_pos hr]
   simp only [bB,bN] at e ⊢
   obtain ⟨rfl,rfl⟩:=e
   exact ⟨_,⟨by rw [S.next],rfl⟩,S.new rfl⟩
 ·split at e <;> (try (cases e; done))
  rename_i hn
  rw [if_pos hn]
  simp only [bB,bN] at e
  obtain ⟨rfl,rfl⟩:=e
  exact ⟨_,rfl,S⟩
 ·rename_i b o len cap
  split at e
  ·rename_i hle
   rw [if_pos hle]
   split at e <;> (try (cases e; done))
   rename_i k0 hst
   simp only [bB,bN] at e
   obtain ⟨rfl,rfl⟩:=e
   obtain ⟨k',h1,h2⟩:=S.storeAt hst
   try simp only [h1]
   exact ⟨_,rfl,h2⟩
  ·rename_i hle
   rw [if_neg hle]
   split at e <;> (try (cases e; done))
   rename_i k0 l old hb hold
   rw [S.row hb,S.cellsAt hold]
   dsimp only
   split at e <;> (try (cases e; done))
   rename_i hroom
   rw [if_pos hroom]
   split at e <;> (try (cases e; done))
   ·simp only [bB,bN] at e ⊢
    obtain ⟨rfl,rfl⟩:=e
    exact ⟨_,⟨by rw [S.next],rfl⟩,S.new rfl⟩
   ·simp only [bB,bN] at e ⊢
    obtain ⟨rfl,rfl⟩:=e
    exact ⟨_,⟨by rw [S.next],rfl⟩,S.new rfl⟩
   ·split at e <;> (try (cases e; done))
    rename_i hes
    rw [if_pos hes]
    simp only [bB,bN] at e ⊢
    obtain ⟨rfl,rfl⟩:=e
    refine ⟨_,⟨by rw [S.next],rfl⟩, ?_⟩
    have S1 : Sim g ⟨h.next,Tr.set (.row .sp (bR o l)) b h.bl⟩ ⟨h'.next,Tr.set (.row .sp (bR o l)) b h'.bl⟩:=by
     rw [S.next]; exact S.set (show vL g (.row .sp (bR o l)) (.row .sp (bR o l)) from rfl) _ _
    exact S1.new rfl
 ·rename_i b o len cap
  split at e
  ·rename_i hn
   rw [if_pos hn]
   split at e <;> (try (cases e; done))
   rename_i hc
   rw [if_pos hc]
   simp only [bB,bN] at e
   obtain ⟨rfl,rfl⟩:=e
   exact ⟨_,rfl,S⟩
  ·rename_i hn
   rw [if_neg hn]
   split at e <;> (try (cases e; done))
   rename_i hc
   rw [if_neg hc]
   split at e <;> (try (cases e; done))
   rename_i old hold
   simp only [S.cellsAt hold]
   split at e <;> (try (cases e; done))
   rename_i hr
   rw [if_pos hr]
   simp only [bB,bN] at e ⊢
   obtain ⟨rfl,rfl⟩:=e
   exact ⟨_,⟨by rw [S.next],rfl⟩,S.new rfl⟩
theorem aSw (size bytes : Nat) (s : DV) (n : Nat) (new : List DV) : SimP g (lX size bytes s n new) (lX size bytes s n new):=fun h h' S v k e=>by
 unfold lX at e ⊢
 split at e <;> (try (cases e; done))
 ·split at e
  ·rename_i hn
   rw [if_pos hn]
   simp only [bB,bN] at e
   obtain ⟨rfl,rfl⟩:=e
   exact ⟨_,rfl,S⟩
  ·rename_i hn
   rw [if_neg hn]
   split at e <;> (try (cases e; done))
   rename_i hr
   rw [if_pos hr]
   simp only [bB,bN] at e ⊢
   obtain ⟨rfl,rfl⟩:=e
   exact ⟨_,⟨by rw [S.next],rfl⟩,S.new rfl⟩
 ·split at e <;> (try (cases e; done))
  rename_i hn
  rw [if_pos hn]
  simp only [bB,bN] at e
  obtain ⟨rfl,rfl⟩:=e
  exact ⟨_,rfl,S⟩
 ·rename_i b o len cap
  split at e
  ·rename_i hle
   rw [if_pos hle]
   split at e <;> (try (cases e; done))
   rename_i k0 hst
   simp only [bB,bN] at e
   obtain ⟨rfl,rfl⟩:=e
   obtain ⟨k',h1,h2⟩:=S.storeAt hst
   try simp only [h1]
   exact ⟨_,rfl,h2⟩
  ·rename_i hle
   rw [if_neg hle]
   split at e <;> (try (cases e; done))
   rename_i k0 l old hb hold
   rw [S.row hb,S.cellsAt hold]
   dsimp only
   split at e <;> (try (cases e; done))
   rename_i hroom
   rw [if_pos hroom]
   split at e <;> (try (cases e; done))
   ·simp only [bB,bN] at e ⊢
    obtain ⟨rfl,rfl⟩:=e
    exact ⟨_,⟨by rw [S.next],rfl⟩,S.new rfl⟩
   ·simp only [bB,bN] at e ⊢
    obtain ⟨rfl,rfl⟩:=e
    exact ⟨_,⟨by rw [S.next],rfl⟩,S.new rfl⟩
   ·split at e <;> (try (cases e; done))
    rename_i hes
    rw [if_pos hes]
    simp only [bB,bN] at e ⊢
    obtain ⟨rfl,rfl⟩:=e
    refine ⟨_,⟨by rw [S.next],rfl⟩, ?_⟩
    have S1 : Sim g ⟨h.next,Tr.set (.row .sp (bR o l)) b h.bl⟩ ⟨h'.next,Tr.set (.row .sp (bR o l)) b h'.bl⟩:=by
     rw [S.next]; exact S.set (show vL g (.row .sp (bR o l)) (.row .sp (bR o l)) from rfl) _ _
    exact S1.new rfl
 ·rename_i b o len cap
  split at e
  ·rename_i hn
   rw [if_pos hn]
   split at e <;> (try (cases e; done))
   rename_i hc
   rw [if_pos hc]
   simp only [bB,bN] at e
   obtain ⟨rfl,rfl⟩:=e
   exact ⟨_,rfl,S⟩
  ·rename_i hn
   rw [if_neg hn]
   split at e <;> (try (cases e; done))
   rename_i hc
   rw [if_neg hc]
   split at e <;> (try (cases e; done))
   rename_i old hold
   simp only [S.cellsAt hold]
   split at e <;> (try (cases e; done))
   rename_i hr
   rw [if_pos hr]
   simp only [bB,bN] at e ⊢
   obtain ⟨rfl,rfl⟩:=e
   exact ⟨_,⟨by rw [S.next],rfl⟩,S.new rfl⟩
theorem aTn (size bytes : Nat) (z : List DV) (s x : DV) : SimP g (jL size bytes z s x) (jL size bytes z s x):=fun h h' S v k e=>by
 unfold jL at e ⊢
 split at e <;> (try (cases e; done))
 rename_i kk n
 split at e <;> (try (cases e; done))
 rename_i hr
 rw [if_pos hr]
 exact aSw _ _ _ _ _ h h' S v k e
theorem cHy (size : Nat) (x y : DV) : SimP g (aGg size x y) (aGg size x y):=fun h h' S v k e=>by
 unfold aGg at e ⊢
 split at e <;> (try (cases e; done))
 split at e <;> (try (cases e; done))
 rename_i n new hs
 simp only [S.src hs]
 split at e <;> (try (cases e; done))
 rename_i hn
 rw [if_pos hn]
 split at e <;> (try (cases e; done))
 rename_i k0 hst
 simp only [bB,bN] at e
 obtain ⟨rfl,rfl⟩:=e
 obtain ⟨k',h1,h2⟩:=S.storeAt hst
 try simp only [h1]
 exact ⟨_,rfl,h2⟩
theorem bAl (x : DV) : SimP g (oV x) (oV x):=fun h h' S v k e=>by
 unfold oV at e ⊢
 split at e <;> (try (cases e; done))
 simp only [bB,bN] at e ⊢
 obtain ⟨rfl,rfl⟩:=e
 exact ⟨_,⟨by rw [S.next],rfl⟩,S.new rfl⟩
theorem bSn (x : DV) : SimP g (uO x) (uO x):=fun h h' S v k e=>by
 unfold uO at e ⊢
 split at e <;> (try (cases e; done))
 simp only [bB,bN] at e ⊢
 obtain ⟨rfl,rfl⟩:=e
 exact ⟨_,⟨by rw [S.next],rfl⟩,S.new rfl⟩
theorem cWj (x : DV) : SimP g (aFh x) (aFh x):=fun h h' S v k e=>by
 unfold aFh at e ⊢
 split at e <;> (try (cases e; done))
 split at e <;> (try (cases e; done))
 rename_i b _ l pos hb
 rw [S.it hb]
 dsimp only
 split at e
 ·rename_i c hc
  try simp only [hc]
  split at e <;> (try (cases e; done))
  rename_i hlt
  rw [if_pos hlt]
  simp only [bB,bN] at e ⊢
  obtain ⟨rfl,rfl⟩:=e
  exact ⟨_,⟨rfl,rfl⟩,by rw [S.next]; first | exact S.setR _ _ _ _ | exact S.setM _ _ _ | exact S.setI _ _ _ _⟩
 ·rename_i hc
  try simp only [hc]
  simp only [bB,bN] at e ⊢
  obtain ⟨rfl,rfl⟩:=e
  exact ⟨_,⟨rfl,rfl⟩,S⟩
end
end Go.Dd

namespace Go.Dd
theorem SimP.none {gg : Bool} (p : Hp → aH) : SimP gg (fun _=>Option.none) p:=fun h h' S=>SimR.none _
theorem SimP.val {gg : Bool} (v : DV) : SimP gg (fun h=>some (v,h)) (fun h=>some (v,h)):=fun h h' S=>SimR.some S v
section
variable {gg : Bool} {P : Program} {I2 I1 : FuncId → Option (List DV → Hp → aH)} {rec2 rec1 : FuncId → List DV → Hp → aH}
theorem aVs (b : Builtin) (ts : List TypeId) (args : List DV) : SimP gg (kN ⟨P,I2⟩ b ts args) (kN ⟨P,I1⟩ b ts args):=by
 unfold kN
 cases b <;> try exact SimP.none _
 case len =>
  match ts,args with
  | [t],[x] =>
   dsimp only
   cases P.underlying t with
   | none=>exact SimP.none _
   | some d=>cases d <;> first | exact SimP.none _ | exact fAz (aGi x) | exact fAz (kQ x)
  | [],_=>exact SimP.none _
  | [_],[]=>exact SimP.none _
  | [_],_ :: _ :: _=>exact SimP.none _
  | _ :: _ :: _,_=>exact SimP.none _
 case min =>
  show SimP gg (tN args) (tN args)
  unfold tN
  match args with
  | [x,y]=>exact fAz (aVp x y)
  | []=>exact SimP.none _
  | [_]=>exact SimP.none _
  | _ :: _ :: _ :: _=>exact SimP.none _
 case max =>
  show SimP gg (tY args) (tY args)
  unfold tY
  match args with
  | [x,y]=>exact fAz (aUw x y)
  | []=>exact SimP.none _
  | [_]=>exact SimP.none _
  | _ :: _ :: _ :: _=>exact SimP.none _
 case clear =>
  match ts,args with
  | [t],[x] =>
   dsimp only
   cases P.underlying t with
   | none=>exact SimP.none _
   | some d =>
    cases d <;> try exact SimP.none _
    rename_i e
    dsimp only
    cases P.info? e with
    | none=>exact SimP.none _
    | some i =>
     dsimp only
     cases i.zero with
     | none=>exact SimP.none _
     | some z =>
      dsimp only
      by_cases h0 : 0 < z.cells.size
      ·simp only [h0,if_true]; exact bQx _ _
      ·simp only [h0,if_false]; exact SimP.none _
  | [],_=>exact SimP.none _
  | [_],[]=>exact SimP.none _
  | [_],_ :: _ :: _=>exact SimP.none _
  | _ :: _ :: _,_=>exact SimP.none _
 case append =>
  match ts,args with
  | [t,u],[s,x] =>
   dsimp only
   have hmain : ∀ e,SimP gg (fun h=>match P.info? e with
     | some i=>match i.zero with
      | some z=>if 0 < i.size ∧ 0 < i.bytes ∧ z.cells.size = i.size then bH i.size i.bytes s x h else none
      | none=>none
     | none=>none) (fun h=>match P.info? e with
     | some i=>match i.zero with
      | some z=>if 0 < i.size ∧ 0 < i.bytes ∧ z.cells.size = i.size then bH i.size i.bytes s x h else none
      | none=>none
     | none=>none):=by
    intro e
    cases P.info? e with
    | none=>exact SimP.none _
    | some i =>
     dsimp only
     cases i.zero with
     | none=>exact SimP.none _
     | some z =>
      dsimp only
      split
      ·exact aZx _ _ _ _
      ·exact SimP.none _
   have hmainN : ∀ e,SimP gg (fun h=>match P.info? e with
     | some i=>match i.zero with
      | some z=>if (0 < i.size ∧ 0 < i.bytes ∧ z.cells.size = i.size) ∧ (pD z).all DV.one = true then jL i.size i.bytes (pD z) s x h else none
      | none=>none
     | none=>none) (fun h=>match P.info? e with
     | some i=>match i.zero with
      | some z=>if (0 < i.size ∧ 0 < i.bytes ∧ z.cells.size = i.size) ∧ (pD z).all DV.one = true then jL i.size i.bytes (pD z) s x h else none
      | none=>none
     | none=>none):=by
    intro e
    cases P.info? e with
    | none=>exact SimP.none _
    | some i =>
     dsimp only
     cases i.zero with
     | none=>exact SimP.none _
     | some z =>
      dsimp only
      split
      ·exact aTn _ _ _ _ _
      ·exact SimP.none _
   cases P.underlying t with
   | none=>exact SimP.none _
   | some d =>
    cases d <;> try exact SimP.none _
    rename_i e
    cases P.underlying u with
    | none=>exact SimP.none _
    | some d2=>cases d2 <;> first | exact SimP.none _ | exact hmain e | exact hmainN e
  | [],_=>exact SimP.none _
  | [_],_=>exact SimP.none _
  | [_,_],[]=>exact SimP.none _
  | [_,_],[_]=>exact SimP.none _
  | [_,_],_ :: _ :: _ :: _=>exact SimP.none _
  | _ :: _ :: _ :: _,_=>exact SimP.none _
 case copy =>
  match ts,args with
  | [t,u],[x,y] =>
   dsimp only
   cases P.underlying t with
   | none=>exact SimP.none _
   | some d =>
    cases d <;> try exact SimP.none _
    rename_i e
    dsimp only
    cases P.info? e with
    | none=>exact SimP.none _
    | some i =>
     dsimp only
     by_cases h0 : 0 < i.size
     ·simp only [h0,if_true]; exact cHy _ _ _
     ·simp only [h0,if_false]; exact SimP.none _
  | [],_=>exact SimP.none _
  | [_],_=>exact SimP.none _
  | [_,_],[]=>exact SimP.none _
  | [_,_],[_]=>exact SimP.none _
  | [_,_],_ :: _ :: _ :: _=>exact SimP.none _
  | _ :: _ :: _ :: _,_=>exact SimP.none _
theorem aGb (HC : ∀ g args,SimP gg (cA ⟨P,I2⟩ rec2 g args) (cA ⟨P,I1⟩ rec1 g args)) (o : Oper) (env : aZ) : SimP gg (jY ⟨P,I2⟩ rec2 o env) (jY ⟨P,I1⟩ rec1 o env):=by
 obtain ⟨dst,op,ty,pos,after,guard⟩:=o
 unfold jY
 cases op <;> (try dsimp only) <;> try exact SimP.none _
 case move x=>exact SimP.val _
 case assign x=>exact SimP.val _
 case pick c x y=>exact fAz (aFo _ _ _)
 case alloc t =>
  cases P.info? t with
  | none=>exact SimP.none _
  | some i =>
   try dsimp only
   cases i.zero with
   | none=>exact SimP.none _
   | some z=>exact aMq _
 case box t x=>exact dOf _
 case build t ps =>
  cases P.underlying t with
  | none=>exact SimP.none _
  | some d =>
   cases d <;> (try dsimp only) <;> try exact SimP.none _
   case array n e =>
    cases P.info? t with
    | none=>exact SimP.none _
    | some i =>
     try dsimp only
     split
     ·exact fAz (mH _ _)
     ·exact SimP.none _
   rename_i fs
   cases P.info? t with
   | none=>exact SimP.none _
   | some i =>
    try dsimp only
    cases i.zero with
    | none=>exact SimP.none _
    | some z =>
     try dsimp only
     generalize fs.toList.mapM (fun f=>(P.info? f.type).map fun fi=>(f.offset,fi.size)) = pl
     cases pl with
     | none=>exact SimP.none _
     | some pl =>
      try dsimp only
      generalize ps.toList.mapM (fun (q : Nat × Operand)=>(pl[q.1]?).map fun s=>(s.1,s.2,opr env q.2)) = l
      cases l with
      | none=>exact SimP.none _
      | some l=>exact fAz (mH _ _)
 case buildSlice t n ps =>
  cases P.underlying t with
  | none=>exact SimP.none _
  | some d =>
   cases d <;> (try dsimp only) <;> try exact SimP.none _
   rename_i e
   cases P.info? e with
   | none=>exact SimP.none _
   | some i =>
    try dsimp only
    cases i.zero with
    | none=>exact SimP.none _
    | some z =>
     try dsimp only
     split
     ·exact aAt _ _ _
     ·exact SimP.none _
 case load t x =>
  cases P.underlying t with
  | none=>exact SimP.none _
  | some d =>
   cases P.info? t with
   | none=>exact SimP.none _
   | some i =>
    try dsimp only
    cases kA d with
    | true=>exact jB _ _
    | false=>exact iY _
 case store t x y =>
  cases P.info? t with
  | none=>exact SimP.none _
  | some i=>exact eW _ _ _
 case nilCheck x=>exact fAz (aTx _)
 case binOp op t x y yt =>
  cases P.underlying t with
  | none=>exact SimP.none _
  | some d=>cases d <;> first | exact fAz (aSs _ _ _ _) | exact fAz (aSo _ _ _ _ _) | exact fAz (aVf _ _ _ _)
 case unOp op t x=>exact fAz (bMo _ _)
 case convert src dst x =>
  cases P.underlying src with
  | none=>exact SimP.none _
  | some d =>
   cases P.underlying dst with
   | none=>cases d <;> exact SimP.none _
   | some d2 =>
    cases d2 <;> cases d <;> (try dsimp only) <;> first | exact SimP.none _ | exact fAz (pT _ _) | exact fAz (qH _) | skip
    all_goals
     rename_i e
     cases P.underlying e with
     | none=>exact SimP.none _
     | some d3 =>
      cases d3 <;> (try dsimp only) <;> try exact SimP.none _
      rename_i k
      cases k <;> first | exact SimP.none _ | exact bQs _ | exact bAl _
 case makeInterface t x =>
  cases P.underlying t with
  | none=>exact SimP.none _
  | some d=>cases d <;> first | exact SimP.none _ | exact SimP.val _
 case makeFunc fn first cap =>
  cases fn <;> first | exact SimP.none _ | exact SimP.val _
 case slice t x lo hi mx =>
  cases P.underlying t with
  | none=>exact SimP.none _
  | some d =>
   cases mx with
   | none =>
    cases d <;> (try dsimp only) <;> first | exact SimP.none _ | exact fAz (nS _ _ _) | skip
    rename_i e
    cases P.info? e with
    | none=>exact SimP.none _
    | some i=>exact bWs _ _ _ _
   | some m =>
    cases d <;> (try dsimp only) <;> try exact SimP.none _
    rename_i e
    cases P.info? e with
    | none=>exact SimP.none _
    | some i =>
     cases hi with
     | none=>exact SimP.none _
     | some hv=>exact aYk _ _ _ _
 case fieldAddr t x f =>
  cases P.underlying t with
  | none=>exact SimP.none _
  | some d =>
   cases d <;> (try dsimp only) <;> try exact SimP.none _
   rename_i fs
   cases fs[f]? with
   | none=>exact SimP.none _
   | some fl =>
    try dsimp only
    cases P.info? fl.type with
    | none=>exact SimP.none _
    | some i =>
     try dsimp only
     split
     ·exact SimP.none _
     ·exact fAz (aBs _ _)
 case field t x f =>
  cases P.underlying t with
  | none=>exact SimP.none _
  | some d =>
   cases d <;> (try dsimp only) <;> try exact SimP.none _
   rename_i fs
   cases fs[f]? with
   | none=>exact SimP.none _
   | some fl =>
    try dsimp only
    cases P.underlying fl.type with
    | none=>exact SimP.none _
    | some d2 =>
     cases P.info? fl.type with
     | none=>exact SimP.none _
     | some i =>
      try dsimp only
      cases kA d2 with
      | true=>exact fAz (aAm _ _ _)
      | false=>exact fAz (aCp _ _)
 case indexAddr t x ix =>
  cases P.underlying t with
  | none=>exact SimP.none _
  | some d =>
   cases d <;> (try dsimp only) <;> try exact SimP.none _
   ·rename_i e
    cases P.info? e with
    | none=>exact SimP.none _
    | some i=>exact fAz (nV _ _ _)
   ·rename_i n e
    cases P.info? e with
    | none=>exact SimP.none _
    | some i=>exact fAz (pF _ _ _ _)
 case index t x ix =>
  cases P.underlying t with
  | none=>exact SimP.none _
  | some d=>cases d <;> first | exact SimP.none _ | exact fAz (uY _ _)
 case extract x i=>exact fAz (tA _ _)
 case range t x =>
  cases P.underlying t with
  | none=>exact SimP.none _
  | some d=>cases d <;> first | exact SimP.none _ | exact bSn _
 case next x str =>
  cases str with
  | true=>simp only [if_true]; exact cWj _
  | false=>simp only [Bool.false_eq_true,if_false]; exact SimP.none _
 case makeMap t r=>cases r <;> first | exact SimP.none _ | exact aTc
 case lookup t x k ok =>
  cases P.underlying t with
  | none=>exact SimP.none _
  | some d =>
   cases d <;> (try dsimp only) <;> try exact SimP.none _
   rename_i kt et
   cases P.underlying kt with
   | none=>exact SimP.none _
   | some d2 =>
    cases P.info? et with
    | none=>exact SimP.none _
    | some i =>
     try dsimp only
     cases i.zero with
     | none=>exact SimP.none _
     | some z =>
      try dsimp only
      cases iS d2 with
      | true=>exact zY _ _ _ _ _
      | false =>
       simp only [cond_false]
       cases uJ P d2 && bTa d2 (opr env k) with
       | true=>exact zY _ _ _ _ _
       | false=>exact SimP.none _
 case mapUpdate t m k x =>
  cases P.underlying t with
  | none=>exact SimP.none _
  | some d =>
   cases d <;> (try dsimp only) <;> try exact SimP.none _
   rename_i kt et
   cases P.underlying kt with
   | none=>exact SimP.none _
   | some d2 =>
    try dsimp only
    cases iS d2 with
    | true=>exact zP _ _ _ _
    | false=>exact SimP.none _
 case insert t m k x =>
  cases P.underlying t with
  | none=>exact SimP.none _
  | some d =>
   cases d <;> (try dsimp only) <;> try exact SimP.none _
   rename_i kt et
   cases P.underlying kt with
   | none=>exact SimP.none _
   | some d2 =>
    try dsimp only
    cases iS d2 with
    | true=>exact zP _ _ _ _
    | false=>exact SimP.none _
 case mapEntry t m k =>
  cases P.underlying t with
  | none=>exact SimP.none _
  | some d =>
   cases d <;> (try dsimp only) <;> try exact SimP.none _
   rename_i kt et
   cases P.underlying kt with
   | none=>exact SimP.none _
   | some d2 =>
    cases P.info? et with
    | none=>exact SimP.none _
    | some i =>
     try dsimp only
     cases i.zero with
     | none=>exact SimP.none _
     | some z =>
      try dsimp only
      cases iS d2 with
      | true=>exact aNt _ _ _ _
      | false=>exact SimP.none _
 case entryStore t m s x=>exact aBq _ _ _
 case makeSlice t n c =>
  cases P.underlying t with
  | none=>exact SimP.none _
  | some d =>
   cases d <;> (try dsimp only) <;> try exact SimP.none _
   rename_i e
   cases P.info? e with
   | none=>exact SimP.none _
   | some i =>
    try dsimp only
    cases i.zero with
    | none=>exact SimP.none _
    | some z =>
     try dsimp only
     split
     ·exact aFa _ _ _ _ _
     ·exact SimP.none _
 case call c =>
  obtain ⟨callee,args,ats⟩:=c
  cases callee with
  | value f =>
   try dsimp only
   unfold iA
   cases opr env f <;> first | exact SimP.none _ | exact HC _ _
  | invoke r m =>
   try dsimp only
   unfold eBs
   cases opr env r <;> (try dsimp only) <;> try exact SimP.none _
   rename_i t v
   cases dAy P t m with
   | none=>exact SimP.none _
   | some f=>exact HC _ _
  | builtin b=>exact aVs _ _ _
theorem lY (HC : ∀ g args,SimP gg (cA ⟨P,I2⟩ rec2 g args) (cA ⟨P,I1⟩ rec1 g args)) (all : Array Oper) (o : Oper) (env : aZ) :
  SimP gg (bA ⟨P,I2⟩ rec2 all o env) (bA ⟨P,I1⟩ rec1 all o env):=by
 unfold bA
 cases o.guard with
 | none=>exact aGb HC o env
 | some g =>
  obtain ⟨j,want⟩:=g
  dsimp only
  simp only [qQ]
  cases bHs all j env <;> try exact SimP.none _
  ·rename_i x
   dsimp only
   split
   ·exact aGb HC o env
   ·exact SimP.val _
  ·rename_i vs
   cases vs with
   | nil=>exact SimP.val _
   | cons a b=>exact SimP.none _
def SimK (gg : Bool) (k k' : K) : Prop:=∀ env,SimP gg (k env) (k' env)
theorem fBc {r r' : aH} {k k' : DV → Hp → aH} (h : SimR gg r r') (hk : ∀ v,SimP gg (k v) (k' v)) : SimR gg (bnd r k) (bnd r' k'):=by
 intro v h1 e
 obtain ⟨u,h0,e1,e2⟩:=cS e
 obtain ⟨h0',f1,S⟩:=h u h0 e1
 obtain ⟨h1',g1,S1⟩:=hk u h0 h0' S v h1 e2
 exact ⟨h1',by rw [f1]; exact g1,S1⟩
theorem fBv {b b' : Bool} {r r' : aH} (hb : b = true → b' = true) (h : SimR gg r r') : SimR gg (cnd b r) (cnd b' r'):=by
 cases b with
 | false=>exact fun v k e=>by cases e
 | true=>rw [hb rfl]; exact h
theorem sX (HC : ∀ g args,SimP gg (cA ⟨P,I2⟩ rec2 g args) (cA ⟨P,I1⟩ rec1 g args)) (nt : Nat) (all : Array Oper) {k k' : K} (hk : SimK gg k k') :
  ∀ l : List Oper,SimK gg (fY ⟨P,I2⟩ rec2 nt all l k) (fY ⟨P,I1⟩ rec1 nt all l k')
 | []=>hk
 | o :: l=>fun env h h' S=>by
  change SimR gg (cnd (cX nt o.dst) (bnd (bA ⟨P,I2⟩ rec2 all o env h) fun v h1=>fY ⟨P,I2⟩ rec2 nt all l k (bJ env o.dst v) h1))
   (cnd (cX nt o.dst) (bnd (bA ⟨P,I1⟩ rec1 all o env h') fun v h1=>fY ⟨P,I1⟩ rec1 nt all l k' (bJ env o.dst v) h1))
  exact fBv id (fBc (lY HC all o env h h' S) fun v=>sX HC nt all hk l _)
theorem aEn {gg : Bool} (b : Pos) : SimP gg (kO b) (kO b):=by
 intro h h' S v k e
 simp only [kO,bB,bN] at e ⊢
 obtain ⟨rfl,rfl⟩:=e
 exact ⟨_,⟨rfl,rfl⟩,by rw [S.next]; first | exact S.setR _ _ _ _ | exact S.setM _ _ _ | exact S.setI _ _ _ _⟩
theorem eEi (o : Oper) (b : Pos) (env : aZ) : SimP gg (dW ⟨P,I2⟩ o b env) (dW ⟨P,I1⟩ o b env):=by
 obtain ⟨dst,op,ty,pos,after,guard⟩:=o
 unfold dW
 cases op <;> (try dsimp only) <;> try exact SimP.none _
 case alloc t =>
  cases P.info? t with
  | none=>exact SimP.none _
  | some i =>
   dsimp only
   cases i.zero with
   | none=>exact SimP.none _
   | some z=>exact aFx _ _
 case makeMap t r=>cases r with
  | none=>exact aEn _
  | some _=>exact SimP.none _
 case box t x=>exact bQt _ _
 case buildSlice t n ps =>
  cases P.underlying t with
  | none=>exact SimP.none _
  | some d =>
   cases d <;> (try dsimp only) <;> try exact SimP.none _
   rename_i e
   cases P.info? e with
   | none=>exact SimP.none _
   | some i =>
    dsimp only
    cases i.zero with
    | none=>exact SimP.none _
    | some z =>
     dsimp only
     split
     ·exact uL _ _ _ _
     ·exact SimP.none _
theorem SimR.same {r r' : aH} (h : SimR gg r r') {v : DV} (hs : aX r v = true) : aX r' v = true:=by
 unfold aX at hs ⊢
 split at hs
 ·rename_i x k
  obtain ⟨k',e,_⟩:=h x k rfl
  rw [e]; exact hs
 ·cases hs
inductive SimHs (gg : Bool) : List (Option Nat × Hp) → List (Option Nat × Hp) → Prop
 | nil : SimHs gg [] []
 | cons {j : Option Nat} {h h' : Hp} {l l' : List (Option Nat × Hp)} (S : Sim gg h h') (T : SimHs gg l l') : SimHs gg ((j,h) :: l) ((j,h') :: l')
theorem uZ (m : Array Nat) (i : Nat) (v : DV) {look look' : Hp → aH} (hl : SimP gg look look') : ∀ (dirty : Bool) {hs hs' : List (Option Nat × Hp)},SimHs gg hs hs' →
  eP m i v look dirty hs = true → eP m i v look' dirty hs' = true
 | dirty,_,_,.nil,h=>h
 | dirty,_,_,.cons (j:=j) S T,h=>by
  unfold eP at h ⊢
  rw [Bool.and_eq_true] at h ⊢
  refine ⟨?_, ?_⟩
  ·have h1:=h.1
   cases dirty with
   | true=>exact SimR.same (hl _ _ S) h1
   | false=>exact h1
  ·have h2:=h.2
   cases j with
   | none=>exact h2
   | some j =>
    dsimp only at h2 ⊢
    cases ho : hC m j i with
    | true=>rfl
    | false =>
     rw [ho] at h2
     exact uZ m i v hl true T h2
inductive SimSeen (gg : Bool) : List Seen → List Seen → Prop
 | nil : SimSeen gg [] []
 | cons {i : Nat} {look look' : Hp → aH} {v : DV} {l l' : List Seen} (S : SimP gg look look') (T : SimSeen gg l l') : SimSeen gg (⟨i,look,v⟩ :: l) (⟨i,look',v⟩ :: l')
theorem SimSeen.all {m : Array Nat} {i : Nat} {h h' : Hp} (S : Sim gg h h') : ∀ {l l' : List Seen},SimSeen gg l l' →
  l.all (fun q=>hC m q.at_ i || aX (q.look h) q.v) = true → l'.all (fun q=>hC m q.at_ i || aX (q.look h') q.v) = true
 | _,_,.nil,e=>e
 | _,_,.cons (i:=i0) (v:=v) S1 T,e=>by
  rw [List.all_cons,Bool.and_eq_true] at e ⊢
  refine ⟨?_,SimSeen.all S T e.2⟩
  have h1:=e.1
  rw [Bool.or_eq_true] at h1 ⊢
  exact h1.imp id fun hs=>SimR.same (S1 _ _ S) hs
theorem oC (HC : ∀ g args,SimP gg (cA ⟨P,I2⟩ rec2 g args) (cA ⟨P,I1⟩ rec1 g args)) (nt : Nat) (all : Array Oper) (m : Array Nat) (p0 : Pos) {k k' : K} (hk : SimK gg k k') :
  ∀ (l : List Oper) (i c : Nat) (dirty : Bool) {rd rd' : List Seen} {hs hs' : List (Option Nat × Hp)},SimSeen gg rd rd' → SimHs gg hs hs' →
   SimK gg (eO ⟨P,I2⟩ rec2 nt all m p0 l k i c dirty rd hs) (eO ⟨P,I1⟩ rec1 nt all m p0 l k' i c dirty rd' hs')
 | [],i,c,dirty,rd,rd',hs,hs',R,T=>hk
 | o :: l,i,c,dirty,rd,rd',hs,hs',R,T=>fun env h h' S=>by
  change SimR gg (cnd (cX nt o.dst) (
   match bU P o.op with
   | .pure=>bnd (bA ⟨P,I2⟩ rec2 all o env h) fun v h'=>eO ⟨P,I2⟩ rec2 nt all m p0 l k (i + 1) c dirty rd hs (bJ env o.dst v) h'
   | .reads=>bnd (bA ⟨P,I2⟩ rec2 all o env h) fun v h' =>
     cnd (eP m i v (bA ⟨P,I2⟩ rec2 all o env) dirty hs) (eO ⟨P,I2⟩ rec2 nt all m p0 l k (i + 1) c dirty (⟨i,bA ⟨P,I2⟩ rec2 all o env,v⟩ :: rd) hs (bJ env o.dst v) h')
   | .makes=>bnd (dW ⟨P,I2⟩ o (bX c p0) env h) fun v h'=>eO ⟨P,I2⟩ rec2 nt all m p0 l k (i + 1) (c + 1) true rd hs (bJ env o.dst v) h'
   | .acts=>bnd (bA ⟨P,I2⟩ rec2 all o env h) fun v h' =>
     cnd (rd.all (fun q=>hC m q.at_ i || aX (q.look h') q.v)) (eO ⟨P,I2⟩ rec2 nt all m p0 l k (i + 1) c false rd ((some i,h') :: hs) (bJ env o.dst v) h')))
   (cnd (cX nt o.dst) (
   match bU P o.op with
   | .pure=>bnd (bA ⟨P,I1⟩ rec1 all o env h') fun v h'=>eO ⟨P,I1⟩ rec1 nt all m p0 l k' (i + 1) c dirty rd' hs' (bJ env o.dst v) h'
   | .reads=>bnd (bA ⟨P,I1⟩ rec1 all o env h') fun v h' =>
     cnd (eP m i v (bA ⟨P,I1⟩ rec1 all o env) dirty hs') (eO ⟨P,I1⟩ rec1 nt all m p0 l k' (i + 1) c dirty (⟨i,bA ⟨P,I1⟩ rec1 all o env,v⟩ :: rd') hs' (bJ env o.dst v) h')
   | .makes=>bnd (dW ⟨P,I1⟩ o (bX c p0) env h') fun v h'=>eO ⟨P,I1⟩ rec1 nt all m p0 l k' (i + 1) (c + 1) true rd' hs' (bJ env o.dst v) h'
   | .acts=>bnd (bA ⟨P,I1⟩ rec1 all o env h') fun v h' =>
     cnd (rd'.all (fun q=>hC m q.at_ i || aX (q.look h') q.v)) (eO ⟨P,I1⟩ rec1 nt all m p0 l k' (i + 1) c false rd' ((some i,h') :: hs') (bJ env o.dst v) h')))
  refine fBv id ?_
  cases bU P o.op with
  | pure=>exact fBc (lY HC all o env h h' S) fun v=>oC HC nt all m p0 hk l _ _ _ R T _
  | reads =>
   exact fBc (lY HC all o env h h' S) fun v h1 h1' S1=>fBv (uZ m i v (lY HC all o env) dirty T)
    (oC HC nt all m p0 hk l _ _ _ (.cons (lY HC all o env) R) T _ _ _ S1)
  | makes=>exact fBc (eEi o _ env h h' S) fun v=>oC HC nt all m p0 hk l _ _ _ R T _
  | acts =>
   exact fBc (lY HC all o env h h' S) fun v h1 h1' S1=>fBv (SimSeen.all S1 R)
    (oC HC nt all m p0 hk l _ _ _ R (.cons S1 T) _ _ _ S1)
theorem Sim.resv {gg : Bool} {h h' : Hp} (S : Sim gg h h') (k : Nat) : Sim gg (resv k h) (resv k h'):=by
 cases k with
 | zero=>exact S
 | succ k=>exact ⟨by show bX (k + 1) h'.next = bX (k + 1) h.next; rw [S.next],S.get⟩
theorem cGk (HC : ∀ g args,SimP gg (cA ⟨P,I2⟩ rec2 g args) (cA ⟨P,I1⟩ rec1 g args)) (nt : Nat) (ops : Array Oper) {k k' : K} (hk : SimK gg k k') :
  SimK gg (iR ⟨P,I2⟩ rec2 nt ops k) (iR ⟨P,I1⟩ rec1 nt ops k'):=fun env h h' S=>by
 unfold iR
 rw [S.next]
 exact oC HC nt ops _ _ hk _ _ _ _ .nil (.cons (S.resv _) .nil) env _ _ (S.resv _)
theorem aKo {c : DV} {a b a' b' : aH} (ha : SimR gg a a') (hb : SimR gg b b') : SimR gg (aR c a b) (aR c a' b'):=by
 rw [oL]
 cases c <;> try exact SimR.none _
 rename_i x
 cases x
 ·exact hb
 ·exact ha
theorem qT {b b' : K → K} (hb : ∀ k k',SimK gg k k' → SimK gg (b k) (b' k')) : ∀ (n d : Nat),SimK gg (aM b n) (aM b' (n + d))
 | 0,d=>fun env h h' S v k e=>by cases e
 | n + 1,d=>by
  rw [show n + 1 + d = (n + d) + 1 from by omega]
  exact hb _ _ (qT hb n d)
theorem fP (HC : ∀ g args,SimP gg (cA ⟨P,I2⟩ rec2 g args) (cA ⟨P,I1⟩ rec1 g args)) (nt n d : Nat) : ∀ (c : Code) (X X' : Nat → K) (kr kr' k k' : K),(∀ j,SimK gg (X j) (X' j)) → SimK gg kr kr' → SimK gg k k' →
  SimK gg (aW ⟨P,I2⟩ rec2 nt n c X kr k) (aW ⟨P,I1⟩ rec1 nt (n + d) c X' kr' k'):=by
 intro c
 have hfail : ∀ k',SimK gg bY k':=fun k' env h h' S v k e=>by cases e
 induction c with
 | skip=>intro X X' kr kr' k k' hX hr hk; exact hk
 | region id ops dr =>
  intro X X' kr kr' k k' hX hr hk
  change SimK gg (Bool.rec (motive:=fun _=>K) (fY ⟨P,I2⟩ rec2 nt ops ops.toList k) (Bool.rec (motive:=fun _=>K) bY (iR ⟨P,I2⟩ rec2 nt ops k) (eV P ops)) dr)
   (Bool.rec (motive:=fun _=>K) (fY ⟨P,I1⟩ rec1 nt ops ops.toList k') (Bool.rec (motive:=fun _=>K) bY (iR ⟨P,I1⟩ rec1 nt ops k') (eV P ops)) dr)
  cases dr with
  | false=>exact sX HC nt ops hk _
  | true =>
   cases eV P ops with
   | false=>exact hfail _
   | true=>exact cGk HC nt ops hk
 | seq x y ihx ihy=>intro X X' kr kr' k k' hX hr hk; exact ihx _ _ _ _ _ _ hX hr (ihy _ _ _ _ _ _ hX hr hk)
 | cond c x y ihx ihy =>
  intro X X' kr kr' k k' hX hr hk env h h' S
  exact aKo (ihx _ _ _ _ _ _ hX hr hk env h h' S) (ihy _ _ _ _ _ _ hX hr hk env h h' S)
 | block id x ih =>
  intro X X' kr kr' k k' hX hr hk
  refine ih _ _ _ _ _ _ (fun j => ?_) hr hk
  cases hj : Nat.beq j id with
  | true=>exact hk
  | false=>exact hX j
 | loop x ih =>
  intro X X' kr kr' k k' hX hr hk
  exact qT (fun k k' hk=>ih _ _ _ _ _ _ hX hr hk) n d
 | rangeFunc f ps x y ihx ihy=>intro X X' kr kr' k k' hX hr hk; exact hfail _
 | exit id=>intro X X' kr kr' k k' hX hr hk; exact hX id
 | scope x ih=>intro X X' kr kr' k k' hX hr hk; exact ih _ _ _ _ _ _ hX hr hk
 | label l=>intro X X' kr kr' k k' hX hr hk; exact hk
 | goto l=>intro X X' kr kr' k k' hX hr hk; exact hfail _
 | ret=>intro X X' kr kr' k k' hX hr hk; exact hr
 | refuse why=>intro X X' kr kr' k k' hX hr hk; exact hfail _
theorem bVw {h h' : Hp} (S : Sim gg h h') (t : TypeId) (x : DV) {k k' : DV → aH} (hk : ∀ v,SimR gg (k v) (k' v)) : SimR gg (aFg ⟨P,I2⟩ t x h k) (aFg ⟨P,I1⟩ t x h' k'):=by
 unfold aFg
 dsimp only
 cases P.underlying t with
 | none=>exact SimR.none _
 | some d =>
  cases P.info? t with
  | none=>exact SimR.none _
  | some i =>
   dsimp only
   refine fBc ?_ fun v _ _ _=>hk v
   cases kA d with
   | true=>exact jB _ _ h h' S
   | false=>exact iY _ h h' S
theorem tQ {h h' : Hp} (S : Sim gg h h') (env : aZ) : ∀ (l : List ResultVar) (k k' : List DV → aH),(∀ vs,SimR gg (k vs) (k' vs)) → SimR gg (bFg ⟨P,I2⟩ env h l k) (bFg ⟨P,I1⟩ env h' l k')
 | [],k,k',hk=>hk []
 | .tmp t :: l,k,k',hk=>tQ S env l _ _ fun vs=>hk _
 | .cell a t :: l,k,k',hk=>bVw S t (env a) fun v=>tQ S env l _ _ fun vs=>hk _
theorem lZ (fn : Func) : SimK gg (bE ⟨P,I2⟩ fn) (bE ⟨P,I1⟩ fn):=fun env h h' S=>by
 unfold bE
 refine tQ S env _ _ _ fun vs => ?_
 unfold cVx
 match vs with
 | [v]=>exact SimR.some S _
 | []=>exact SimR.some S _
 | _ :: _ :: _=>exact SimR.some S _
theorem sY (HC : ∀ g args,SimP gg (cA ⟨P,I2⟩ rec2 g args) (cA ⟨P,I1⟩ rec1 g args)) (n d : Nat) (f : FuncId) (args : List DV) :
  SimP gg (aI ⟨P,I2⟩ rec2 n f args) (aI ⟨P,I1⟩ rec1 (n + d) f args):=by
 intro h h' S
 unfold aI
 dsimp only
 cases P.funcs[f]? with
 | none=>exact SimR.none _
 | some fn =>
  dsimp only
  cases fn.body with
  | none=>exact SimR.none _
  | some c=>exact fP HC fn.ntmps n d c _ _ _ _ _ _ (fun _ _ _ _ _ _ _ e=>by cases e) (lZ fn) (lZ fn) _ h h' S
end
theorem cRe {gg : Bool} {P : Program} {I2 I1 : FuncId → Option (List DV → Hp → aH)} (d : Nat) (h0 : ∀ g,I2 g = none → I1 g = none)
  (hI : ∀ g F,I2 g = some F → ∀ n args,SimP gg (F args) (cA ⟨P,I1⟩ (fnD ⟨P,I1⟩ (n + d)) g args)) : ∀ (n : Nat) (f : FuncId) (args : List DV),SimP gg (fnD ⟨P,I2⟩ n f args) (fnD ⟨P,I1⟩ (n + d) f args)
 | 0,f,args=>fun h h' S v k e=>by cases e
 | n + 1,f,args=>by
  rw [show n + 1 + d = (n + d) + 1 from by omega]
  refine sY (fun g az => ?_) n d f args
  unfold cA
  dsimp only
  cases hg : I2 g with
  | none =>
   rw [h0 g hg]
   exact cRe d h0 hI n g az
  | some F =>
   have:=hI g F hg n az
   unfold cA at this
   exact this
end Go.Dd

namespace Go.Dd
section
variable {gg : Bool} {P : Program} {I2 I1 : FuncId → Option (List DV → Hp → aH)} {rec2 rec1 : FuncId → List DV → Hp → aH}
theorem oP {c : Bool} {q q' : aH} (h : SimR gg q q') : SimR gg (cnd c q) (cnd c q'):=by
 cases c with
 | false=>exact SimR.none _
 | true=>exact h
theorem fBd (k' : K) : SimK gg bY k':=fun env h h' S v k e=>by cases e
theorem aCa (HC : ∀ g args,SimP gg (cA ⟨P,I2⟩ rec2 g args) (cA ⟨P,I1⟩ rec1 g args)) (n d : Nat) (I : ItC) (b : Bool) {kr kr' k k' : K} (hr : SimK gg kr kr') (hk : SimK gg k k') (e1 : aZ) :
  SimP gg (rF ⟨P,I2⟩ rec2 n I b kr k e1) (rF ⟨P,I1⟩ rec1 (n + d) I b kr' k' e1):=fun h h' S =>
 oP (sX HC I.nt I.ops (fP HC I.nt n d I.after _ _ _ _ _ _ (fun _=>fBd _) hr hk) _ _ h h' S)
theorem bVx (HC : ∀ g args,SimP gg (cA ⟨P,I2⟩ rec2 g args) (cA ⟨P,I1⟩ rec1 g args)) (n d : Nat) (I : ItC) (nt : Nat) (p : Tmp) (x y : Code) (env : aZ) {X X' : Nat → K} {kr kr' kk kk' : K} (hX : ∀ j,SimK gg (X j) (X' j)) (hr : SimK gg kr kr') (hk : SimK gg kk kk') :
  SimK gg (aCr ⟨P,I2⟩ rec2 n I nt p x y env X kr kk) (aCr ⟨P,I1⟩ rec1 (n + d) I nt p x y env X' kr' kk'):=fun e1 h h' S =>
 oP (fP HC nt n d x _ _ _ _ _ _ (fun _=>fBd _) (fBd _)
  (fP HC nt n d y _ _ _ _ _ _ (fun i _=>aCa HC n d I false (fun _=>hX i env) (fBd _) e1) (fun _=>aCa HC n d I false (fun _=>hr env) (fBd _) e1)
   (fun _=>aCa HC n d I true (fBd _) (fP HC I.nt n d I.post _ _ _ _ _ _ (fun _=>fBd _) (fBd _) (fP HC I.nt n d I.step _ _ _ _ _ _ (fun _=>fBd _) (fBd _) hk)) e1)) _ h h' S)
theorem bEh (HC : ∀ g args,SimP gg (cA ⟨P,I2⟩ rec2 g args) (cA ⟨P,I1⟩ rec1 g args)) (n d : Nat) (I : ItC) (nt : Nat) (g : Operand) (p : Tmp) (x y : Code) {X X' : Nat → K} {kr kr' k k' : K} (hX : ∀ j,SimK gg (X j) (X' j)) (hr : SimK gg kr kr') (hk : SimK gg k k') :
  SimK gg (lL ⟨P,I2⟩ rec2 n I nt g p x y X kr k) (lL ⟨P,I1⟩ rec1 (n + d) I nt g p x y X' kr' k'):=by
 intro env h h' S
 unfold lL
 cases opr env g with
 | f gf first cap =>
  cases first with
  | cons _ _=>exact SimR.none _
  | nil =>
   refine oP ?_
   rw [S.next]
   refine fP HC I.nt n d I.pre _ _ _ _ _ _ (fun _=>fBd _) (fBd _) (qT (fun kk kk' hkk => ?_) n d) _ _ _ (S.resv 2)
   refine fP HC I.nt n d I.test _ _ _ _ _ _ (fun j => ?_) (fBd _) (sX HC I.nt I.ops ?_ I.front)
   ·cases Nat.beq j I.b0 with
    | true=>exact fun _=>hk env
    | false=>exact fBd _
   ·intro e1 h1 h1' S1
    exact oP (c:=ylB (e1 I.yt) h.next) (bVx HC n d I nt p x y env hX hr hkk e1 h1 h1' S1)
 | _=>exact SimR.none _
theorem bTv (HC : ∀ g args,SimP gg (cA ⟨P,I2⟩ rec2 g args) (cA ⟨P,I1⟩ rec1 g args)) (nt n d : Nat) (I : ItC) : ∀ (c : Code) (X X' : Nat → K) (kr kr' k k' : K),(∀ j,SimK gg (X j) (X' j)) → SimK gg kr kr' → SimK gg k k' →
  SimK gg (lG ⟨P,I2⟩ rec2 nt n I c X kr k) (lG ⟨P,I1⟩ rec1 nt (n + d) I c X' kr' k'):=by
 intro c
 induction c with
 | skip=>intro X X' kr kr' k k' hX hr hk; exact hk
 | region id ops dr=>intro X X' kr kr' k k' hX hr hk; exact fP HC nt n d (.region id ops dr) _ _ _ _ _ _ hX hr hk
 | seq x y ihx ihy=>intro X X' kr kr' k k' hX hr hk; exact ihx _ _ _ _ _ _ hX hr (ihy _ _ _ _ _ _ hX hr hk)
 | cond c x y ihx ihy =>
  intro X X' kr kr' k k' hX hr hk env h h' S
  exact aKo (ihx _ _ _ _ _ _ hX hr hk env h h' S) (ihy _ _ _ _ _ _ hX hr hk env h h' S)
 | block id x ih =>
  intro X X' kr kr' k k' hX hr hk
  refine ih _ _ _ _ _ _ (fun j => ?_) hr hk
  cases hj : Nat.beq j id with
  | true=>exact hk
  | false=>exact hX j
 | loop x ih =>
  intro X X' kr kr' k k' hX hr hk
  exact qT (fun k k' hk=>ih _ _ _ _ _ _ hX hr hk) n d
 | rangeFunc g ps x y ihx ihy =>
  intro X X' kr kr' k k' hX hr hk
  obtain ⟨l⟩:=ps
  match l with
  | [p]=>exact bEh HC n d I nt g p x y hX hr hk
  | []=>exact fBd _
  | _ :: _ :: _=>exact fBd _
 | exit id=>intro X X' kr kr' k k' hX hr hk; exact hX id
 | ret=>intro X X' kr kr' k k' hX hr hk; exact hr
 | _=>intros; exact fBd _
theorem bRu (HC : ∀ g args,SimP gg (cA ⟨P,I2⟩ rec2 g args) (cA ⟨P,I1⟩ rec1 g args)) (n d : Nat) (I : ItC) (f : FuncId) (args : List DV) :
  SimP gg (jM ⟨P,I2⟩ rec2 n I f args) (jM ⟨P,I1⟩ rec1 (n + d) I f args):=by
 intro h h' S
 unfold jM
 dsimp only
 cases P.funcs[f]? with
 | none=>exact SimR.none _
 | some fn =>
  dsimp only
  cases fn.body with
  | none=>exact SimR.none _
  | some c=>exact bTv HC fn.ntmps n d I c _ _ _ _ _ _ (fun _=>fBd _) (lZ fn) (lZ fn) _ h h' S
end
end Go.Dd

namespace Go.Dd
def fnR (C : Cfg) (I : ItC) (q : FuncId → Bool) (n : Nat) : FuncId → List DV → Hp → aH :=
 Nat.rec (motive:=fun _=>FuncId → List DV → Hp → aH) (fun _ _ _=>none) (fun m ih f=>bif q f then jM C ih m I f else aI C ih m f) n
theorem cFd {C : Cfg} {I : ItC} {q : FuncId → Bool} (hP : POk C.P) (hI : ∀ G g F,C.I g = some F → jV C.P G g F) (iOk : ItOk C.P I) (hq : ∀ f,q f = true → ∀ fn c,C.P.funcs[f]? = some fn → fn.body = some c → gZ c = true) :
  ∀ (n : Nat) (G : Gd) (f : FuncId),jV C.P G f (fnR C I q n f)
 | 0,G,f=>fun args h v h1 hr=>by cases hr
 | n + 1,G,f=>by
  show jV C.P G f (bif q f then jM C (fnR C I q n) n I f else aI C (fnR C I q n) n f)
  have K : OkC C (fnR C I q n):=⟨hI,fun G g=>cFd hP hI iOk hq n G g⟩
  cases hf : q f with
  | true=>exact cWh K hP iOk n f (hq f hf)
  | false=>exact xJ K hP n f
theorem aMd {gg : Bool} {P : Program} {I2 I1 : FuncId → Option (List DV → Hp → aH)} {I : ItC} {q : FuncId → Bool} (d : Nat) (h0 : ∀ g,I2 g = none → I1 g = none)
  (hI : ∀ g F,I2 g = some F → ∀ n args,SimP gg (F args) (cA ⟨P,I1⟩ (fnR ⟨P,I1⟩ I q (n + d)) g args)) : ∀ (n : Nat) (f : FuncId) (args : List DV),SimP gg (fnR ⟨P,I2⟩ I q n f args) (fnR ⟨P,I1⟩ I q (n + d) f args)
 | 0,f,args=>fun h h' S v k e=>by cases e
 | n + 1,f,args=>by
  rw [show n + 1 + d = (n + d) + 1 from by omega]
  have HC : ∀ g az,SimP gg (cA ⟨P,I2⟩ (fnR ⟨P,I2⟩ I q n) g az) (cA ⟨P,I1⟩ (fnR ⟨P,I1⟩ I q (n + d)) g az):=fun g az=>by
   unfold cA
   dsimp only
   cases hg : I2 g with
   | none =>
    rw [h0 g hg]
    exact aMd d h0 hI n g az
   | some F =>
    have:=hI g F hg n az
    unfold cA at this
    exact this
  show SimP gg ((bif q f then jM ⟨P,I2⟩ (fnR ⟨P,I2⟩ I q n) n I f else aI ⟨P,I2⟩ (fnR ⟨P,I2⟩ I q n) n f) args) ((bif q f then jM ⟨P,I1⟩ (fnR ⟨P,I1⟩ I q (n + d)) (n + d) I f else aI ⟨P,I1⟩ (fnR ⟨P,I1⟩ I q (n + d)) (n + d) f) args)
  cases q f with
  | true=>exact bRu HC n d I f args
  | false=>exact sY HC n d f args
end Go.Dd

namespace Go.Dd
noncomputable section
def kK (w : Int) : Nat :=
 match w with
 | .ofNat w=>bif Nat.beq (Nat.mod w 2) 0 && (Nat.ble 6 w && Nat.ble w 262144) then Nat.div w 2 else 0
 | .negSucc _=>0
def hU (w : Int) : Bool :=
 match w with
 | .ofNat w=>Nat.beq (Nat.mod w 2) 1 && Nat.blt w 2147483648
 | .negSucc w=>Nat.beq (Nat.mod w 2) 0 && Nat.blt w 2147483648
def cTq (w : Int) : Int :=
 match w with
 | .ofNat w=>.ofNat (Nat.div w 2)
 | .negSucc w=>.negSucc (Nat.div w 2)
structure MemV where
 wb : Pos
 n : Nat
 fin : Nat
 made : Nat
 pb : Pos
 t : WT
 pl : WT
def kE (m : Pos) (h : Hp) : Option MemV :=
 match h.bl.get m with
 | some (.row .ex [.l wb 0 n c,.i .i64 (.ofNat fin),.i .i64 (.ofNat made),.m pb]) =>
  match h.bl.get wb,h.bl.get pb with
  | some (.big n' t),some (.mi pl)=>bif Nat.beq n n' && Nat.beq n c then (bif Nat.blt n 1000000 && (Nat.ble fin n && Nat.blt made 1000000) then some ⟨wb,n,fin,made,pb,t,pl⟩ else none) else none
  | _,_=>none
 | _=>none
def gV (o : Int) (pl : WT) : Nat :=
 bif Nat.beq (kK o) 0 then 0 else match pl.get (kK o) with
  | .ofNat 0=>0
  | _=>kK o
def aBw (w : Int) (pl : WT) : Bool :=
 match w with
 | .ofNat 0=>true
 | .ofNat 2=>true
 | .ofNat 4=>true
 | w=>hU w || !(Nat.beq (gV w pl) 0)
def aEu (w : Int) (pl : WT) : Bool :=
 match w with
 | .ofNat 0=>true
 | w => !(Nat.beq (gV w pl) 0)
def lA (args : List DV) (h : Hp) (k : MemV → List DV → aH) : aH :=
 match args with
 | .p m 0 :: rest=>match kE m h with
  | some M=>k M rest
  | none=>none
 | _=>none
def err (e : Nat) (h : Hp) : aH:=some (.t [.i .i64 (.ofNat 0),.i .i64 (.ofNat e)],h)
def isF (args : List DV) (h : Hp) : aH:=lA args h fun M r=>match r with
 | [.i .i64 w]=>some (.b (!(Nat.beq (gV w M.pl) 0)),h)
 | _=>none
def bWq (args : List DV) (h : Hp) : aH:=lA args h fun M r=>match r with
 | [.i .i64 w]=>some (.b (aBw w M.pl),h)
 | _=>none
def aFn (args : List DV) (h : Hp) : aH:=lA args h fun M r=>match r with
 | []=>some (.i .i64 (.ofNat M.n),h)
 | _=>none
def vB (args : List DV) (h : Hp) : aH:=lA args h fun M r=>match r with
 | []=>some (.i .i64 (.ofNat (Nat.sub M.n M.fin)),h)
 | _=>none
def kU (M : MemV) (o : Int) (k : Nat → aH) : aH :=
 bif Nat.blt (Nat.add (gV o M.pl) 1) M.n then (match M.t.get (gV o M.pl) with
  | .ofNat hd=>bif Nat.blt hd 1000000000000 then k hd else none
  | .negSucc _=>none) else none
def uP (args : List DV) (h : Hp) : aH:=lA args h fun M r=>match r with
 | [.i .i64 o]=>kU M o fun _=>some (.i .i64 (M.t.get (Nat.add (gV o M.pl) 1)),h)
 | _=>none
def oX (args : List DV) (h : Hp) : aH:=lA args h fun M r=>match r with
 | [.i .i64 o]=>kU M o fun hd=>some (.i .i64 (.ofNat (Nat.mod hd 4)),h)
 | _=>none
def oZ (args : List DV) (h : Hp) : aH:=lA args h fun M r=>match r with
 | [.i .i64 o]=>kU M o fun hd=>some (.i .i64 (.ofNat (Nat.div hd 4)),h)
 | _=>none
def jW (M : MemV) (o i : Int) (bad : Nat → aH) (k : Nat → Nat → aH) : aH :=
 bif Nat.beq (gV o M.pl) 0 then bad 1 else match i with
  | .negSucc _=>bad 5
  | .ofNat i=>kU M o fun hd=>bif Nat.ble (Nat.div hd 4) i then bad 5 else
    (bif Nat.blt (Nat.add (Nat.add (gV o M.pl) 3) i) M.n then k hd (Nat.add (Nat.add (gV o M.pl) 3) i) else none)
def bWk (args : List DV) (h : Hp) : aH:=lA args h fun M r=>match r with
 | [.i .i64 o,.i .i64 i]=>jW M o i (fun e=>err e h) fun _ a=>some (.t [.i .i64 (M.t.get a),.i .i64 (.ofNat 0)],h)
 | _=>none
def nY (M : MemV) (a : Nat) (w : Int) (h : Hp) : aH:=some (.i .i64 (.ofNat 0),⟨h.next,Tr.set (.big M.n (M.t.set a w)) M.wb h.bl⟩)
def bRn (args : List DV) (h : Hp) : aH:=lA args h fun M r=>match r with
 | [.i .i64 o,.i .i64 i,.i .i64 w]=>jW M o i (fun e=>some (.i .i64 (.ofNat e),h)) fun hd a =>
   match Nat.mod hd 4 with
   | 0=>bif aBw w M.pl then nY M a w h else some (.i .i64 (.ofNat 6),h)
   | 2=>(match w with
    | .ofNat c=>bif Nat.ble c 255 then nY M a w h else some (.i .i64 (.ofNat 6),h)
    | .negSucc _=>some (.i .i64 (.ofNat 6),h))
   | _=>nY M a w h
 | _=>none
def kJ (args : List DV) (h : Hp) : aH:=lA args h fun M r=>match r with
 | [.i .i64 o,.i .i64 c]=>bif Nat.beq (gV o M.pl) 0 || !(aEu c M.pl) then some (.i .i64 (.ofNat 1),h) else
   (bif Nat.blt (Nat.add (gV o M.pl) 1) M.n then nY M (Nat.add (gV o M.pl) 1) c h else none)
 | _=>none
def pJ (t : WT) (c : Nat) : Nat → WT :=
 Nat.rec (motive:=fun _=>Nat → WT) (fun _=>t) (fun _ ih a=>(ih (Nat.add a 1)).set a (.ofNat 0)) c
def nF (args : List DV) (h : Hp) : aH :=
 match args with
 | [.p m 0,.i .i64 cls,.i .i64 fmt,.i .i64 cnt]=>match kE m h with
  | none=>none
  | some M=>bif !(aEu cls M.pl) then err 1 h else match fmt,cnt with
   | .ofNat f,.ofNat c=>bif Nat.ble f 2 && Nat.ble c 256 then
     (bif Nat.blt (Nat.sub M.n M.fin) (Nat.add c 3) then err 4 h else
      (bif Nat.ble 3 M.fin && Nat.ble M.fin 131072 then
       some (.t [.i .i64 (.ofNat (Nat.mul M.fin 2)),.i .i64 (.ofNat 0)],
        ⟨h.next,Tr.set (.row .ex [.l M.wb 0 M.n M.n,.i .i64 (.ofNat (Nat.add M.fin (Nat.add c 3))),.i .i64 (.ofNat (Nat.succ M.made)),.m M.pb]) m
         (Tr.set (.mi (M.pl.set M.fin (.ofNat 1))) M.pb
          (Tr.set (.big M.n (pJ (((M.t.set M.fin (.ofNat (Nat.add (Nat.mul c 4) f))).set (Nat.add M.fin 1) cls).set (Nat.add M.fin 2) (.ofNat (Nat.succ M.made))) c (Nat.add M.fin 3))) M.wb h.bl))⟩)
       else none))
     else err 1 h
   | _,_=>err 1 h
 | _=>none
def aRx (args : List DV) (h : Hp) : aH :=
 match args with
 | [.i .i64 (.ofNat n)]=>bif Nat.blt n 16 || Nat.blt 131072 n then some (.p0,h) else
   some (.p (bX 2 h.next) 0,⟨bX 3 h.next,Tr.set (.row .ex [.l h.next 0 n n,.i .i64 (.ofNat 3),.i .i64 (.ofNat 0),.m (bX 1 h.next)]) (bX 2 h.next)
    (Tr.set (.mi .e) (bX 1 h.next) (Tr.set (.big n .e) h.next h.bl))⟩)
 | [.i .i64 (.negSucc _)]=>some (.p0,h)
 | _=>none
def jT (args : List DV) (h : Hp) : aH :=
 match args with
 | [.i .i64 w]=>some (.b (hU w),h)
 | _=>none
def nQ (args : List DV) (h : Hp) : aH :=
 match args with
 | [.i .i64 w]=>bif hU w then some (.i .i64 (cTq w),h) else some (.i .i64 (.ofNat 0),h)
 | _=>none
def lQ (args : List DV) (h : Hp) : aH :=
 match args with
 | [.i .i64 (.ofNat n)]=>bif Nat.blt n 1073741824 then some (.t [.i .i64 (.ofNat (Nat.succ (Nat.mul n 2))),.b true],h) else some (.t [.i .i64 (.ofNat 0),.b false],h)
 | [.i .i64 (.negSucc n)]=>bif Nat.blt n 1073741824 then some (.t [.i .i64 (.negSucc (Nat.mul n 2)),.b true],h) else some (.t [.i .i64 (.ofNat 0),.b false],h)
 | _=>none
def m4D (x : DV) (n c fin made : Nat) (wb : Pos) (h : Hp) : Option MemV :=
 DV.rec (motive_1:=fun _=>Nat → Nat → Nat → Nat → Pos → Hp → Option MemV) (motive_2:=fun _=>PUnit) (fun _ _ _ _ _ _=>none) (fun _ _ _ _ _ _ _=>none) (fun _ _ _ _ _ _ _ _=>none) (fun _ _ _ _ _ _ _=>none) (fun _ _ _ _ _ _=>none) (fun _ _ _ _ _ _ _ _=>none) (fun _ _ _ _ _ _=>none) (fun _ _ _ _ _ _ _ _ _ _=>none) (fun _ _ _ _ _ _ _ _ _ _=>none) (fun _ _ _ _ _ _=>none) (fun _ _ _ _ _ _=>none)
  (fun pb n c fin made wb h=>Option.rec (motive:=fun _=>Option MemV) none (fun o=>Ob.rec (motive:=fun _=>Option MemV) (fun _ _=>none) (fun _ _=>none) (fun _=>none)
   (fun n' t=>Option.rec (motive:=fun _=>Option MemV) none (fun o=>Ob.rec (motive:=fun _=>Option MemV) (fun _ _=>none) (fun _ _=>none) (fun _=>none) (fun _ _=>none)
    (fun pl=>Bool.rec (motive:=fun _=>Option MemV) none (Bool.rec (motive:=fun _=>Option MemV) none (Bool.rec (motive:=fun _=>Option MemV) none (Bool.rec (motive:=fun _=>Option MemV) none (Bool.rec (motive:=fun _=>Option MemV) none (some ⟨wb,n,fin,made,pb,t,pl⟩) (Nat.blt made 1000000)) (Nat.ble fin n)) (Nat.blt n 1000000)) (Nat.beq n c)) (Nat.beq n n')) o) (h.bl.get pb)) (fun _=>none) o) (h.bl.get wb))
  (fun _ _ _ _ _ _=>none) (fun _ _ _ _ _ _ _ _ _ _ _=>none) (fun _ _ _ _ _ _=>none) (fun _ _ _ _ _ _ _ _ _=>none) (fun _ _ _ _ _ _ _ _=>none) (fun _ _ _ _ _ _ _ _=>none) (fun _ _ _ _ _ _ _=>none) PUnit.unit (fun _ _ _ _=>PUnit.unit) x n c fin made wb h
def iN (x : DV) (f : Nat → Hp → Option MemV) (h : Hp) : Option MemV :=
 DV.rec (motive_1:=fun _=>(Nat → Hp → Option MemV) → Hp → Option MemV) (motive_2:=fun _=>PUnit) (fun _ _=>none) (fun _ _ _=>none) (fun k n f h=>IntKind.rec (motive:=fun _=>Option MemV) none none none (Int.rec (motive:=fun _=>Option MemV) (fun m=>f m h) (fun _=>none) n) none none none none k) (fun _ _ _=>none) (fun _ _=>none) (fun _ _ _ _=>none) (fun _ _=>none) (fun _ _ _ _ _ _=>none) (fun _ _ _ _ _ _=>none) (fun _ _=>none) (fun _ _=>none)
  (fun _ _ _=>none) (fun _ _=>none) (fun _ _ _ _ _ _ _=>none) (fun _ _=>none) (fun _ _ _ _ _=>none) (fun _ _ _ _=>none) (fun _ _ _ _=>none) (fun _ _ _=>none) PUnit.unit (fun _ _ _ _=>PUnit.unit) x f h
def lN (x : DV) (f : Pos → Nat → Nat → Hp → Option MemV) (h : Hp) : Option MemV :=
 DV.rec (motive_1:=fun _=>(Pos → Nat → Nat → Hp → Option MemV) → Hp → Option MemV) (motive_2:=fun _=>PUnit) (fun _ _=>none) (fun _ _ _=>none) (fun _ _ _ _=>none) (fun _ _ _=>none) (fun _ _=>none) (fun _ _ _ _=>none) (fun _ _=>none) (fun b o n c f h=>Nat.rec (motive:=fun _=>Option MemV) (f b n c h) (fun _ _=>none) o) (fun _ _ _ _ _ _=>none) (fun _ _=>none) (fun _ _=>none)
  (fun _ _ _=>none) (fun _ _=>none) (fun _ _ _ _ _ _ _=>none) (fun _ _=>none) (fun _ _ _ _ _=>none) (fun _ _ _ _=>none) (fun _ _ _ _=>none) (fun _ _ _=>none) PUnit.unit (fun _ _ _ _=>PUnit.unit) x f h
def l4D (l : List DV) (h : Hp) : Option MemV :=
 List.rec (motive:=fun _=>Option MemV) none (fun a l _=>List.rec (motive:=fun _=>Option MemV) none (fun b l _=>List.rec (motive:=fun _=>Option MemV) none (fun c l _=>List.rec (motive:=fun _=>Option MemV) none (fun d l _=>List.rec (motive:=fun _=>Option MemV)
  (lN a (fun wb n cp h=>iN b (fun fin h=>iN c (fun made h=>m4D d n cp fin made wb h) h) h) h) (fun _ _ _=>none) l) l) l) l) l
def aAv (m : Pos) (h : Hp) : Option MemV :=
 Option.rec (motive:=fun _=>Option MemV) none (fun o=>Ob.rec (motive:=fun _=>Option MemV) (fun k l=>Kind.rec (motive:=fun _=>Option MemV) none (l4D l h) (fun _=>none) none k) (fun _ _=>none) (fun _=>none) (fun _ _=>none) (fun _=>none) o) (h.bl.get m)
theorem bXj (x : DV) (f : Nat → Hp → Option MemV) (h : Hp) : iN x f h = match x with
 | .i .i64 (.ofNat m)=>f m h
 | _=>none:=by
 cases x <;> (try rfl)
 rename_i k n
 cases k <;> (try rfl)
 cases n <;> rfl
theorem dWk (x : DV) (f : Pos → Nat → Nat → Hp → Option MemV) (h : Hp) : lN x f h = match x with
 | .l b 0 n c=>f b n c h
 | _=>none:=by
 cases x <;> (try rfl)
 rename_i b o n c
 cases o <;> rfl
theorem bMg (x : DV) (n c fin made : Nat) (wb : Pos) (h : Hp) : m4D x n c fin made wb h = match x with
 | .m pb=>(match h.bl.get wb,h.bl.get pb with
  | some (.big n' t),some (.mi pl)=>bif Nat.beq n n' && Nat.beq n c then (bif Nat.blt n 1000000 && (Nat.ble fin n && Nat.blt made 1000000) then some ⟨wb,n,fin,made,pb,t,pl⟩ else none) else none
  | _,_=>none)
 | _=>none:=by
 cases x <;> (try rfl)
 rename_i pb
 simp only [m4D]
 cases h.bl.get wb with
 | none=>rfl
 | some o =>
  cases o <;> (try rfl)
  rename_i n' t
  cases h.bl.get pb with
  | none=>rfl
  | some o =>
   cases o <;> (try rfl)
   rename_i pl
   dsimp only
   cases Nat.beq n n' <;> cases Nat.beq n c <;> cases Nat.blt n 1000000 <;> cases Nat.ble fin n <;> cases Nat.blt made 1000000 <;> rfl
theorem dIv (m : Pos) (h : Hp) : aAv m h = kE m h:=by
 unfold kE
 split
 ·rename_i wb n c fin made pb heq
  unfold aAv
  rw [heq]
  exact bMg (.m pb) n c fin made wb h
 ·rename_i hn
  unfold aAv
  cases hm : h.bl.get m with
  | none=>rfl
  | some o =>
   cases o <;> (try rfl)
   rename_i k l
   cases k <;> (try rfl)
   show l4D l h = none
   match l,hm with
   | [],_=>rfl
   | [a],_=>rfl
   | [a,b],_=>rfl
   | [a,b,c],_=>rfl
   | a :: b :: c :: d :: e :: l,_=>rfl
   | [a,b,c,d],hm =>
    show lN a (fun wb n cp h=>iN b (fun fin h=>iN c (fun made h=>m4D d n cp fin made wb h) h) h) h = none
    rw [dWk]
    split
    ·rw [bXj]
     split
     ·rw [bXj]
      split
      ·rw [bMg]
       split
       ·exact absurd hm (hn _ _ _ _ _ _)
       ·rfl
      ·rfl
     ·rfl
    ·rfl
def eEl (x : DV) (k : Pos → List DV → Hp → aH) (l : List DV) (h : Hp) : aH :=
 DV.rec (motive_1:=fun _=>(Pos → List DV → Hp → aH) → List DV → Hp → aH) (motive_2:=fun _=>PUnit) (fun _ _ _=>none) (fun _ _ _ _=>none) (fun _ _ _ _ _=>none) (fun _ _ _ _=>none) (fun _ _ _=>none) (fun b o k l h=>Nat.rec (motive:=fun _=>aH) (k b l h) (fun _ _=>none) o) (fun _ _ _=>none) (fun _ _ _ _ _ _ _=>none) (fun _ _ _ _ _ _ _=>none) (fun _ _ _=>none) (fun _ _ _=>none) (fun _ _ _ _=>none) (fun _ _ _=>none) (fun _ _ _ _ _ _ _ _=>none) (fun _ _ _=>none) (fun _ _ _ _ _ _=>none) (fun _ _ _ _ _=>none) (fun _ _ _ _ _=>none) (fun _ _ _ _=>none) PUnit.unit (fun _ _ _ _=>PUnit.unit) x k l h
def sK (args : List DV) (k : Pos → List DV → Hp → aH) (h : Hp) : aH :=
 List.rec (motive:=fun _=>(Pos → List DV → Hp → aH) → Hp → aH) (fun _ _=>none) (fun a l _ k h=>eEl a k l h) args k h
def eDa (x : DV) (k : Int → List DV → Hp → aH) (l : List DV) (h : Hp) : aH :=
 DV.rec (motive_1:=fun _=>(Int → List DV → Hp → aH) → List DV → Hp → aH) (motive_2:=fun _=>PUnit) (fun _ _ _=>none) (fun _ _ _ _=>none) (fun ik n k l h=>IntKind.rec (motive:=fun _=>aH) none none none (k n l h) none none none none ik) (fun _ _ _ _=>none) (fun _ _ _=>none) (fun _ _ _ _ _=>none) (fun _ _ _=>none) (fun _ _ _ _ _ _ _=>none) (fun _ _ _ _ _ _ _=>none) (fun _ _ _=>none) (fun _ _ _=>none) (fun _ _ _ _=>none) (fun _ _ _=>none) (fun _ _ _ _ _ _ _ _=>none) (fun _ _ _=>none) (fun _ _ _ _ _ _=>none) (fun _ _ _ _ _=>none) (fun _ _ _ _ _=>none) (fun _ _ _ _=>none) PUnit.unit (fun _ _ _ _=>PUnit.unit) x k l h
def iQ (args : List DV) (k : Int → List DV → Hp → aH) (h : Hp) : aH :=
 List.rec (motive:=fun _=>(Int → List DV → Hp → aH) → Hp → aH) (fun _ _=>none) (fun a l _ k h=>eDa a k l h) args k h
def nC (args : List DV) (k : Hp → aH) (h : Hp) : aH :=
 List.rec (motive:=fun _=>(Hp → aH) → Hp → aH) (fun k h=>k h) (fun _ _ _ _ _=>none) args k h
def aSn (x : Option MemV) (k : MemV → Hp → aH) (h : Hp) : aH :=
 Option.rec (motive:=fun _=>(MemV → Hp → aH) → Hp → aH) (fun _ _=>none) (fun M k h=>k M h) x k h
theorem bRf (args : List DV) (k : Pos → List DV → Hp → aH) (h : Hp) : sK args k h = match args with
 | .p m 0 :: r=>k m r h
 | _=>none:=by
 cases args with
 | nil=>rfl
 | cons x l =>
  cases x <;> (try rfl)
  rename_i b o
  cases o <;> rfl
theorem iZ (args : List DV) (k : Int → Hp → aH) (h : Hp) : iQ args (fun w r h=>nC r (k w) h) h = match args with
 | [.i .i64 w]=>k w h
 | _=>none:=by
 cases args with
 | nil=>rfl
 | cons x l =>
  cases x <;> (try rfl)
  rename_i ik n
  cases ik <;> cases l <;> rfl
theorem bUu (args : List DV) (k : Int → Int → Hp → aH) (h : Hp) : iQ args (fun w r h=>iQ r (fun w2 r h=>nC r (k w w2) h) h) h = match args with
 | [.i .i64 w,.i .i64 w2]=>k w w2 h
 | _=>none:=by
 cases args with
 | nil=>rfl
 | cons x l =>
  cases x <;> (try rfl)
  rename_i ik n
  cases ik <;> (try rfl)
  cases l with
  | nil=>rfl
  | cons y l =>
   cases y <;> (try rfl)
   rename_i ik n
   cases ik <;> cases l <;> rfl
theorem aSh (args : List DV) (k : Int → Int → Int → Hp → aH) (h : Hp) : iQ args (fun w r h=>iQ r (fun w2 r h=>iQ r (fun w3 r h=>nC r (k w w2 w3) h) h) h) h = match args with
 | [.i .i64 w,.i .i64 w2,.i .i64 w3]=>k w w2 w3 h
 | _=>none:=by
 cases args with
 | nil=>rfl
 | cons x l =>
  cases x <;> (try rfl)
  rename_i ik n
  cases ik <;> (try rfl)
  cases l with
  | nil=>rfl
  | cons y l =>
   cases y <;> (try rfl)
   rename_i ik n
   cases ik <;> (try rfl)
   cases l with
   | nil=>rfl
   | cons z l =>
    cases z <;> (try rfl)
    rename_i ik n
    cases ik <;> cases l <;> rfl
theorem pP (args : List DV) (k : MemV → List DV → Hp → aH) (h : Hp) : sK args (fun m r h=>aSn (aAv m h) (fun M h=>k M r h) h) h = lA args h (fun M r=>k M r h):=by
 rw [bRf]
 unfold lA
 split
 ·rw [dIv]
  rename_i m r
  cases kE m h <;> rfl
 ·rfl
def isQ (args : List DV) (h : Hp) : aH:=sK args (fun m r h=>aSn (aAv m h) (fun M h=>iQ r (fun w r h=>nC r (fun h=>some (.b (!(Nat.beq (gV w M.pl) 0)),h)) h) h) h) h
def aWf (args : List DV) (h : Hp) : aH:=sK args (fun m r h=>aSn (aAv m h) (fun M h=>iQ r (fun w r h=>nC r (fun h=>some (.b (aBw w M.pl),h)) h) h) h) h
def qL (args : List DV) (h : Hp) : aH:=sK args (fun m r h=>aSn (aAv m h) (fun M h=>iQ r (fun o r h=>nC r (fun h=>kU M o fun _=>some (.i .i64 (M.t.get (Nat.add (gV o M.pl) 1)),h)) h) h) h) h
def mR (args : List DV) (h : Hp) : aH:=sK args (fun m r h=>aSn (aAv m h) (fun M h=>iQ r (fun o r h=>nC r (fun h=>kU M o fun hd=>some (.i .i64 (.ofNat (Nat.mod hd 4)),h)) h) h) h) h
def oN (args : List DV) (h : Hp) : aH:=sK args (fun m r h=>aSn (aAv m h) (fun M h=>iQ r (fun o r h=>nC r (fun h=>kU M o fun hd=>some (.i .i64 (.ofNat (Nat.div hd 4)),h)) h) h) h) h
def bTq (args : List DV) (h : Hp) : aH:=sK args (fun m r h=>aSn (aAv m h) (fun M h=>iQ r (fun o r h=>iQ r (fun i r h=>nC r (fun h=>jW M o i (fun e=>err e h) fun _ a=>some (.t [.i .i64 (M.t.get a),.i .i64 (.ofNat 0)],h)) h) h) h) h) h
def eLh (M : MemV) (o i w : Int) (h : Hp) : aH:=jW M o i (fun e=>some (.i .i64 (.ofNat e),h)) fun hd a =>
   match Nat.mod hd 4 with
   | 0=>bif aBw w M.pl then nY M a w h else some (.i .i64 (.ofNat 6),h)
   | 2=>(match w with
    | .ofNat c=>bif Nat.ble c 255 then nY M a w h else some (.i .i64 (.ofNat 6),h)
    | .negSucc _=>some (.i .i64 (.ofNat 6),h))
   | _=>nY M a w h
def oB (args : List DV) (h : Hp) : aH:=sK args (fun m r h=>aSn (aAv m h) (fun M h=>iQ r (fun o r h=>iQ r (fun i r h=>iQ r (fun w r h=>nC r (fun h=>eLh M o i w h) h) h) h) h) h) h
def nW (args : List DV) (h : Hp) : aH:=iQ args (fun w r h=>nC r (fun h=>some (.b (hU w),h)) h) h
def oA (args : List DV) (h : Hp) : aH:=iQ args (fun w r h=>nC r (fun h=>bif hU w then some (.i .i64 (cTq w),h) else some (.i .i64 (.ofNat 0),h)) h) h
theorem dZy : isQ = isF:=by
 funext args h
 unfold isQ
 rw [pP args (fun M r h=>_) h]
 unfold isF lA
 split
 ·rename_i m r
  cases kE m h with
  | none=>rfl
  | some M =>
   dsimp only
   rw [iZ]
   (try rfl)
 ·rfl
theorem dPv : aWf = bWq:=by
 funext args h
 unfold aWf
 rw [pP args (fun M r h=>_) h]
 unfold bWq lA
 split
 ·rename_i m r
  cases kE m h with
  | none=>rfl
  | some M =>
   dsimp only
   rw [iZ]
   (try rfl)
 ·rfl
theorem bSe : qL = uP:=by
 funext args h
 unfold qL
 rw [pP args (fun M r h=>_) h]
 unfold uP lA
 split
 ·rename_i m r
  cases kE m h with
  | none=>rfl
  | some M =>
   dsimp only
   rw [iZ]
   (try rfl)
 ·rfl
theorem aWc : mR = oX:=by
 funext args h
 unfold mR
 rw [pP args (fun M r h=>_) h]
 unfold oX lA
 split
 ·rename_i m r
  cases kE m h with
  | none=>rfl
  | some M =>
   dsimp only
   rw [iZ]
   (try rfl)
 ·rfl
theorem bEk : oN = oZ:=by
 funext args h
 unfold oN
 rw [pP args (fun M r h=>_) h]
 unfold oZ lA
 split
 ·rename_i m r
  cases kE m h with
  | none=>rfl
  | some M =>
   dsimp only
   rw [iZ]
   (try rfl)
 ·rfl
theorem dLv : bTq = bWk:=by
 funext args h
 unfold bTq
 rw [pP args (fun M r h=>_) h]
 unfold bWk lA
 split
 ·rename_i m r
  cases kE m h with
  | none=>rfl
  | some M =>
   dsimp only
   rw [bUu]
   (try rfl)
 ·rfl
theorem cXe : oB = bRn:=by
 funext args h
 unfold oB
 rw [pP args (fun M r h=>_) h]
 unfold bRn lA
 split
 ·rename_i m r
  cases kE m h with
  | none=>rfl
  | some M =>
   dsimp only
   rw [aSh]
   (try rfl)
 ·rfl
theorem aSf : nW = jT:=by
 funext args h
 unfold nW jT
 rw [iZ]
theorem bUm : oA = nQ:=by
 funext args h
 unfold oA nQ
 rw [iZ]
def bOw (g : Nat) : Option (List DV → Hp → aH) :=
 bif Nat.beq g 58 then some bWq else bif Nat.beq g 98 then some isF else bif Nat.beq g 107 then some aFn else bif Nat.beq g 42 then some vB else
 bif Nat.beq g 24 then some nF else bif Nat.beq g 23 then some aRx else bif Nat.beq g 27 then some kJ else bif Nat.beq g 31 then some bRn else
 bif Nat.beq g 141 then some uP else bif Nat.beq g 62 then some oX else bif Nat.beq g 103 then some oZ else bif Nat.beq g 102 then some jT else
 bif Nat.beq g 60 then some lQ else bif Nat.beq g 143 then some nQ else bif Nat.beq g 180 then some bWk else none
def aPj (g : Nat) : Option (List DV → Hp → aH) :=
 bif Nat.beq g 58 then some aWf else bif Nat.beq g 98 then some isQ else bif Nat.beq g 107 then some aFn else bif Nat.beq g 42 then some vB else
 bif Nat.beq g 24 then some nF else bif Nat.beq g 23 then some aRx else bif Nat.beq g 27 then some kJ else bif Nat.beq g 31 then some oB else
 bif Nat.beq g 141 then some qL else bif Nat.beq g 62 then some mR else bif Nat.beq g 103 then some oN else bif Nat.beq g 102 then some nW else
 bif Nat.beq g 60 then some lQ else bif Nat.beq g 143 then some oA else bif Nat.beq g 180 then some bTq else none
theorem bPc (g : Nat) : aPj g = bOw g:=by
 unfold aPj bOw
 rw [dPv,dZy,cXe,bSe,aWc,bEk,aSf,bUm,dLv]
end
end Go.Dd

namespace Go.Dd
open Go.Proofs
def cf (f : Func) : Code:=match f.body with
 | some c=>c
 | none=>.skip
def cL : Code → Code
 | .seq a _=>a
 | .cond _ a _=>a
 | .block _ a=>a
 | .loop a=>a
 | .scope a=>a
 | c=>c
def cR : Code → Code
 | .seq _ b=>b
 | .cond _ _ b=>b
 | c=>c
def cC : Code → Operand
 | .cond c _ _=>c
 | _=>.const .nilFunc
def x0 : Nat → K:=fun _=>bY
def xs (X : Nat → K) (i : Nat) (k : K) : Nat → K:=fun j=>bif Nat.beq j i then k else X j
def aVu (c : Nat) : List Nat → Nat → Int
 | [],_=>.negSucc 0
 | x :: l,i=>bif Nat.beq x c then .ofNat i else aVu c l (i + 1)
def bBc (args : List DV) (h : Hp) : aH :=
 match args with
 | [.s l,.i .u8 (.ofNat c)]=>bif Nat.blt c 256 then some (.i .i64 (aVu c l 0),h) else none
 | _=>none
def CF0 : Cfg:=⟨Tryz.prog,fun _=>none⟩
def kC (p : Pos) : Pos → Bool:=Pos.rec (motive:=fun _=>Pos → Bool) (fun q=>Pos.rec (motive:=fun _=>Bool) true (fun _ _=>false) (fun _ _=>false) q)
 (fun _ ih q=>Pos.rec (motive:=fun _=>Bool) false (fun q _=>ih q) (fun _ _=>false) q) (fun _ ih q=>Pos.rec (motive:=fun _=>Bool) false (fun _ _=>false) (fun q _=>ih q) q) p
def iI (q : Pos) (l1 : DV) (cs : List DV) (h : Hp) : aH :=
 match l1 with
 | .l0=>some (.l h.next 0 1 1,⟨h.next.succ,Tr.set (.row (.gr 4) cs) h.next h.bl⟩)
 | .l b o len cap=>cnd (Nat.ble cap len && !(kC b q)) (match h.bl.get b,cellsAt b o (len * 4) h with
  | some (.row (.gr es) l),some old=>if es = 4 ∧ o + cap * 4 = l.length ∧ (len + 1) * 56 ≤ eB then
    some (.l h.next 0 (len + 1) (len + 1),⟨h.next.succ,Tr.set (.row (.gr 4) (old ++ cs)) h.next (Tr.set (.row .sp (bR o l)) b h.bl)⟩) else none
  | _,_=>none)
 | _=>none
def tM (c q : Pos) (h : Hp) : aH :=
 bnd (aA (.p c 4) h) fun l1 _ =>
 bnd (bM l1 h) fun n _ =>
 bnd (aK 4 (.p q 0) h) fun x _ =>
 match x with
 | .a cs=>cnd (!(kC c q)) (
  bnd (iI q l1 cs ⟨h.next.succ.succ,h.bl⟩) fun l2 h3 =>
  bnd (aJ 1 (.p c 4) l2 h3) fun _ h4=>some (n,h4))
 | _=>none
def bSv (args : List DV) (h : Hp) : aH :=
 match args with
 | [.p c 0,.a lit] =>
  bnd (bQ lit h) fun _ h1 =>
  bnd (aA (.p c 4) h1) fun ls h2 =>
  bnd (fnD CF0 60 251 [ls,.f 337 [] [.p h.next 0]] h2) fun i h3 =>
  bnd (aC .lss i (.i .i64 (Int.ofNat 0)) h3) fun t h4 =>
  aR t (tM c h.next h4) (some (i,h4))
 | _=>none
def aRp (c : Nat) (new : List Nat) : List Nat → List Nat
 | []=>[]
 | x :: l=>bif Nat.beq x c then new ++ aRp c new l else x :: aRp c new l
def aEj (args : List DV) (h : Hp) : aH :=
 match args with
 | [.s s,.s [c],.s new]=>bif Nat.blt c 256 then (bif Nat.ble s.length 4000000000 then (bif Nat.ble new.length 1000 then some (.s (aRp c new s),h) else none) else none) else none
 | _=>none
def aGh : Nat → Nat → List Nat → List Nat
 | 0,_,acc=>acc
 | f + 1,n,acc=>bif Nat.ble 10 n then aGh f (Nat.div n 10) (Nat.add 48 (Nat.mod n 10) :: acc) else Nat.add 48 n :: acc
def cCj : Int → List Nat
 | .ofNat n=>aGh 20 n []
 | .negSucc n=>45 :: aGh 20 (Nat.succ n) []
def aDa (args : List DV) (h : Hp) : aH :=
 match args with
 | [.i .i64 n]=>bif decide (-9223372036854775808 ≤ n) && decide (n ≤ 9223372036854775807) then some (.s (cCj n),h) else none
 | _=>none
def lU (c q : Pos) (h : Hp) : aH :=
 bnd (aA (.p c 4) h) fun l1 _ =>
 bnd (bM l1 h) fun n _ =>
 bnd (aK 4 (.p q 0) h) fun x _ =>
 match x with
 | .a cs=>cnd (!(kC c q)) (
  bnd (iI q l1 cs ⟨h.next.succ,h.bl⟩) fun l2 h3 =>
  bnd (aJ 1 (.p c 4) l2 h3) fun _ h4=>some (n,h4))
 | _=>none
def uH : K:=fun env h=>match env 0,env 3 with
 | .p c 0,.p q 0=>lU c q h
 | _,_=>none
def oF (args : List DV) (h : Hp) : aH :=
 match args with
 | [.p c 0,.a lit]=>aW CF0 (fnD CF0 60) 47 300 (cL (cf Tryz.f124)) x0 (bE CF0 Tryz.f124) (aW CF0 (fnD CF0 60) 47 300 (cL (cR (cf Tryz.f124))) x0 (bE CF0 Tryz.f124) uH) (aQ [.p c 0,.a lit]) h
 | _=>none
def qD (g : FuncId) : Option (List DV → Hp → aH):=bif Nat.beq g 271 then some bBc else bif Nat.beq g 285 then some bSv else bif Nat.beq g 165 then some aDa else bif Nat.beq g 167 then some aEj else bif Nat.beq g 124 then some oF else none
def orI (a b : Option (List DV → Hp → aH)) : Option (List DV → Hp → aH):=match a with
 | some F=>some F
 | none=>b
def CF1 : Cfg:=⟨Tryz.prog,qD⟩
def CF : Cfg:=⟨Tryz.prog,fun g=>orI (qD g) (aPj g)⟩
def dE : Code → Array Oper
 | .region _ ops _=>ops
 | _ => #[]
def itL : Code:=cL (cL (cR (cf Tryz.f305)))
def itB : Code:=cL (cL (cR itL))
def eNr : List Oper → Nat → Oper
 | [],_=>⟨none,.move (.const .nilFunc),0,"", #[],none⟩
 | o :: _,0=>o
 | _ :: l,n + 1=>eNr l n
def itm : ItC:={ gf:=305,nt:=31,pre:=cL (cf Tryz.f305),b0:=0,test:=cL itL,b1:=1,rid:=3,front:=(dE (cL (cL itB))).toList.take 4,y:=eNr (dE (cL (cL itB))).toList 4,back:=(dE (cL (cL itB))).toList.drop 5,after:=cR (cL itB),post:=cR itB,step:=cR (cR itL),yd:=26,yt:=22,yx:=25 }
def rgB (g : FuncId) : Bool:=Nat.beq g 308 || Nat.beq g 205
abbrev fU (C : Cfg) (n : Nat) : FuncId → List DV → Hp → aH:=fnR C itm rgB n
theorem cE (f : FuncId) (hf : rgB f = false) (C : Cfg) (n : Nat) (args : List DV) (h : Hp) : fU C (n + 1) f args h = aI C (fU C n) n f args h:=by
 show (bif rgB f then jM C (fU C n) n itm f else aI C (fU C n) n f) args h = _
 rw [hf]
 rfl
theorem eHz (f : FuncId) (hf : rgB f = true) (C : Cfg) (n : Nat) (args : List DV) (h : Hp) : fU C (n + 1) f args h = jM C (fU C n) n itm f args h:=by
 show (bif rgB f then jM C (fU C n) n itm f else aI C (fU C n) n f) args h = _
 rw [hf]
 rfl
abbrev RT:=FuncId → List DV → Hp → aH
abbrev TT0:=Hp → aH
abbrev TT1:=DV → Hp → aH
abbrev gP:=DV → DV → Hp → aH
abbrev jS:=DV → DV → DV → Hp → aH
abbrev dG:=DV → DV → DV → DV → Hp → aH
abbrev cN:=DV → DV → DV → DV → DV → Hp → aH
abbrev fZ:=DV → DV → DV → DV → DV → DV → Hp → aH
abbrev TT7:=DV → DV → DV → DV → DV → DV → DV → Hp → aH
abbrev TT8:=DV → DV → DV → DV → DV → DV → DV → DV → Hp → aH
abbrev TT9:=DV → DV → DV → DV → DV → DV → DV → DV → DV → Hp → aH
abbrev bCx:=DV → DV → DV → DV → DV → DV → DV → DV → DV → DV → Hp → aH
abbrev eOk:=DV → DV → DV → DV → DV → DV → DV → DV → DV → DV → DV → Hp → aH
abbrev eWj:=DV → DV → DV → DV → DV → DV → DV → DV → DV → DV → DV → DV → Hp → aH
abbrev eWp:=DV → DV → DV → DV → DV → DV → DV → DV → DV → DV → DV → DV → DV → Hp → aH
abbrev fAt:=DV → DV → DV → DV → DV → DV → DV → DV → DV → DV → DV → DV → DV → DV → Hp → aH
abbrev fAn:=DV → DV → DV → DV → DV → DV → DV → DV → DV → DV → DV → DV → DV → DV → DV → Hp → aH
abbrev eXw:=DV → DV → DV → DV → DV → DV → DV → DV → DV → DV → DV → DV → DV → DV → DV → DV → Hp → aH
abbrev eWm:=DV → DV → DV → DV → DV → DV → DV → DV → DV → DV → DV → DV → DV → DV → DV → DV → DV → Hp → aH
abbrev eZr:=DV → DV → DV → DV → DV → DV → DV → DV → DV → DV → DV → DV → DV → DV → DV → DV → DV → DV → Hp → aH
abbrev eZt:=DV → DV → DV → DV → DV → DV → DV → DV → DV → DV → DV → DV → DV → DV → DV → DV → DV → DV → DV → Hp → aH
abbrev fAa:=DV → DV → DV → DV → DV → DV → DV → DV → DV → DV → DV → DV → DV → DV → DV → DV → DV → DV → DV → DV → Hp → aH
abbrev K0 (f : TT0) : K:=fun env h=>f h
abbrev K1 (f : TT1) (a0 : Nat) : K:=fun env h=>f (env a0) h
abbrev K2 (f : gP) (a0 a1 : Nat) : K:=fun env h=>f (env a0) (env a1) h
abbrev K3 (f : jS) (a0 a1 a2 : Nat) : K:=fun env h=>f (env a0) (env a1) (env a2) h
abbrev K4 (f : dG) (a0 a1 a2 a3 : Nat) : K:=fun env h=>f (env a0) (env a1) (env a2) (env a3) h
abbrev K5 (f : cN) (a0 a1 a2 a3 a4 : Nat) : K:=fun env h=>f (env a0) (env a1) (env a2) (env a3) (env a4) h
abbrev K6 (f : fZ) (a0 a1 a2 a3 a4 a5 : Nat) : K:=fun env h=>f (env a0) (env a1) (env a2) (env a3) (env a4) (env a5) h
abbrev K7 (f : TT7) (a0 a1 a2 a3 a4 a5 a6 : Nat) : K:=fun env h=>f (env a0) (env a1) (env a2) (env a3) (env a4) (env a5) (env a6) h
abbrev K8 (f : TT8) (a0 a1 a2 a3 a4 a5 a6 a7 : Nat) : K:=fun env h=>f (env a0) (env a1) (env a2) (env a3) (env a4) (env a5) (env a6) (env a7) h
abbrev K9 (f : TT9) (a0 a1 a2 a3 a4 a5 a6 a7 a8 : Nat) : K:=fun env h=>f (env a0) (env a1) (env a2) (env a3) (env a4) (env a5) (env a6) (env a7) (env a8) h
abbrev K10 (f : bCx) (a0 a1 a2 a3 a4 a5 a6 a7 a8 a9 : Nat) : K:=fun env h=>f (env a0) (env a1) (env a2) (env a3) (env a4) (env a5) (env a6) (env a7) (env a8) (env a9) h
abbrev K11 (f : eOk) (a0 a1 a2 a3 a4 a5 a6 a7 a8 a9 a10 : Nat) : K:=fun env h=>f (env a0) (env a1) (env a2) (env a3) (env a4) (env a5) (env a6) (env a7) (env a8) (env a9) (env a10) h
abbrev K12 (f : eWj) (a0 a1 a2 a3 a4 a5 a6 a7 a8 a9 a10 a11 : Nat) : K:=fun env h=>f (env a0) (env a1) (env a2) (env a3) (env a4) (env a5) (env a6) (env a7) (env a8) (env a9) (env a10) (env a11) h
abbrev K13 (f : eWp) (a0 a1 a2 a3 a4 a5 a6 a7 a8 a9 a10 a11 a12 : Nat) : K:=fun env h=>f (env a0) (env a1) (env a2) (env a3) (env a4) (env a5) (env a6) (env a7) (env a8) (env a9) (env a10) (env a11) (env a12) h
abbrev K14 (f : fAt) (a0 a1 a2 a3 a4 a5 a6 a7 a8 a9 a10 a11 a12 a13 : Nat) : K:=fun env h=>f (env a0) (env a1) (env a2) (env a3) (env a4) (env a5) (env a6) (env a7) (env a8) (env a9) (env a10) (env a11) (env a12) (env a13) h
abbrev K15 (f : fAn) (a0 a1 a2 a3 a4 a5 a6 a7 a8 a9 a10 a11 a12 a13 a14 : Nat) : K:=fun env h=>f (env a0) (env a1) (env a2) (env a3) (env a4) (env a5) (env a6) (env a7) (env a8) (env a9) (env a10) (env a11) (env a12) (env a13) (env a14) h
abbrev K16 (f : eXw) (a0 a1 a2 a3 a4 a5 a6 a7 a8 a9 a10 a11 a12 a13 a14 a15 : Nat) : K:=fun env h=>f (env a0) (env a1) (env a2) (env a3) (env a4) (env a5) (env a6) (env a7) (env a8) (env a9) (env a10) (env a11) (env a12) (env a13) (env a14) (env a15) h
abbrev K17 (f : eWm) (a0 a1 a2 a3 a4 a5 a6 a7 a8 a9 a10 a11 a12 a13 a14 a15 a16 : Nat) : K:=fun env h=>f (env a0) (env a1) (env a2) (env a3) (env a4) (env a5) (env a6) (env a7) (env a8) (env a9) (env a10) (env a11) (env a12) (env a13) (env a14) (env a15) (env a16) h
abbrev K18 (f : eZr) (a0 a1 a2 a3 a4 a5 a6 a7 a8 a9 a10 a11 a12 a13 a14 a15 a16 a17 : Nat) : K:=fun env h=>f (env a0) (env a1) (env a2) (env a3) (env a4) (env a5) (env a6) (env a7) (env a8) (env a9) (env a10) (env a11) (env a12) (env a13) (env a14) (env a15) (env a16) (env a17) h
abbrev K19 (f : eZt) (a0 a1 a2 a3 a4 a5 a6 a7 a8 a9 a10 a11 a12 a13 a14 a15 a16 a17 a18 : Nat) : K:=fun env h=>f (env a0) (env a1) (env a2) (env a3) (env a4) (env a5) (env a6) (env a7) (env a8) (env a9) (env a10) (env a11) (env a12) (env a13) (env a14) (env a15) (env a16) (env a17) (env a18) h
abbrev K20 (f : fAa) (a0 a1 a2 a3 a4 a5 a6 a7 a8 a9 a10 a11 a12 a13 a14 a15 a16 a17 a18 a19 : Nat) : K:=fun env h=>f (env a0) (env a1) (env a2) (env a3) (env a4) (env a5) (env a6) (env a7) (env a8) (env a9) (env a10) (env a11) (env a12) (env a13) (env a14) (env a15) (env a16) (env a17) (env a18) (env a19) h
def fL (k : Nat) (x : DV) (h : Hp) (f : DV → Hp → aH) : aH:=bnd (aV x h) fun v h=>bnd (aB k v h) fun v h=>bnd (aA v h) f
def fM (k : Nat) (x : DV) (h : Hp) (f : DV → Hp → aH) : aH:=bnd (aB k x h) fun v h=>bnd (aA v h) f
theorem okG {d s : K} (m : d = s) (args : List DV) (h : Hp) {a b : aH} (e1 : a = d (aQ args) h) (e2 : s (aQ args) h = b) : a = b :=
 e1.trans ((congrFun (congrFun m (aQ args)) h).trans e2)
abbrev aE (n : Nat) : DV:=.i .i64 (Int.ofNat n)
abbrev kG : List DV:=[(.i .i64 (Int.ofNat 0)),(.s []),(.i .i64 (Int.ofNat 0)),.l0,.l0,.l0]
abbrev bI (args : List DV) (i : Nat) : DV:=args.getD i aT
end Go.Dd

namespace Go.Dd
open Go.Proofs
def fAk (rec : FuncId → List DV → Hp → aH) (n : Nat) (x6 : DV) (h0 : Hp) : aH :=
 bnd (aJ 1 x6 (.i .i64 (Int.ofNat 0)) h0) fun _ h1 =>
 bnd (aA x6 h1) fun v2 _ =>
 some (v2,h1)
def eUp (rec : FuncId → List DV → Hp → aH) (n : Nat) (nx : Pos) (x3 x5 x6 : DV) (kk : DV → DV → DV → DV → Hp → aH) (i0 i1 i2 i4 : DV) (h0 : Hp) : aH :=
 bnd (aC .gtr i4 (.i .i64 (Int.ofNat 0)) h0) fun v501 h501 =>
 bnd (gD v501 true (aA i1 h501) h501) fun v502 h502 =>
 bnd (gD v501 true (aV v502 h502) h502) fun v503 h503 =>
 bnd (gD v501 true (aB 0 v503 h503) h503) fun v504 h504 =>
 bnd (gD v501 true (aA v504 h504) h504) fun v505 h505 =>
 bnd (gD v501 true (aA i2 h505) h505) fun v506 h506 =>
 bnd (gD v501 true (isQ [v505,v506] h506) h506) fun v507 h507 =>
 bnd (aN v501 v507 (.b false) h507) fun v508 h508 =>
 aR v508 (
  bnd (aA i1 h508) fun v509 h509 =>
  bnd (aA i2 h509) fun v510 h510 =>
  bnd (rec 108 [v509,v510,(.i .i64 (Int.ofNat 0))] h510) fun v511 h511 =>
  cnd (ylB i0 nx) (
   bnd (aA x3 h511) fun v3 h3 =>
   bnd (rec 108 [v3,v511,(.i .i64 (Int.ofNat 0))] h3) fun v4 h4 =>
   bnd (aA x5 h4) fun v5 h5 =>
   cnd (aX (aA x5 h511) v5 && true) (
   bnd (aC .eql v4 v5 h5) fun v6 h6 =>
   aR v6 (
    bnd (aJ 1 x6 v511 h6) fun _ h7 =>
    bnd (eQ .not (.b false) h7) fun v512 h512 =>
    aR v512 (
     bnd (aA x6 h512) fun v8 _ =>
     some (v8,h512)) (
     none)) (
    bnd (eQ .not (.b true) h6) fun v513 h513 =>
    aR v513 (
     none) (
     bnd (aA i1 h513) fun v514 h514 =>
     bnd (aA i2 h514) fun v515 h515 =>
     bnd (rec 108 [v514,v515,(.i .i64 (Int.ofNat 1))] h515) fun v516 h516 =>
     bnd (aJ 1 i2 v516 h516) fun _ h517 =>
     bnd (aC .sub i4 (.i .i64 (Int.ofNat 1)) h517) fun v518 h518 =>
     kk i0 i1 i2 v518 h518))))) (
  fAk rec n x6 h508)
def dQn (rec : FuncId → List DV → Hp → aH) (n : Nat) (nx : Pos) (x3 x5 x6 : DV) (m : Nat) : DV → DV → DV → DV → Hp → aH :=
 Nat.rec (motive:=fun _=>DV → DV → DV → DV → Hp → aH) (fun _ _ _ _ _=>none) (fun _ ih=>eUp rec n nx x3 x5 x6 ih) m
def dYn (rec : FuncId → List DV → Hp → aH) (n : Nat) (nx : Pos) (x3 x5 x6 i0 i1 i2 : DV) (h0 : Hp) : aH :=
 bnd (aA i1 h0) fun v519 h519 =>
 bnd (aV v519 h519) fun v520 h520 =>
 bnd (aB 0 v520 h520) fun v521 h521 =>
 bnd (aA v521 h521) fun v522 h522 =>
 bnd (aFn [v522] h522) fun v523 h523 =>
 dQn rec n nx x3 x5 x6 n i0 i1 i2 v523 h523
def aCl (rec : FuncId → List DV → Hp → aH) (n : Nat) (g x3 x5 x6 : DV) (h : Hp) : aH :=
 match g with
 | .f gf [] cap=>cnd (Nat.beq gf 305) (dYn rec n h.next x3 x5 x6 (.yl h.next) (cap.getD 0 aT) (cap.getD 1 aT) (resv 2 h))
 | _=>none
def cHh (rec : FuncId → List DV → Hp → aH) (n : Nat) (x0 x1 x2 : DV) (h0 : Hp) : aH :=
 bnd (bZ x0 h0) fun v9 h9 =>
 bnd (bZ x2 h9) fun v10 h10 =>
 bnd (bQ [(.i .i64 (Int.ofNat 0))] h10) fun v11 h11 =>
 bnd (aA v9 h11) fun v12 h12 =>
 bnd (rec 81 [v12,x1] h12) fun v13 h13 =>
 bnd (eQ .not v13 h13) fun v14 h14 =>
 bnd (gD v14 false (aA v9 h14) h14) fun v15 h15 =>
 bnd (gD v14 false (aV v15 h15) h15) fun v16 h16 =>
 bnd (gD v14 false (aB 0 v16 h16) h16) fun v17 h17 =>
 bnd (gD v14 false (aA v17 h17) h17) fun v18 h18 =>
 bnd (gD v14 false (aA v10 h18) h18) fun v19 h19 =>
 bnd (gD v14 false (isQ [v18,v19] h19) h19) fun v20 h20 =>
 bnd (gD v14 false (eQ .not v20 h20) h20) fun v21 h21 =>
 bnd (aN v14 (.b true) v21 h21) fun v22 h22 =>
 aR v22 (
  bnd (aJ 1 v11 (.i .i64 (Int.ofNat 0)) h22) fun _ h23 =>
  bnd (aA v11 h23) fun v24 _ =>
  some (v24,h23)) (
  bnd (aA v9 h22) fun v25 h25 =>
  bnd (aA v9 h25) fun v26 h26 =>
  bnd (rec 108 [v26,x1,(.i .i64 (Int.ofNat 4))] h26) fun v27 h27 =>
  cnd (aX (aA v9 h27) v25 && true) (
  bnd (rec 250 [v25,v27] h27) fun v28 h28 =>
  aCl rec n v28 v9 v10 v11 h28))
def rfX : Code → Code
 | .rangeFunc _ _ x _=>x
 | c=>c
def rfY : Code → Code
 | .rangeFunc _ _ _ y=>y
 | c=>c
def cIj : Code:=cf Tryz.f308
def dPw : Code:=cL (cR (cL (cR (cR cIj))))
section
variable (rec : FuncId → List DV → Hp → aH) (n : Nat)
def dHs : K:=lG CF rec 33 n itm (cR (cR (cR cIj))) (fun _=>bY) (bE CF Tryz.f308) (bE CF Tryz.f308)
def bVm (nx : Pos) (env : aZ) (kk : K) : K:=aW CF rec itm.nt n itm.test (fun j=>bif Nat.beq j itm.b0 then (fun _ h=>dHs rec n env h) else bY) bY
 (fY CF rec itm.nt itm.ops itm.front (fun e1 h1=>cnd (ylB (e1 itm.yt) nx) (aCr CF rec n itm 33 26 (rfX dPw) (rfY dPw) env (fun j=>bif Nat.beq j 0 then dHs rec n else bY) (bE CF Tryz.f308) kk e1 h1)))
def eCv : K:=lL CF rec n itm 33 (.tmp 25) 26 (rfX dPw) (rfY dPw) (fun j=>bif Nat.beq j 0 then dHs rec n else bY) (bE CF Tryz.f308) (dHs rec n)
theorem dFf (nx : Pos) (env : aZ) (f : DV → DV → DV → DV → Hp → aH) : bVm rec n nx env (fun e h=>f (e 0) (e 1) (e 2) (e 4) h) = fun e h=>eUp rec n nx (env 3) (env 5) (env 6) f (e 0) (e 1) (e 2) (e 4) h:=by kernel_rfl
theorem bLg (nx : Pos) (env : aZ) : ∀ m,aM (bVm rec n nx env) m = fun e h=>dQn rec n nx (env 3) (env 5) (env 6) m (e 0) (e 1) (e 2) (e 4) h
 | 0=>by kernel_rfl
 | m + 1=>by
  refine (by kernel_rfl : aM (bVm rec n nx env) (m + 1) = bVm rec n nx env (aM (bVm rec n nx env) m)).trans ?_
  rw [bLg nx env m]
  exact (dFf rec n nx env (dQn rec n nx (env 3) (env 5) (env 6) m)).trans (by kernel_rfl)
theorem dPt (nx : Pos) (x3 x5 x6 : DV) : aW CF rec itm.nt n itm.pre jZ bY (fun e h=>dQn rec n nx x3 x5 x6 n (e 0) (e 1) (e 2) (e 4) h) = fun e h=>dYn rec n nx x3 x5 x6 (e 0) (e 1) (e 2) h:=by kernel_rfl
theorem cZh : eCv rec n = fun env h=>aCl rec n (env 25) (env 3) (env 5) (env 6) h:=by
 funext env h
 have e : ∀ cap,aW CF rec itm.nt n itm.pre jZ bY (aM (bVm rec n h.next env) n) (aQ (.yl h.next :: cap)) (resv 2 h) = dYn rec n h.next (env 3) (env 5) (env 6) (.yl h.next) (cap.getD 0 aT) (cap.getD 1 aT) (resv 2 h):=fun cap=>by
  rw [bLg,dPt]
  exact (by kernel_rfl)
 unfold eCv lL aCl
 rw [show opr env (.tmp 25) = env 25 from rfl]
 generalize env 25 = g
 cases g with
 | f gf first cap=>cases first with
  | nil=>exact congrArg (cnd (Nat.beq gf 305)) (e cap)
  | cons _ _=>rfl
 | _=>rfl
def eQm (q : K) : K:=lG CF rec 33 n itm (cL cIj) (fun _=>bY) (bE CF Tryz.f308) (lG CF rec 33 n itm (cL (cR cIj)) (fun _=>bY) (bE CF Tryz.f308) (lG CF rec 33 n itm (cL (cL (cR (cR cIj)))) (fun _=>bY) (bE CF Tryz.f308) q))
theorem cXv : eQm rec n (fun env h=>aCl rec n (env 25) (env 3) (env 5) (env 6) h) = fun env h=>cHh rec n (env 0) (env 1) (env 2) h:=by kernel_rfl
theorem dCv (args : List DV) (h : Hp) : jM CF rec n itm 308 args h = cHh rec n (args.getD 0 aT) (args.getD 1 aT) (args.getD 2 aT) h:=by
 refine (by kernel_rfl : jM CF rec n itm 308 args h = eQm rec n (eCv rec n) (aQ args) h).trans ?_
 rw [cZh,cXv]
 exact (by kernel_rfl)
def rgS (f : FuncId) (args : List DV) (h : Hp) : aH:=bif Nat.beq f 308 then cHh rec n (args.getD 0 aT) (args.getD 1 aT) (args.getD 2 aT) h else jM CF rec n itm f args h
theorem dXu (f : FuncId) (args : List DV) (h : Hp) : rgS rec n f args h = jM CF rec n itm f args h:=by
 unfold rgS
 cases e : Nat.beq f 308 with
 | true=>cases Nat.eq_of_beq_eq_true e; exact (dCv rec n args h).symm
 | false=>rfl
end
end Go.Dd

end
