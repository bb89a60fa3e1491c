/- A part of the proof: EE WE: each text has a comment of its own. -/
import Derived.Test.YtfakmddlgjngnaaGreatDoorIA9
import Derived.Test.YtfakmddlgjngnaaGreatDoorIA10
import Derived.Test.YtfakmddlgjngnaaGreatDoorIA11
import Derived.Test.YtfakmddlgjngnaaGreatDoorIA12
import Derived.Test.YtfakmddlgjngnaaGreatDoorIA13
import Derived.Test.YtfakmddlgjngnaaGreatDoorIA14
import Derived.Test.YtfakmddlgjngnaaGreatDoorIA15
set_option maxRecDepth 100000
noncomputable section
namespace Go.Dd
open Go.Proofs
theorem dHg : ∀ e ∈ aAo,dQ 7 e:=by
 intro e he
 simp only [aAo,List.mem_cons,List.not_mem_nil,or_false] at he
 rcases he with rfl|rfl|rfl|rfl|rfl|rfl|rfl|rfl|rfl|rfl|rfl|rfl|rfl|rfl|rfl|rfl|rfl|rfl|rfl|rfl|rfl|rfl|rfl|rfl|rfl|rfl
 exact eSi
 exact eLq
 exact eOu
 exact eNd
 exact eOn
 exact eLo
 exact eVa
 exact eLu
 exact eIb
 exact eLf
 exact eEy
 exact eDz
 exact eBd
 exact eUf
 exact eLk
 exact eIi
 exact eTf
 exact eMq
 exact eSy
 exact eKw
 exact eNe
 exact eKt
 exact eMa
 exact eCg
 exact dWw
 exact eGq
def nP : RT:=bVz 7 aAo dRo
theorem dYk : Two 4000 nP (aSr 7 aAo cKh) :=
 fCe (eQl 4000) eSx 4000 7 aAo rfl Tryz.f7 Tryz.func7 (by kernel_rfl) dHg
def dQq (k : Nat) : Bool:=isV (.b true) (bXt nP 4000 (.i .i64 (Int.ofNat k)) (.b false) hS) && isV (.b true) (bXt nP 4000 (.i .i64 (Int.ofNat k)) (.b true) hS)
theorem dMd : aCb 13 dQq = true:=by kernel_rfl
theorem eDl {n : Int} (hn : -9223372036854775808 ≤ n ∧ n ≤ 9223372036854775807) (left : Bool) : ∃ k,aI CF nP 4000 4 [.i .i64 n,.b left] hS = some (.b true,k):=by
 rw [eTl]
 show ∃ k,cBx nP 4000 (.i .i64 n) (.b left) hS = some (.b true,k)
 obtain ⟨m,e⟩:=dVf hn (fun v h=>aWu nP 4000 v (.b left) h) hS
 have e' : cBx nP 4000 (.i .i64 n) (.b left) hS = aWu nP 4000 (.i .i64 (Int.ofNat m)) (.b left) hS:=e
 rw [e']
 unfold aWu
 rw [dMv m 13 hS (by decide),bP]
 have hall:=uS dMd (m % 13) (Nat.mod_lt _ (by decide))
 unfold dQq at hall
 rw [Bool.and_eq_true] at hall
 cases left with
 | false=>exact bEe hall.1
 | true=>exact bEe hall.2
end Go.Dd

end
