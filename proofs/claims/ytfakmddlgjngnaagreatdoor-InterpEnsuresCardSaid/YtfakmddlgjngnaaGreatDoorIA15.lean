/- A part of the proof: EM: each text has a comment of its own. -/
import Derived.Test.YtfakmddlgjngnaaGreatDoorIA9
set_option linter.unusedVariables false
set_option linter.unusedSimpArgs false
set_option linter.constructorNameAsVariable false
set_option maxRecDepth 100000
noncomputable section
namespace Go.Dd
open Go.Proofs
def dRt : List (Pos × Ob) :=
 (aL 1,.big 30000 (kM [] (mkW (gM wsF 4321 ++ [18,204,584,100,111,73,116,8,168,585,8642,8370,52,168,586,155,3,2286,7456,5,7,9,11,13,15,17,19,1,962,186,587,18,0,0,16,105,0,18,0,0,16,98,0,18,0,0,16,91,0,18,0,0,16,84,0,18,0,0,16,77,0,18,0,0,16,70,0,18,0,0,16,63,0,18,0,0,16,56,0,18,0,0,16,49,0,18,0,0,16,42,0,18,0,0,16,35,0,18,0,0,16,28,0,6,0,0,20,0,0,2,0,0,19,0,0,18,0,0,16,33,0,6,1,0,14,2,0,19,0,0,14,3,1,19,0,0,18,0,0,16,40,0,6,4,0,14,2,0,19,0,0,14,3,1,19,0,0,18,0,0,16,47,0,6,5,0,14,2,0,19,0,0,14,3,1,19,0,0,18,0,0,16,54,0,6,6,0,14,2,0,19,0,0,14,3,1,19,0,0,18,0,0,16,61,0,6,7,0,14,2,0,19,0,0,14,3,1,19,0,0,18,0,0,16,68,0,6,8,0,14,2,0,19,0,0,14,3,1,19,0,0,18,0,0,16,75,0,6,9,0,14,2,0,19,0,0,14,3,1,19,0,0,18,0,0,16,82,0,6,10,0,386,186,588,14,2,0,19,0,0,14,3,1,19,0,0,18,0,0,16,89,0,6,11,0,14,2,0,19,0,0,14,3,1,19,0,0,18,0,0,16,96,0,6,12,0,14,2,0,19,0,0,14,3,1,19,0,0,18,0,0,16,103,0,6,1,0,14,2,0,19,0,0,14,3,1,19,0,0,18,0,0,16,110,0,6,4,0,14,2,0,19,0,0,14,3,1,20,0,0,8,168,589,8698,9184,28,258,590,8642,1,1,1,8666,9382,42]) 0 .e))) ::
 (aL 2,.mi (mkP (gM plF 583 ++ [4321,4328,4333,4349,4592,4691,4696]) .e)) ::
 [(aL 0,.row .ex ([.i .i64 (.ofNat 0),.s [],.s [],.s [],.i .i64 (.ofNat 0)])),
 (aL 3,.row .ex ([.l (aL 1) 0 30000 30000,.i .i64 (.ofNat 4706),.i .i64 (.ofNat 590),.m (aL 2)])),
 (aL 4,.row .ex ([.i .i64 (.ofNat 8656),.i .i64 (.ofNat 1096),.i .i64 (.ofNat 6),.i .i64 (.ofNat 24),.i .i64 (.ofNat 42),.i .i64 (.ofNat 60),.i .i64 (.ofNat 78),.i .i64 (.ofNat 96),.i .i64 (.ofNat 114),.i .i64 (.ofNat 132),.i .i64 (.ofNat 150),.i .i64 (.ofNat 168),.i .i64 (.ofNat 186),.i .i64 (.ofNat 204),.i .i64 (.ofNat 222),.i .i64 (.ofNat 240),.i .i64 (.ofNat 258),.i .i64 (.ofNat 276)])),
 (aL 5,.mp (lB (oD syF 80 ++ [([100,111,73,116],8642)]))),
 (aL 6,.mp (lB clF)),
 (aL 7,.row .ex ([.p (aL 3) 0,.l (aL 4) 0 18 18,.m (aL 5),.m (aL 6)])),
 (aL 26855,.row .ex ([.p (aL 7) 0,.l (aL 34553) 0 1 1])),
 (aL 26856,.row .ex (aEy 16 [.b false,.i .i64 (.ofNat 0),.i .i64 (.ofNat 0),.i .i64 (.ofNat 0),.i .i64 (.ofNat 0)] ++ [.i .i64 (.ofNat 0),.i .i64 (.ofNat 0)])),
 (aL 26857,.mp []),
 (aL 26858,.row .ex ([.p (aL 7) 0,.p (aL 26855) 0,.p (aL 26856) 0,.m (aL 26857),.s [],.i .i64 (.ofNat 1000),.i .i64 (.ofNat 0),.i .i64 (.ofNat 0),.i .i64 (.ofNat 0),.i .i64 (.ofNat 0),.i .i64 (.ofNat 0),.s [],.b false])),
 (aL 34552,.row .ex ([])),
 (aL 34553,.row (.gr 10) ([.i .i64 (.ofNat 9392),.i .i64 (.ofNat 0),.i .i64 (.ofNat 0),.i .i64 (.ofNat 0),.i .i64 (.ofNat 0),.l (aL 34552) 0 0 0,.l0,.b false,.i .i64 (.ofNat 0),.i .i64 (.ofNat 0)]))]
theorem eSq : vM (.s (kT true 12)) (.i .i64 (.ofNat 1000)) [.p (aL 0) 0,.p (aL 7) 0,.p (aL 26858) 0] 34554 dRt = true:=by kernel_rfl
theorem eQf : vO (bC true 12).2 (.p (aL 0) 0) (.p (aL 7) 0) (.p (aL 26858) 0) 34554 dRt = true:=by kernel_rfl
theorem eGq : dQ 7 (bC true 12):=gR eSq eQf
end Go.Dd

end
