/- Dd, part V0 (printed by pd.py): closed runs of ParseDeep. -/
import Derived.Test.YtliejomdaookoaaDdxU
set_option maxRecDepth 100000
namespace Go.Dd
open Go.Proofs

theorem pd0x59 : val (s3a6 (shD 899) 899 (.i .i64 (Int.ofNat 59)) (.s [40]) (.s [41]) h00) = .b true := by kernel_rfl
theorem pd0x55 : val (s3a6 (shD 899) 899 (.i .i64 (Int.ofNat 55)) (.s [40]) (.s [41]) h00) = .b true := by kernel_rfl
theorem pd0x51 : val (s3a6 (shD 899) 899 (.i .i64 (Int.ofNat 51)) (.s [40]) (.s [41]) h00) = .b true := by kernel_rfl
theorem pd0x47 : val (s3a6 (shD 899) 899 (.i .i64 (Int.ofNat 47)) (.s [40]) (.s [41]) h00) = .b true := by kernel_rfl
theorem pd0x43 : val (s3a6 (shD 899) 899 (.i .i64 (Int.ofNat 43)) (.s [40]) (.s [41]) h00) = .b true := by kernel_rfl
theorem pd0x39 : val (s3a6 (shD 899) 899 (.i .i64 (Int.ofNat 39)) (.s [40]) (.s [41]) h00) = .b true := by kernel_rfl
theorem pd0x35 : val (s3a6 (shD 899) 899 (.i .i64 (Int.ofNat 35)) (.s [40]) (.s [41]) h00) = .b true := by kernel_rfl
theorem pd0x31 : val (s3a6 (shD 899) 899 (.i .i64 (Int.ofNat 31)) (.s [40]) (.s [41]) h00) = .b true := by kernel_rfl
theorem pd0x27 : val (s3a6 (shD 899) 899 (.i .i64 (Int.ofNat 27)) (.s [40]) (.s [41]) h00) = .b true := by kernel_rfl
theorem pd0x23 : val (s3a6 (shD 899) 899 (.i .i64 (Int.ofNat 23)) (.s [40]) (.s [41]) h00) = .b true := by kernel_rfl
theorem pd0x19 : val (s3a6 (shD 899) 899 (.i .i64 (Int.ofNat 19)) (.s [40]) (.s [41]) h00) = .b true := by kernel_rfl
theorem pd0x15 : val (s3a6 (shD 899) 899 (.i .i64 (Int.ofNat 15)) (.s [40]) (.s [41]) h00) = .b true := by kernel_rfl
theorem pd0x11 : val (s3a6 (shD 899) 899 (.i .i64 (Int.ofNat 11)) (.s [40]) (.s [41]) h00) = .b true := by kernel_rfl
theorem pd0x7 : val (s3a6 (shD 899) 899 (.i .i64 (Int.ofNat 7)) (.s [40]) (.s [41]) h00) = .b true := by kernel_rfl
theorem pd0x3 : val (s3a6 (shD 899) 899 (.i .i64 (Int.ofNat 3)) (.s [40]) (.s [41]) h00) = .b true := by kernel_rfl

end Go.Dd
