/- Dd, part V4 (printed by pd.py): closed runs of ParseDeep. -/
import Derived.Test.YtliejomdaookoaaDdxU
set_option maxRecDepth 100000
namespace Go.Dd
open Go.Proofs

theorem pd0x57 : val (s3a6 (shD 899) 899 (.i .i64 (Int.ofNat 57)) (.s [40]) (.s [41]) h00) = .b true := by kernel_rfl
theorem pd0x53 : val (s3a6 (shD 899) 899 (.i .i64 (Int.ofNat 53)) (.s [40]) (.s [41]) h00) = .b true := by kernel_rfl
theorem pd0x49 : val (s3a6 (shD 899) 899 (.i .i64 (Int.ofNat 49)) (.s [40]) (.s [41]) h00) = .b true := by kernel_rfl
theorem pd0x45 : val (s3a6 (shD 899) 899 (.i .i64 (Int.ofNat 45)) (.s [40]) (.s [41]) h00) = .b true := by kernel_rfl
theorem pd0x41 : val (s3a6 (shD 899) 899 (.i .i64 (Int.ofNat 41)) (.s [40]) (.s [41]) h00) = .b true := by kernel_rfl
theorem pd0x37 : val (s3a6 (shD 899) 899 (.i .i64 (Int.ofNat 37)) (.s [40]) (.s [41]) h00) = .b true := by kernel_rfl
theorem pd0x33 : val (s3a6 (shD 899) 899 (.i .i64 (Int.ofNat 33)) (.s [40]) (.s [41]) h00) = .b true := by kernel_rfl
theorem pd0x29 : val (s3a6 (shD 899) 899 (.i .i64 (Int.ofNat 29)) (.s [40]) (.s [41]) h00) = .b true := by kernel_rfl
theorem pd0x25 : val (s3a6 (shD 899) 899 (.i .i64 (Int.ofNat 25)) (.s [40]) (.s [41]) h00) = .b true := by kernel_rfl
theorem pd0x21 : val (s3a6 (shD 899) 899 (.i .i64 (Int.ofNat 21)) (.s [40]) (.s [41]) h00) = .b true := by kernel_rfl
theorem pd0x17 : val (s3a6 (shD 899) 899 (.i .i64 (Int.ofNat 17)) (.s [40]) (.s [41]) h00) = .b true := by kernel_rfl
theorem pd0x13 : val (s3a6 (shD 899) 899 (.i .i64 (Int.ofNat 13)) (.s [40]) (.s [41]) h00) = .b true := by kernel_rfl
theorem pd0x9 : val (s3a6 (shD 899) 899 (.i .i64 (Int.ofNat 9)) (.s [40]) (.s [41]) h00) = .b true := by kernel_rfl
theorem pd0x5 : val (s3a6 (shD 899) 899 (.i .i64 (Int.ofNat 5)) (.s [40]) (.s [41]) h00) = .b true := by kernel_rfl
theorem pd0x1 : val (s3a6 (shD 899) 899 (.i .i64 (Int.ofNat 1)) (.s [40]) (.s [41]) h00) = .b true := by kernel_rfl

end Go.Dd
