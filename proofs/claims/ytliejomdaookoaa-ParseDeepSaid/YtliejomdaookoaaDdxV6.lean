/- Dd, part V6 (printed by pd.py): closed runs of ParseDeep. -/
import Derived.Test.YtliejomdaookoaaDdxU
set_option maxRecDepth 100000
namespace Go.Dd
open Go.Proofs

theorem pd0x56 : val (s3a6 (shD 899) 899 (.i .i64 (Int.ofNat 56)) (.s [40]) (.s [41]) h00) = .b true := by kernel_rfl
theorem pd0x52 : val (s3a6 (shD 899) 899 (.i .i64 (Int.ofNat 52)) (.s [40]) (.s [41]) h00) = .b true := by kernel_rfl
theorem pd0x48 : val (s3a6 (shD 899) 899 (.i .i64 (Int.ofNat 48)) (.s [40]) (.s [41]) h00) = .b true := by kernel_rfl
theorem pd0x44 : val (s3a6 (shD 899) 899 (.i .i64 (Int.ofNat 44)) (.s [40]) (.s [41]) h00) = .b true := by kernel_rfl
theorem pd0x40 : val (s3a6 (shD 899) 899 (.i .i64 (Int.ofNat 40)) (.s [40]) (.s [41]) h00) = .b true := by kernel_rfl
theorem pd0x36 : val (s3a6 (shD 899) 899 (.i .i64 (Int.ofNat 36)) (.s [40]) (.s [41]) h00) = .b true := by kernel_rfl
theorem pd0x32 : val (s3a6 (shD 899) 899 (.i .i64 (Int.ofNat 32)) (.s [40]) (.s [41]) h00) = .b true := by kernel_rfl
theorem pd0x28 : val (s3a6 (shD 899) 899 (.i .i64 (Int.ofNat 28)) (.s [40]) (.s [41]) h00) = .b true := by kernel_rfl
theorem pd0x24 : val (s3a6 (shD 899) 899 (.i .i64 (Int.ofNat 24)) (.s [40]) (.s [41]) h00) = .b true := by kernel_rfl
theorem pd0x20 : val (s3a6 (shD 899) 899 (.i .i64 (Int.ofNat 20)) (.s [40]) (.s [41]) h00) = .b true := by kernel_rfl
theorem pd0x16 : val (s3a6 (shD 899) 899 (.i .i64 (Int.ofNat 16)) (.s [40]) (.s [41]) h00) = .b true := by kernel_rfl
theorem pd0x12 : val (s3a6 (shD 899) 899 (.i .i64 (Int.ofNat 12)) (.s [40]) (.s [41]) h00) = .b true := by kernel_rfl
theorem pd0x8 : val (s3a6 (shD 899) 899 (.i .i64 (Int.ofNat 8)) (.s [40]) (.s [41]) h00) = .b true := by kernel_rfl
theorem pd0x4 : val (s3a6 (shD 899) 899 (.i .i64 (Int.ofNat 4)) (.s [40]) (.s [41]) h00) = .b true := by kernel_rfl
theorem pd0x0 : val (s3a6 (shD 899) 899 (.i .i64 (Int.ofNat 0)) (.s [40]) (.s [41]) h00) = .b true := by kernel_rfl

end Go.Dd
