/- Dd, part V2 (printed by pd.py): closed runs of ParseDeep. -/
import Derived.Test.YtliejomdaookoaaDdxU
set_option maxRecDepth 100000
namespace Go.Dd
open Go.Proofs

theorem pd0x58 : val (s3a6 (shD 899) 899 (.i .i64 (Int.ofNat 58)) (.s [40]) (.s [41]) h00) = .b true := by kernel_rfl
theorem pd0x54 : val (s3a6 (shD 899) 899 (.i .i64 (Int.ofNat 54)) (.s [40]) (.s [41]) h00) = .b true := by kernel_rfl
theorem pd0x50 : val (s3a6 (shD 899) 899 (.i .i64 (Int.ofNat 50)) (.s [40]) (.s [41]) h00) = .b true := by kernel_rfl
theorem pd0x46 : val (s3a6 (shD 899) 899 (.i .i64 (Int.ofNat 46)) (.s [40]) (.s [41]) h00) = .b true := by kernel_rfl
theorem pd0x42 : val (s3a6 (shD 899) 899 (.i .i64 (Int.ofNat 42)) (.s [40]) (.s [41]) h00) = .b true := by kernel_rfl
theorem pd0x38 : val (s3a6 (shD 899) 899 (.i .i64 (Int.ofNat 38)) (.s [40]) (.s [41]) h00) = .b true := by kernel_rfl
theorem pd0x34 : val (s3a6 (shD 899) 899 (.i .i64 (Int.ofNat 34)) (.s [40]) (.s [41]) h00) = .b true := by kernel_rfl
theorem pd0x30 : val (s3a6 (shD 899) 899 (.i .i64 (Int.ofNat 30)) (.s [40]) (.s [41]) h00) = .b true := by kernel_rfl
theorem pd0x26 : val (s3a6 (shD 899) 899 (.i .i64 (Int.ofNat 26)) (.s [40]) (.s [41]) h00) = .b true := by kernel_rfl
theorem pd0x22 : val (s3a6 (shD 899) 899 (.i .i64 (Int.ofNat 22)) (.s [40]) (.s [41]) h00) = .b true := by kernel_rfl
theorem pd0x18 : val (s3a6 (shD 899) 899 (.i .i64 (Int.ofNat 18)) (.s [40]) (.s [41]) h00) = .b true := by kernel_rfl
theorem pd0x14 : val (s3a6 (shD 899) 899 (.i .i64 (Int.ofNat 14)) (.s [40]) (.s [41]) h00) = .b true := by kernel_rfl
theorem pd0x10 : val (s3a6 (shD 899) 899 (.i .i64 (Int.ofNat 10)) (.s [40]) (.s [41]) h00) = .b true := by kernel_rfl
theorem pd0x6 : val (s3a6 (shD 899) 899 (.i .i64 (Int.ofNat 6)) (.s [40]) (.s [41]) h00) = .b true := by kernel_rfl
theorem pd0x2 : val (s3a6 (shD 899) 899 (.i .i64 (Int.ofNat 2)) (.s [40]) (.s [41]) h00) = .b true := by kernel_rfl

end Go.Dd
