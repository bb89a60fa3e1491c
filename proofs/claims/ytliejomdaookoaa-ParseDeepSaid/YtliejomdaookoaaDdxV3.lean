/- Dd, part V3 (printed by pd.py): closed runs of ParseDeep. -/
import Derived.Test.YtliejomdaookoaaDdxU
set_option maxRecDepth 100000
namespace Go.Dd
open Go.Proofs

theorem pd1x58 : val (s3a6 (shD 899) 899 (.i .i64 (Int.ofNat 58)) (.s [91]) (.s [93]) h00) = .b true := by kernel_rfl
theorem pd1x54 : val (s3a6 (shD 899) 899 (.i .i64 (Int.ofNat 54)) (.s [91]) (.s [93]) h00) = .b true := by kernel_rfl
theorem pd1x50 : val (s3a6 (shD 899) 899 (.i .i64 (Int.ofNat 50)) (.s [91]) (.s [93]) h00) = .b true := by kernel_rfl
theorem pd1x46 : val (s3a6 (shD 899) 899 (.i .i64 (Int.ofNat 46)) (.s [91]) (.s [93]) h00) = .b true := by kernel_rfl
theorem pd1x42 : val (s3a6 (shD 899) 899 (.i .i64 (Int.ofNat 42)) (.s [91]) (.s [93]) h00) = .b true := by kernel_rfl
theorem pd1x38 : val (s3a6 (shD 899) 899 (.i .i64 (Int.ofNat 38)) (.s [91]) (.s [93]) h00) = .b true := by kernel_rfl
theorem pd1x34 : val (s3a6 (shD 899) 899 (.i .i64 (Int.ofNat 34)) (.s [91]) (.s [93]) h00) = .b true := by kernel_rfl
theorem pd1x30 : val (s3a6 (shD 899) 899 (.i .i64 (Int.ofNat 30)) (.s [91]) (.s [93]) h00) = .b true := by kernel_rfl
theorem pd1x26 : val (s3a6 (shD 899) 899 (.i .i64 (Int.ofNat 26)) (.s [91]) (.s [93]) h00) = .b true := by kernel_rfl
theorem pd1x22 : val (s3a6 (shD 899) 899 (.i .i64 (Int.ofNat 22)) (.s [91]) (.s [93]) h00) = .b true := by kernel_rfl
theorem pd1x18 : val (s3a6 (shD 899) 899 (.i .i64 (Int.ofNat 18)) (.s [91]) (.s [93]) h00) = .b true := by kernel_rfl
theorem pd1x14 : val (s3a6 (shD 899) 899 (.i .i64 (Int.ofNat 14)) (.s [91]) (.s [93]) h00) = .b true := by kernel_rfl
theorem pd1x10 : val (s3a6 (shD 899) 899 (.i .i64 (Int.ofNat 10)) (.s [91]) (.s [93]) h00) = .b true := by kernel_rfl
theorem pd1x6 : val (s3a6 (shD 899) 899 (.i .i64 (Int.ofNat 6)) (.s [91]) (.s [93]) h00) = .b true := by kernel_rfl
theorem pd1x2 : val (s3a6 (shD 899) 899 (.i .i64 (Int.ofNat 2)) (.s [91]) (.s [93]) h00) = .b true := by kernel_rfl

end Go.Dd
