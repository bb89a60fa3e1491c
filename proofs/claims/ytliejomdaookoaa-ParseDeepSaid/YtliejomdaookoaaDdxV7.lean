/- Dd, part V7 (printed by pd.py): closed runs of ParseDeep. -/
import Derived.Test.YtliejomdaookoaaDdxU
set_option maxRecDepth 100000
namespace Go.Dd
open Go.Proofs

theorem pd1x56 : val (s3a6 (shD 899) 899 (.i .i64 (Int.ofNat 56)) (.s [91]) (.s [93]) h00) = .b true := by kernel_rfl
theorem pd1x52 : val (s3a6 (shD 899) 899 (.i .i64 (Int.ofNat 52)) (.s [91]) (.s [93]) h00) = .b true := by kernel_rfl
theorem pd1x48 : val (s3a6 (shD 899) 899 (.i .i64 (Int.ofNat 48)) (.s [91]) (.s [93]) h00) = .b true := by kernel_rfl
theorem pd1x44 : val (s3a6 (shD 899) 899 (.i .i64 (Int.ofNat 44)) (.s [91]) (.s [93]) h00) = .b true := by kernel_rfl
theorem pd1x40 : val (s3a6 (shD 899) 899 (.i .i64 (Int.ofNat 40)) (.s [91]) (.s [93]) h00) = .b true := by kernel_rfl
theorem pd1x36 : val (s3a6 (shD 899) 899 (.i .i64 (Int.ofNat 36)) (.s [91]) (.s [93]) h00) = .b true := by kernel_rfl
theorem pd1x32 : val (s3a6 (shD 899) 899 (.i .i64 (Int.ofNat 32)) (.s [91]) (.s [93]) h00) = .b true := by kernel_rfl
theorem pd1x28 : val (s3a6 (shD 899) 899 (.i .i64 (Int.ofNat 28)) (.s [91]) (.s [93]) h00) = .b true := by kernel_rfl
theorem pd1x24 : val (s3a6 (shD 899) 899 (.i .i64 (Int.ofNat 24)) (.s [91]) (.s [93]) h00) = .b true := by kernel_rfl
theorem pd1x20 : val (s3a6 (shD 899) 899 (.i .i64 (Int.ofNat 20)) (.s [91]) (.s [93]) h00) = .b true := by kernel_rfl
theorem pd1x16 : val (s3a6 (shD 899) 899 (.i .i64 (Int.ofNat 16)) (.s [91]) (.s [93]) h00) = .b true := by kernel_rfl
theorem pd1x12 : val (s3a6 (shD 899) 899 (.i .i64 (Int.ofNat 12)) (.s [91]) (.s [93]) h00) = .b true := by kernel_rfl
theorem pd1x8 : val (s3a6 (shD 899) 899 (.i .i64 (Int.ofNat 8)) (.s [91]) (.s [93]) h00) = .b true := by kernel_rfl
theorem pd1x4 : val (s3a6 (shD 899) 899 (.i .i64 (Int.ofNat 4)) (.s [91]) (.s [93]) h00) = .b true := by kernel_rfl
theorem pd1x0 : val (s3a6 (shD 899) 899 (.i .i64 (Int.ofNat 0)) (.s [91]) (.s [93]) h00) = .b true := by kernel_rfl

end Go.Dd
