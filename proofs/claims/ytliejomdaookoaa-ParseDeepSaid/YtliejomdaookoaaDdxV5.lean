/- Dd, part V5 (printed by pd.py): closed runs of ParseDeep. -/
import Derived.Test.YtliejomdaookoaaDdxU
set_option maxRecDepth 100000
namespace Go.Dd
open Go.Proofs

theorem pd1x57 : val (s3a6 (shD 899) 899 (.i .i64 (Int.ofNat 57)) (.s [91]) (.s [93]) h00) = .b true := by kernel_rfl
theorem pd1x53 : val (s3a6 (shD 899) 899 (.i .i64 (Int.ofNat 53)) (.s [91]) (.s [93]) h00) = .b true := by kernel_rfl
theorem pd1x49 : val (s3a6 (shD 899) 899 (.i .i64 (Int.ofNat 49)) (.s [91]) (.s [93]) h00) = .b true := by kernel_rfl
theorem pd1x45 : val (s3a6 (shD 899) 899 (.i .i64 (Int.ofNat 45)) (.s [91]) (.s [93]) h00) = .b true := by kernel_rfl
theorem pd1x41 : val (s3a6 (shD 899) 899 (.i .i64 (Int.ofNat 41)) (.s [91]) (.s [93]) h00) = .b true := by kernel_rfl
theorem pd1x37 : val (s3a6 (shD 899) 899 (.i .i64 (Int.ofNat 37)) (.s [91]) (.s [93]) h00) = .b true := by kernel_rfl
theorem pd1x33 : val (s3a6 (shD 899) 899 (.i .i64 (Int.ofNat 33)) (.s [91]) (.s [93]) h00) = .b true := by kernel_rfl
theorem pd1x29 : val (s3a6 (shD 899) 899 (.i .i64 (Int.ofNat 29)) (.s [91]) (.s [93]) h00) = .b true := by kernel_rfl
theorem pd1x25 : val (s3a6 (shD 899) 899 (.i .i64 (Int.ofNat 25)) (.s [91]) (.s [93]) h00) = .b true := by kernel_rfl
theorem pd1x21 : val (s3a6 (shD 899) 899 (.i .i64 (Int.ofNat 21)) (.s [91]) (.s [93]) h00) = .b true := by kernel_rfl
theorem pd1x17 : val (s3a6 (shD 899) 899 (.i .i64 (Int.ofNat 17)) (.s [91]) (.s [93]) h00) = .b true := by kernel_rfl
theorem pd1x13 : val (s3a6 (shD 899) 899 (.i .i64 (Int.ofNat 13)) (.s [91]) (.s [93]) h00) = .b true := by kernel_rfl
theorem pd1x9 : val (s3a6 (shD 899) 899 (.i .i64 (Int.ofNat 9)) (.s [91]) (.s [93]) h00) = .b true := by kernel_rfl
theorem pd1x5 : val (s3a6 (shD 899) 899 (.i .i64 (Int.ofNat 5)) (.s [91]) (.s [93]) h00) = .b true := by kernel_rfl
theorem pd1x1 : val (s3a6 (shD 899) 899 (.i .i64 (Int.ofNat 1)) (.s [91]) (.s [93]) h00) = .b true := by kernel_rfl

end Go.Dd
