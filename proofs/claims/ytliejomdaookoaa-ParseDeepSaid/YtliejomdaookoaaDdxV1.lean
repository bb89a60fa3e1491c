/- Dd, part V1 (printed by pd.py): closed runs of ParseDeep. -/
import Derived.Test.YtliejomdaookoaaDdxU
set_option maxRecDepth 100000
namespace Go.Dd
open Go.Proofs

theorem pd1x59 : val (s3a6 (shD 899) 899 (.i .i64 (Int.ofNat 59)) (.s [91]) (.s [93]) h00) = .b true := by kernel_rfl
theorem pd1x55 : val (s3a6 (shD 899) 899 (.i .i64 (Int.ofNat 55)) (.s [91]) (.s [93]) h00) = .b true := by kernel_rfl
theorem pd1x51 : val (s3a6 (shD 899) 899 (.i .i64 (Int.ofNat 51)) (.s [91]) (.s [93]) h00) = .b true := by kernel_rfl
theorem pd1x47 : val (s3a6 (shD 899) 899 (.i .i64 (Int.ofNat 47)) (.s [91]) (.s [93]) h00) = .b true := by kernel_rfl
theorem pd1x43 : val (s3a6 (shD 899) 899 (.i .i64 (Int.ofNat 43)) (.s [91]) (.s [93]) h00) = .b true := by kernel_rfl
theorem pd1x39 : val (s3a6 (shD 899) 899 (.i .i64 (Int.ofNat 39)) (.s [91]) (.s [93]) h00) = .b true := by kernel_rfl
theorem pd1x35 : val (s3a6 (shD 899) 899 (.i .i64 (Int.ofNat 35)) (.s [91]) (.s [93]) h00) = .b true := by kernel_rfl
theorem pd1x31 : val (s3a6 (shD 899) 899 (.i .i64 (Int.ofNat 31)) (.s [91]) (.s [93]) h00) = .b true := by kernel_rfl
theorem pd1x27 : val (s3a6 (shD 899) 899 (.i .i64 (Int.ofNat 27)) (.s [91]) (.s [93]) h00) = .b true := by kernel_rfl
theorem pd1x23 : val (s3a6 (shD 899) 899 (.i .i64 (Int.ofNat 23)) (.s [91]) (.s [93]) h00) = .b true := by kernel_rfl
theorem pd1x19 : val (s3a6 (shD 899) 899 (.i .i64 (Int.ofNat 19)) (.s [91]) (.s [93]) h00) = .b true := by kernel_rfl
theorem pd1x15 : val (s3a6 (shD 899) 899 (.i .i64 (Int.ofNat 15)) (.s [91]) (.s [93]) h00) = .b true := by kernel_rfl
theorem pd1x11 : val (s3a6 (shD 899) 899 (.i .i64 (Int.ofNat 11)) (.s [91]) (.s [93]) h00) = .b true := by kernel_rfl
theorem pd1x7 : val (s3a6 (shD 899) 899 (.i .i64 (Int.ofNat 7)) (.s [91]) (.s [93]) h00) = .b true := by kernel_rfl
theorem pd1x3 : val (s3a6 (shD 899) 899 (.i .i64 (Int.ofNat 3)) (.s [91]) (.s [93]) h00) = .b true := by kernel_rfl

end Go.Dd
