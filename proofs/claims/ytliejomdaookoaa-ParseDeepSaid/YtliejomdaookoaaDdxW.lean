/- Dd, part W (printed by pd.py): the closed runs of ParseDeep, all. -/
import Derived.Test.YtliejomdaookoaaDdxV0
import Derived.Test.YtliejomdaookoaaDdxV1
import Derived.Test.YtliejomdaookoaaDdxV2
import Derived.Test.YtliejomdaookoaaDdxV3
import Derived.Test.YtliejomdaookoaaDdxV4
import Derived.Test.YtliejomdaookoaaDdxV5
import Derived.Test.YtliejomdaookoaaDdxV6
import Derived.Test.YtliejomdaookoaaDdxV7
namespace Go.Dd

theorem pd0 : ∀ r : Nat, r < 60 → val (s3a6 (shD 899) 899 (.i .i64 (Int.ofNat r)) (.s [40]) (.s [41]) h00) = .b true
  | 0, _ => pd0x0
  | 1, _ => pd0x1
  | 2, _ => pd0x2
  | 3, _ => pd0x3
  | 4, _ => pd0x4
  | 5, _ => pd0x5
  | 6, _ => pd0x6
  | 7, _ => pd0x7
  | 8, _ => pd0x8
  | 9, _ => pd0x9
  | 10, _ => pd0x10
  | 11, _ => pd0x11
  | 12, _ => pd0x12
  | 13, _ => pd0x13
  | 14, _ => pd0x14
  | 15, _ => pd0x15
  | 16, _ => pd0x16
  | 17, _ => pd0x17
  | 18, _ => pd0x18
  | 19, _ => pd0x19
  | 20, _ => pd0x20
  | 21, _ => pd0x21
  | 22, _ => pd0x22
  | 23, _ => pd0x23
  | 24, _ => pd0x24
  | 25, _ => pd0x25
  | 26, _ => pd0x26
  | 27, _ => pd0x27
  | 28, _ => pd0x28
  | 29, _ => pd0x29
  | 30, _ => pd0x30
  | 31, _ => pd0x31
  | 32, _ => pd0x32
  | 33, _ => pd0x33
  | 34, _ => pd0x34
  | 35, _ => pd0x35
  | 36, _ => pd0x36
  | 37, _ => pd0x37
  | 38, _ => pd0x38
  | 39, _ => pd0x39
  | 40, _ => pd0x40
  | 41, _ => pd0x41
  | 42, _ => pd0x42
  | 43, _ => pd0x43
  | 44, _ => pd0x44
  | 45, _ => pd0x45
  | 46, _ => pd0x46
  | 47, _ => pd0x47
  | 48, _ => pd0x48
  | 49, _ => pd0x49
  | 50, _ => pd0x50
  | 51, _ => pd0x51
  | 52, _ => pd0x52
  | 53, _ => pd0x53
  | 54, _ => pd0x54
  | 55, _ => pd0x55
  | 56, _ => pd0x56
  | 57, _ => pd0x57
  | 58, _ => pd0x58
  | 59, _ => pd0x59
  | r + 60, h => absurd h (Nat.not_lt.2 (Nat.le_add_left 60 r))

theorem pd1 : ∀ r : Nat, r < 60 → val (s3a6 (shD 899) 899 (.i .i64 (Int.ofNat r)) (.s [91]) (.s [93]) h00) = .b true
  | 0, _ => pd1x0
  | 1, _ => pd1x1
  | 2, _ => pd1x2
  | 3, _ => pd1x3
  | 4, _ => pd1x4
  | 5, _ => pd1x5
  | 6, _ => pd1x6
  | 7, _ => pd1x7
  | 8, _ => pd1x8
  | 9, _ => pd1x9
  | 10, _ => pd1x10
  | 11, _ => pd1x11
  | 12, _ => pd1x12
  | 13, _ => pd1x13
  | 14, _ => pd1x14
  | 15, _ => pd1x15
  | 16, _ => pd1x16
  | 17, _ => pd1x17
  | 18, _ => pd1x18
  | 19, _ => pd1x19
  | 20, _ => pd1x20
  | 21, _ => pd1x21
  | 22, _ => pd1x22
  | 23, _ => pd1x23
  | 24, _ => pd1x24
  | 25, _ => pd1x25
  | 26, _ => pd1x26
  | 27, _ => pd1x27
  | 28, _ => pd1x28
  | 29, _ => pd1x29
  | 30, _ => pd1x30
  | 31, _ => pd1x31
  | 32, _ => pd1x32
  | 33, _ => pd1x33
  | 34, _ => pd1x34
  | 35, _ => pd1x35
  | 36, _ => pd1x36
  | 37, _ => pd1x37
  | 38, _ => pd1x38
  | 39, _ => pd1x39
  | 40, _ => pd1x40
  | 41, _ => pd1x41
  | 42, _ => pd1x42
  | 43, _ => pd1x43
  | 44, _ => pd1x44
  | 45, _ => pd1x45
  | 46, _ => pd1x46
  | 47, _ => pd1x47
  | 48, _ => pd1x48
  | 49, _ => pd1x49
  | 50, _ => pd1x50
  | 51, _ => pd1x51
  | 52, _ => pd1x52
  | 53, _ => pd1x53
  | 54, _ => pd1x54
  | 55, _ => pd1x55
  | 56, _ => pd1x56
  | 57, _ => pd1x57
  | 58, _ => pd1x58
  | 59, _ => pd1x59
  | r + 60, h => absurd h (Nat.not_lt.2 (Nat.le_add_left 60 r))

end Go.Dd
