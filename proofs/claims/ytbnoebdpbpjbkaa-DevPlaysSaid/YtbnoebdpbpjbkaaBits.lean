/-
  A number and a mask.
-/
import Derived.Test.YtbnoebdpbpjbkaaBase
namespace Go.Lz
open Go.RowKit
theorem and_mask (x : Int) (j : Nat) (hj : j ≤ 31) : bits .and .i64 x ((2 ^ j - 1 : Nat) : Int) = x % ((2 ^ j : Nat) : Int) := by
  have hp : (2 : Nat) ^ j ≤ 2 ^ 31 := Nat.pow_le_pow_right (by omega) hj
  have hp0 : 0 < (2 : Nat) ^ j := Nat.pow_pos (by omega)
  have hdvd : ((2 ^ j : Nat) : Int) ∣ 18446744073709551616 := by
    have : (2 : Nat) ^ 64 = 2 ^ j * 2 ^ (64 - j) := by rw [← Nat.pow_add]; congr 1; omega
    exact ⟨((2 ^ (64 - j) : Nat) : Int), by rw [← Int.natCast_mul, ← this]; rfl⟩
  show IntKind.i64.wrap ((BitVec.ofInt 64 x &&& BitVec.ofInt 64 ((2 ^ j - 1 : Nat) : Int)).toNat : Int) = _
  rw [BitVec.toNat_and, BitVec.ofInt_natCast, BitVec.toNat_ofNat, Nat.mod_eq_of_lt (by omega : 2 ^ j - 1 < 2 ^ 64), Nat.and_two_pow_sub_one_eq_mod, BitVec.toNat_ofInt]
  have h1 : ((x % (2 ^ 64 : Nat)).toNat % 2 ^ j : Nat) < 2 ^ j := Nat.mod_lt _ hp0
  have h2 : (((x % (2 ^ 64 : Nat)).toNat % 2 ^ j : Nat) : Int) = x % ((2 ^ j : Nat) : Int) := by
    rw [Int.natCast_emod, Int.toNat_of_nonneg (Int.emod_nonneg _ (by omega))]
    exact Int.emod_emod_of_dvd _ hdvd
  rw [h2, IntKind.wrap_i64]
  have h3 : 0 ≤ x % ((2 ^ j : Nat) : Int) := Int.emod_nonneg _ (by omega)
  have h4 : x % ((2 ^ j : Nat) : Int) < ((2 ^ j : Nat) : Int) := Int.emod_lt_of_pos _ (by omega)
  omega
/-- Two numbers whose bits lie apart. -/
theorem or_low (a b k : Nat) (hb : b < 2 ^ k) (hs : 2 ^ k * a + b < 9223372036854775808) : bits .or .i64 ((2 ^ k * a : Nat) : Int) (b : Int) = ((2 ^ k * a + b : Nat) : Int) := by
  show IntKind.i64.wrap ((BitVec.ofInt 64 ((2 ^ k * a : Nat) : Int) ||| BitVec.ofInt 64 (b : Int)).toNat : Int) = _
  rw [BitVec.toNat_or, BitVec.ofInt_natCast, BitVec.ofInt_natCast, BitVec.toNat_ofNat, BitVec.toNat_ofNat, Nat.mod_eq_of_lt (by omega : 2 ^ k * a < 2 ^ 64), Nat.mod_eq_of_lt (by omega : b < 2 ^ 64), ← Nat.two_pow_add_eq_or_of_lt hb, IntKind.wrap_i64]
  omega
theorem or4 {a b c d : Nat} (ha : a < 256) (hb : b < 256) (hc : c < 256) (hd : d < 256) :
    bits BinOp.or IntKind.i64 (bits BinOp.or IntKind.i64 (bits BinOp.or IntKind.i64 (IntKind.i64.wrap (IntKind.i64.wrap (a : Int) * 16777216)) (IntKind.i64.wrap (IntKind.i64.wrap (b : Int) * 65536))) (IntKind.i64.wrap (IntKind.i64.wrap (c : Int) * 256))) (IntKind.i64.wrap (d : Int)) = (a : Int) * 16777216 + (b : Int) * 65536 + (c : Int) * 256 + (d : Int) := by
  simp only [IntKind.wrap_i64]
  have e1 := or_low a (b * 65536) 24 (by omega) (by omega)
  have e2 := or_low (a * 256 + b) (c * 256) 16 (by omega) (by omega)
  have e3 := or_low (a * 65536 + b * 256 + c) d 8 (by omega) (by omega)
  rw [show ((a : Int) + 9223372036854775808) % 18446744073709551616 - 9223372036854775808 = (a : Int) from by omega, show ((b : Int) + 9223372036854775808) % 18446744073709551616 - 9223372036854775808 = (b : Int) from by omega, show ((c : Int) + 9223372036854775808) % 18446744073709551616 - 9223372036854775808 = (c : Int) from by omega, show ((d : Int) + 9223372036854775808) % 18446744073709551616 - 9223372036854775808 = (d : Int) from by omega]
  rw [show ((a : Int) * 16777216 + 9223372036854775808) % 18446744073709551616 - 9223372036854775808 = ((2 ^ 24 * a : Nat) : Int) from by omega, show ((b : Int) * 65536 + 9223372036854775808) % 18446744073709551616 - 9223372036854775808 = ((b * 65536 : Nat) : Int) from by omega, show ((c : Int) * 256 + 9223372036854775808) % 18446744073709551616 - 9223372036854775808 = ((c * 256 : Nat) : Int) from by omega]
  rw [e1, show ((2 ^ 24 * a + b * 65536 : Nat) : Int) = ((2 ^ 16 * (a * 256 + b) : Nat) : Int) from by omega, e2, show ((2 ^ 16 * (a * 256 + b) + c * 256 : Nat) : Int) = ((2 ^ 8 * (a * 65536 + b * 256 + c) : Nat) : Int) from by omega, e3]
  omega
theorem and3 (x : Int) : bits .and .i64 x 3 = x % 4 := and_mask x 2 (by omega)
theorem and7 (x : Int) : bits .and .i64 x 7 = x % 8 := and_mask x 3 (by omega)
theorem and15 (x : Int) : bits .and .i64 x 15 = x % 16 := and_mask x 4 (by omega)
theorem and31 (x : Int) : bits .and .i64 x 31 = x % 32 := and_mask x 5 (by omega)
theorem and63 (x : Int) : bits .and .i64 x 63 = x % 64 := and_mask x 6 (by omega)
theorem and127 (x : Int) : bits .and .i64 x 127 = x % 128 := and_mask x 7 (by omega)
theorem and255 (x : Int) : bits .and .i64 x 255 = x % 256 := and_mask x 8 (by omega)
theorem and1023 (x : Int) : bits .and .i64 x 1023 = x % 1024 := and_mask x 10 (by omega)
theorem and65535 (x : Int) : bits .and .i64 x 65535 = x % 65536 := and_mask x 16 (by omega)
end Go.Lz
