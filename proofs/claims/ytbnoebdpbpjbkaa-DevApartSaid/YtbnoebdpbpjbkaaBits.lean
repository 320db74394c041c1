/-
  A number and a mask.
-/
import Derived.Test.YtbnoebdpbpjbkaaBase
namespace Go.Lz
open Go.RowKit
theorem and_mask (x : Int) (j : Nat) (hj : j ≤ 31) : bits .and .i64 x ((2 ^ j - 1 : Nat) : Int) = x % ((2 ^ j : Nat) : Int) := by
  have hp : (2 : Nat) ^ j ≤ 2 ^ 31 := Nat.pow_le_pow_right (by omega) hj
  have hp0 : 0 < (2 : Nat) ^ j := Nat.pow_pos (by omega)
  have hdvd : ((2 ^ j : Nat) : Int) ∣ 18446744073709551616 := by
    have : (2 : Nat) ^ 64 = 2 ^ j * 2 ^ (64 - j) := by rw [← Nat.pow_add]; congr 1; omega
    exact ⟨((2 ^ (64 - j) : Nat) : Int), by rw [← Int.natCast_mul, ← this]; rfl⟩
  show IntKind.i64.wrap ((BitVec.ofInt 64 x &&& BitVec.ofInt 64 ((2 ^ j - 1 : Nat) : Int)).toNat : Int) = _
  rw [BitVec.toNat_and, BitVec.ofInt_natCast, BitVec.toNat_ofNat, Nat.mod_eq_of_lt (by omega : 2 ^ j - 1 < 2 ^ 64), Nat.and_two_pow_sub_one_eq_mod, BitVec.toNat_ofInt]
  have h1 : ((x % (2 ^ 64 : Nat)).toNat % 2 ^ j : Nat) < 2 ^ j := Nat.mod_lt _ hp0
  have h2 : (((x % (2 ^ 64 : Nat)).toNat % 2 ^ j : Nat) : Int) = x % ((2 ^ j : Nat) : Int) := by
    rw [Int.natCast_emod, Int.toNat_of_nonneg (Int.emod_nonneg _ (by omega))]
    exact Int.emod_emod_of_dvd _ hdvd
  rw [h2, IntKind.wrap_i64]
  have h3 : 0 ≤ x % ((2 ^ j : Nat) : Int) := Int.emod_nonneg _ (by omega)
  have h4 : x % ((2 ^ j : Nat) : Int) < ((2 ^ j : Nat) : Int) := Int.emod_lt_of_pos _ (by omega)
  omega
theorem and3 (x : Int) : bits .and .i64 x 3 = x % 4 := and_mask x 2 (by omega)
theorem and7 (x : Int) : bits .and .i64 x 7 = x % 8 := and_mask x 3 (by omega)
theorem and15 (x : Int) : bits .and .i64 x 15 = x % 16 := and_mask x 4 (by omega)
theorem and31 (x : Int) : bits .and .i64 x 31 = x % 32 := and_mask x 5 (by omega)
theorem and63 (x : Int) : bits .and .i64 x 63 = x % 64 := and_mask x 6 (by omega)
theorem and127 (x : Int) : bits .and .i64 x 127 = x % 128 := and_mask x 7 (by omega)
theorem and255 (x : Int) : bits .and .i64 x 255 = x % 256 := and_mask x 8 (by omega)
theorem and1023 (x : Int) : bits .and .i64 x 1023 = x % 1024 := and_mask x 10 (by omega)
theorem and65535 (x : Int) : bits .and .i64 x 65535 = x % 65536 := and_mask x 16 (by omega)
end Go.Lz
