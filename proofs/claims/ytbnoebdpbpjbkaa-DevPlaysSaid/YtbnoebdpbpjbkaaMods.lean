/-
  A number brought between 0 and a bound, as the statements do it.
-/
import Derived.Test.YtbnoebdpbpjbkaaBase
namespace Go.Lz
open Go.RowKit
theorem mod_in (n m : Int) (h0 : 0 < m) (h1 : m ≤ 1000000) : ∃ N : Nat, (wrap64 (n.tmod m + m)).tmod m = (N : Int) ∧ (N : Int) < m := by
  have a := Int.tmod_lt_of_pos n h0
  have b := Int.lt_tmod_of_pos n h0
  have hw : wrap64 (n.tmod m + m) = n.tmod m + m := by
    unfold wrap64
    omega
  rw [hw, Int.tmod_eq_emod_of_nonneg (by omega)]
  have c := Int.emod_nonneg (n.tmod m + m) (show m ≠ 0 by omega)
  have d := Int.emod_lt_of_pos (n.tmod m + m) h0
  exact ⟨((n.tmod m + m) % m).toNat, by omega, by omega⟩
end Go.Lz
