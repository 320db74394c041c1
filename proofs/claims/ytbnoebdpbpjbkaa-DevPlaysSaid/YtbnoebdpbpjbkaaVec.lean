/-
  Rows of cells, by a function: reading, writing, whole copies; made by make; as local blocks.
-/
import Derived.Test.YtbnoebdpbpjbkaaOwn
import Derived.Test.YtbnoebdpbpjbkaaArr
import Derived.Laws.MakeOwn
namespace Go.Lz
open Go.RowKit

/-- n cells. -/
def vec (n : Nat) (f : Nat → Value) : Array Value := ((List.range n).map f).toArray
@[simp] theorem vec_size (n : Nat) (f : Nat → Value) : (vec n f).size = n := by simp [vec]
theorem vec_at {n k : Nat} (f : Nat → Value) (h : k < n) : (vec n f)[k]? = some (f k) := by simp [vec, h]
theorem vec_set (n : Nat) (f : Nat → Value) (k : Nat) (x : Value) : (vec n f).setIfInBounds k x = vec n (upd f k x) := by
  apply Array.ext_getElem?
  intro i
  rw [Array.getElem?_setIfInBounds]
  by_cases hi : i < n
  · rw [vec_at _ hi]
    by_cases e : k = i
    · subst e
      rw [vec_at _ hi]
      simp [hi]
    · rw [if_neg e, vec_at _ hi, upd_other _ (by omega)]
  · have h1 : (vec n f)[i]? = none := by simp [vec]; omega
    have h2 : (vec n (upd f k x))[i]? = none := by simp [vec]; omega
    rw [h1, h2]
    split
    · rw [if_neg (by simpa using (by omega : ¬ k < n))]
    · rfl
theorem vec_one (n : Nat) (f : Nat → Value) (h : ∀ k, (f k).oneCell' = true) : (vec n f).all (·.oneCell') = true := by
  refine Array.all_eq_true_iff_forall_mem.2 fun v hv => ?_
  simp only [vec, List.mem_toArray, List.mem_map] at hv
  obtain ⟨k, _, rfl⟩ := hv
  exact h k
theorem vec_congr {n : Nat} {f g : Nat → Value} (h : ∀ k, k < n → f k = g k) : vec n f = vec n g := by
  unfold vec
  congr 1
  exact List.map_congr_left fun k hk => h k (by simpa using hk)

/-- bools. -/
abbrev boolsV (n : Nat) (f : Nat → Bool) : Array Value := vec n fun k => .bool (f k)
theorem boolsV_set (n : Nat) (f : Nat → Bool) (k : Nat) (x : Bool) : (boolsV n f).setIfInBounds k (.bool x) = boolsV n (upd f k x) := by
  rw [vec_set]
  apply vec_congr
  intro j _
  by_cases e : j = k
  · subst e; simp
  · rw [upd_other _ e, upd_other _ e]

theorem make_one {P : Program} {T E : TypeId} {i : TypeInfo} {z : Value} (ht : P.underlying T = some (.slice E)) (hi : P.info? E = some i) (hz : i.zero = some z) (hs : i.size = 1) (hzc : z.cells = #[z]) (w : World) (n : Nat) (hb : i.bytes * n ≤ 281474976710656) (hn : n ≤ 9223372036854775807) :
    (Instr.makeSlice T (.int .i64 (n : Int)) (.int .i64 (n : Int))).run P w = .ok (.slice (some ⟨w.heap.size, 0, none⟩) n n) (w.alloc (.cells (vec n fun _ => z) E)) := by
  have hb' : (i.bytes : Int) * (n : Int) ≤ 281474976710656 := by
    have h : ((i.bytes * n : Nat) : Int) ≤ 281474976710656 := by omega
    rwa [Int.natCast_mul] at h
  have hr := run_make (P := P) w T E i z ht hi hz .i64 .i64 n n (by omega) (Int.le_refl _) hb' (by omega)
  simp only [Int.toNat_natCast] at hr
  rw [hr]
  have e : madeCells z.cells (n * i.size) = vec n fun _ => z := by
    rw [hs, Nat.mul_one, hzc]
    apply Array.ext_getElem?
    intro j
    by_cases hj : j < n
    · rw [vec_at _ hj]
      simp [madeCells, hj, Nat.mod_one]
    · have h1 : (vec n fun _ => z)[j]? = none := by simp [vec]; omega
      rw [h1]
      simp [madeCells]
      omega
  rw [e]

section
variable {w0 w w' : World} {T : World → (Nat → Prop) → Prop} {L : Locals} {b n : Nat} {E : TypeId} {f : Nat → Value}
theorem Own.vec_cell (h : Own w0 w T L) (hL : L b = some (.cells (vec n f) E (0, 0))) {k : Nat} (hk : k < n) : w.cell? ⟨b, k, none⟩ = some (f k) := by rw [cell_of (h.loc hL), vec_at f hk]
theorem Own.vec_frozen (h : Own w0 w T L) (hL : L b = some (.cells (vec n f) E (0, 0))) (k : Nat) : w.frozen? ⟨b, k, none⟩ = false := frozen_of (h.loc hL) k
/-- A local cell is written. -/
theorem Own.put (h : Own w0 w T L) (hk : Keeps T) {cs : Array Value} (hL : L b = some (.cells cs E (0, 0))) (k : Nat) (x : Value) : Own w0 (w.setCell ⟨b, k, none⟩ x) T (upd L b (some (.cells (cs.setIfInBounds k x) E (0, 0)))) :=
  h.set hk hL ((Chg.refl _ w).own k x) (heap_set_same (h.loc hL) k x)
end
end Go.Lz
