/-
  A row of bytes is told by its bits; pairs of ints as an argument's elements.
-/
import Derived.Test.YtbnoebdpbpjbkaaLaw5b
import Derived.Test.YtbnoebdpbpjbkaaVec
namespace Go.Lz
open Go.RowKit Go.Proofs.Ytbnoebdpbpjbkaa

theorem byte_bits {x y : Nat} (hx : x < 256) (hy : y < 256) (h : ∀ s, s < 8 → x / 2 ^ s % 2 = y / 2 ^ s % 2) : x = y := by
  have h0 := h 0 (by omega)
  have h1 := h 1 (by omega)
  have h2 := h 2 (by omega)
  have h3 := h 3 (by omega)
  have h4 := h 4 (by omega)
  have h5 := h 5 (by omega)
  have h6 := h 6 (by omega)
  have h7 := h 7 (by omega)
  simp only [Nat.reducePow] at h0 h1 h2 h3 h4 h5 h6 h7
  omega
theorem beq1_inj {a b : Nat} (h : (a % 2 == 1) = (b % 2 == 1)) : a % 2 = b % 2 := by
  have ha : a % 2 = 0 ∨ a % 2 = 1 := by omega
  have hb : b % 2 = 0 ∨ b % 2 = 1 := by omega
  rcases ha with ha | ha <;> rcases hb with hb | hb <;> rw [ha, hb] at h ⊢ <;> cases h
theorem bitB_ext {a b : Bytes} (ha : a.length = 64) (hb : b.length = 64) (h : ∀ j, j < 512 → bitB a j = bitB b j) : a = b := by
  apply List.ext_getElem?
  intro i
  by_cases hi : i < 64
  · have e : a.getD i 0 = b.getD i 0 := by
      apply UInt8.toNat_inj.1
      refine byte_bits (UInt8.toNat_lt _) (UInt8.toNat_lt _) fun s hs => ?_
      have := h (8 * i + s) (by omega)
      unfold bitB at this
      rw [show (8 * i + s) / 8 = i from by omega, show (8 * i + s) % 8 = s from by omega] at this
      exact beq1_inj this
    rw [List.getD_eq_getElem?_getD, List.getD_eq_getElem?_getD] at e
    rw [List.getElem?_eq_getElem (by omega), List.getElem?_eq_getElem (by omega)] at e ⊢
    simpa using e
  · rw [List.getElem?_eq_none (by omega), List.getElem?_eq_none (by omega)]
theorem zero_bits (j : Nat) (hj : j < 512) : bitB zero64 j = false := by
  have hz : ∀ j : Fin 512, bitB zero64 j.val = false := by decide +kernel
  exact hz ⟨j, hj⟩
theorem or_bit (x s : Nat) (hx : x < 256) (hs : s < 8) : bits .or .u8 (x : Int) (2 ^ s % 256) = ((setN x s true : Nat) : Int) := by
  have : ∀ (z : Fin 256) (r : Fin 8), bits .or .u8 ((z.val : Nat) : Int) (2 ^ r.val % 256) = ((setN z.val r.val true : Nat) : Int) := by decide +kernel
  exact this ⟨x, hx⟩ ⟨s, hs⟩
theorem setN_lt {x s : Nat} (hx : x < 256) (hs : s < 8) (tb : Bool) : setN x s tb < 256 := (setN_bits x s hx hs tb).2
/-- The byte that a set bit makes. -/
theorem or_byte (b : Bytes) (j : Nat) : u8v (UInt8.ofNat (setN (b.getD (j / 8) 0).toNat (j % 8) true)) = .int .u8 (bits .or .u8 ((b.getD (j / 8) 0).toNat : Int) (2 ^ (j % 8) % 256)) := by
  rw [or_bit _ _ (UInt8.toNat_lt _) (by omega)]
  unfold u8v
  rw [UInt8.toNat_ofNat', Nat.mod_eq_of_lt (show _ < 2 ^ 8 from setN_lt (UInt8.toNat_lt _) (by omega) true)]

/-- Bytes as cells. -/
abbrev bytesV (b : Bytes) : Array Value := (b.map u8v).toArray
theorem bytesV_set (b : Bytes) (k : Nat) (c : UInt8) : (bytesV b).setIfInBounds k (u8v c) = bytesV (b.set k c) := by
  unfold bytesV
  rw [List.setIfInBounds_toArray, List.map_set]
theorem bytesV_buf {t : TypeId} {w : World} {g : Nat} {b : Bytes} (h : w.heap[g]? = some (.cells (bytesV b) t (0, 0))) (hb : b.length ≤ 1000000) : Buf t w g (.slice (some ⟨g, 0, none⟩) b.length b.length) b :=
  ⟨b.length, _, (0, 0), rfl, h, Nat.le_refl _, by unfold maxLen; omega, by simp, List.take_of_length_le (by simp), fun i _ => by simp⟩

/-- v is a slice of pairs of ints. -/
def PairsAt (w : World) (v : Value) (l : List (Int × Int)) : Prop :=
  ∃ a n c, v = .slice a n c ∧ l.length = n ∧ n ≤ 9223372036854775807 ∧ (n = 0 ∨ ∃ b off, a = some ⟨b, off, none⟩ ∧ b < w.heap.size ∧ ∀ j, j < n → w.cell? ⟨b, off + j * 2, none⟩ = some (.int .i64 (l.getD j (0, 0)).1) ∧ w.cell? ⟨b, off + j * 2 + 1, none⟩ = some (.int .i64 (l.getD j (0, 0)).2))
end Go.Lz
namespace Go.Proofs.Ytbnoebdpbpjbkaa
open Go.RowKit Go.Lz
theorem run_string_g {t : TypeId} {w : World} {g : Nat} {v : Value} {b : Bytes} (h : Buf t w g v b) : (convert 28 9 v).run Try.prog w = .ok (.string ⟨b.toArray⟩) w := by
  have hc := h.cells
  obtain ⟨cap, cur, fr, rfl, _⟩ := h
  refine run_convert_bytes_back (P := Try.prog) w 28 9 5 ⟨g, 0, none⟩ cap b Try.underlying28 Try.underlying5 Try.underlying9 (fun i hi => ?_)
  rw [show (⟨g, 0, none⟩ : Addr).add i = ⟨g, i, none⟩ from by unfold Addr.add; split <;> simp_all]
  exact hc i _ (by rw [List.getElem?_map, List.getElem?_eq_getElem hi]; rfl)
end Go.Proofs.Ytbnoebdpbpjbkaa
