/-
  The statements' own small functions of layer 1: Bytes, and what the document fixes ('awake').
-/
import Derived.Test.YtbnoebdpbpjbkaaDevM
namespace Go.Proofs.Ytbnoebdpbpjbkaa
open Go.RowKit Go.Lz

/-- A number's low byte. -/
def _root_.Go.Lz.lowByte (x : Int) : UInt8 := UInt8.ofNat (x % 256).toNat
/-- n bytes of a kind. -/
def _root_.Go.Lz.bytesOf (k : Int) (n : Nat) : Bytes := (List.range n).map fun (i : Nat) => lowByte (k * 7 + (i : Int))
@[simp] theorem _root_.Go.Lz.bytesOf_length (k : Int) (n : Nat) : (bytesOf k n).length = n := by simp [bytesOf]

theorem _root_.Go.Lz.lowByte_toNat (x : Int) : ((lowByte x).toNat : Int) = x % 256 := by
  unfold lowByte
  have h1 : (x % 256).toNat < 256 := by omega
  rw [UInt8.toNat_ofNat', Nat.mod_eq_of_lt (by simpa using h1)]
  omega

theorem _root_.Go.Lz.lowByte_u8v (x : Int) : u8v (lowByte x) = .int .u8 (x % 256) := by
  unfold u8v
  rw [lowByte_toNat]

/-- i bytes are laid. -/
def BytesRel (w : World) (g n : Nat) (k : Int) (i : Nat) (wr : World) : Prop :=
  ∃ cur, wr.heap[g]? = some (.cells cur 5 (0, 0)) ∧ cur.size = n ∧ cur.toList.take i = (bytesOf k i).map u8v ∧ Below w.heap.size w wr ∧ w.heap.size ≤ g

theorem bytesOf_succ (k : Int) (n : Nat) : bytesOf k (n + 1) = bytesOf k n ++ [lowByte (k * 7 + n)] := by
  simp [bytesOf, List.range_succ]

theorem lowByte_wrap (k : Int) (j : Nat) : wrap64 (wrap64 (k * 7) + j) % 256 = (k * 7 + j) % 256 := by
  unfold wrap64; omega

theorem BytesRel.step {w wr : World} {n : Nat} {k : Int} {j : Nat} {cur : Array Value} (hc : wr.heap[w.heap.size]? = some (.cells cur 5 (0, 0))) (hsz : Hid (cur.size = n)) (htk : cur.toList.take j = (bytesOf k j).map u8v) (hB : Below w.heap.size w wr) (hj : j < n) :
    BytesRel w w.heap.size n k (j + 1) (wr.setCell ⟨w.heap.size, j, none⟩ (.int .u8 (wrap64 (wrap64 (k * 7) + j) % 256))) := by
  have hsz := hsz.out
  refine ⟨_, heap_set_same hc j _, by simpa using hsz, ?_, hB.setCell (Nat.le_refl _) _, Nat.le_refl _⟩
  rw [lowByte_wrap, ← lowByte_u8v, bytesOf_succ, List.map_append, ← htk, Array.toList_setIfInBounds, List.take_add_one, List.getElem?_set_self (by simpa [hsz] using hj), List.take_set_of_le (Nat.le_refl _)]
  rfl

set_option maxHeartbeats 400000 in
theorem bytes_any (k n : Int) (w : World) (h0 : 0 ≤ n) (h1 : n ≤ 1000000) :
    Calls Try.prog 23 #[.int .i64 k, .int .i64 n] w fun e w' => e = .returned (.string ⟨(bytesOf k n.toNat).toArray⟩) ∧ Below w.heap.size w w' := by
  obtain ⟨n, rfl⟩ := Int.eq_ofNat_of_zero_le h0
  rw [Int.toNat_natCast]
  obtain ⟨i0, hi, hz0, hz1, hz2⟩ := info_parts info_u8
  have hN : n ≤ 1000000 := by omega
  go_enter Try.func23, Try.ntmps23
  go_wp2_with (at_make; refine wpList_make_full _ rfl _ _ 28 rfl w.heap.size 5 i0 (.int .u8 0) 1 Try.underlying28 hi hz0 hz1 _ _ _ _ n rfl rfl rfl rfl (by rw [hz2]; omega) (by unfold maxLen; omega) (Nat.le_refl _) ?_; intro w1 hown hgrow)
  have hstart : BytesRel w w.heap.size n k 0 w1 := by
    rcases hown.2 with ⟨e, _⟩ | ⟨g', cap, cur, e, hg', h2, h3, h4, h5, _⟩
    · cases e
    · cases e
      exact ⟨cur, h2, by omega, by simp [bytesOf], ⟨hgrow.os, hgrow.tape, hgrow.output, hgrow.size, fun j hj => hgrow.block j hj (by simp)⟩, Nat.le_refl _⟩
  clear hi hz0 hz1 hz2 hown hgrow h0 h1
  go_loopg [6] n (fun d i wr => ∃ j : Nat, j + d = n ∧ i = .int .i64 (j : Int) ∧ BytesRel w w.heap.size n k j wr)
  case atStart => exact ⟨0, by omega, rfl, hstart⟩
  case round =>
    obtain ⟨j, hjd, rfl, cur, hc, hsz, htk, hB, _⟩ := hrel
    have hjd' : Hid (j + gk = n) := hjd
    by_cases hlt : j < n
    · obtain ⟨v0, hv0⟩ : ∃ v0, wr.cell? ⟨w.heap.size, j, none⟩ = some v0 := by
        rw [cell_of hc]
        exact ⟨_, Array.getElem?_eq_getElem (by omega)⟩
      have hf0 := frozen_of hc j
      have hsz' : Hid (cur.size = n) := hsz
      clear hjd hsz
      go_wp2
      go_roundg (gk - 1)
      case measure => have := hjd'.out; omega
      case rel => exact ⟨j + 1, by have := hjd'.out; omega, by go_num, BytesRel.step hc hsz' htk hB hlt⟩
    · obtain rfl : j = n := by omega
      have hcs : Buf 5 wr w.heap.size (.slice (some ⟨w.heap.size, 0, none⟩) (bytesOf k j).length j) (bytesOf k j) := ⟨j, cur, (0, 0), rfl, hc, by simp, by unfold maxLen; omega, by omega, by rw [bytesOf_length]; exact htk, fun _ _ => by simp⟩
      have hcv := run_convert_bytes_back (P := Try.prog) wr 28 9 5 ⟨w.heap.size, 0, none⟩ j (bytesOf k j) Try.underlying28 Try.underlying5 Try.underlying9 (fun i hi => by
        rw [show (⟨w.heap.size, 0, none⟩ : Addr).add i = ⟨w.heap.size, i, none⟩ from by unfold Addr.add; split <;> simp_all]
        exact hcs.cells i _ (by rw [List.getElem?_map, List.getElem?_eq_getElem hi]; rfl))
      rw [bytesOf_length] at hcv
      clear hjd hsz hjd'
      go_wp2
      go_ret
      exact ⟨rfl, hB⟩
end Go.Proofs.Ytbnoebdpbpjbkaa
