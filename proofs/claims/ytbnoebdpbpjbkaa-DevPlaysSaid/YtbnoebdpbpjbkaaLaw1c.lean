/-
  Texts and rows of bytes, there and back; Zero.
-/
import Derived.Test.YtbnoebdpbpjbkaaLaw1b
namespace Go.Proofs.Ytbnoebdpbpjbkaa
open Go.RowKit Go.Lz

/-- What '[]byte(s)' lays: the bytes and some room, marked behind their end. -/
def bcap (w : World) (b : Bytes) : Nat := grownCap w b.length 0 5
def bobj (w : World) (b : Bytes) : Obj := .cells (bytesRow ⟨b.toArray⟩ (bcap w b)) 5 ((bytesRow ⟨b.toArray⟩ (bcap w b)).size, (bytesRow ⟨b.toArray⟩ (bcap w b)).size + 1)

theorem run_bytes (w : World) (b : Bytes) : (convert 9 28 (.string ⟨b.toArray⟩)).run Try.prog w = .ok (.slice (some ⟨w.heap.size, 0, none⟩) b.length (bcap w b)) (w.drew.alloc (bobj w b)) :=
  run_bytes_of_string w 9 28 5 ⟨b.toArray⟩ Try.underlying9 Try.underlying28 Try.underlying5

theorem bytes_buf (w : World) (b : Bytes) (hb : b.length ≤ 1000000) : Buf 5 (w.drew.alloc (bobj w b)) w.heap.size (.slice (some ⟨w.heap.size, 0, none⟩) b.length (bcap w b)) b := by
  have hge : b.length ≤ bcap w b := grownCap_ge w b.length 0 5
  have hle : bcap w b ≤ maxLen := grownCap_le_maxLen w b.length 0 5 (by unfold maxLen; omega)
  have hl : (bytesRow ⟨b.toArray⟩ (bcap w b)).toList = b.map u8v ++ List.replicate (bcap w b - b.length) (.int .u8 0) := by
    simp only [bytesRow, Array.toList_append, Array.toList_map, Array.toList_replicate]
    rfl
  have hs : (bytesRow ⟨b.toArray⟩ (bcap w b)).size = bcap w b := by
    rw [← Array.length_toList, hl]
    simp
    omega
  refine ⟨bcap w b, _, _, rfl, heap_alloc_new w.drew _, hge, hle, by rw [hs]; exact Nat.le_refl _, ?_, fun i hi => ?_⟩
  · rw [hl]
    exact List.take_left' (by simp)
  · rw [hs]
    simp
    omega

theorem bytes_below (w : World) (b : Bytes) : Below w.heap.size w (w.drew.alloc (bobj w b)) := (Below.refl _ w).drew.alloc (Nat.le_refl _) _

theorem run_string {w : World} {g : Nat} {v : Value} {b : Bytes} (h : Buf 5 w g v b) : (convert 28 9 v).run Try.prog w = .ok (.string ⟨b.toArray⟩) w := by
  have hc := h.cells
  obtain ⟨cap, cur, fr, rfl, _⟩ := h
  refine run_convert_bytes_back (P := Try.prog) w 28 9 5 ⟨g, 0, none⟩ cap b Try.underlying28 Try.underlying5 Try.underlying9 (fun i hi => ?_)
  rw [show (⟨g, 0, none⟩ : Addr).add i = ⟨g, i, none⟩ from by unfold Addr.add; split <;> simp_all]
  exact hc i _ (by rw [List.getElem?_map, List.getElem?_eq_getElem hi]; rfl)

set_option maxHeartbeats 400000 in
theorem zero_any (w : World) : Calls Try.prog 26 #[] w fun e w' => e = .returned (.string ⟨zero64.toArray⟩) ∧ Below w.heap.size w w' := by
  have hmk : ∀ W : World, (Instr.makeSlice 28 (.int .i64 64) (.int .i64 64)).run Try.prog W = .ok (.slice (some ⟨W.heap.size, 0, none⟩) 64 64) (W.alloc (.cells cells64 5)) := fun _ => by kernel_rfl
  have hst : (convert 28 9 (.slice (some ⟨w.heap.size, 0, none⟩) 64 64)).run Try.prog (w.alloc (.cells cells64 5)) = .ok (.string ⟨zero64.toArray⟩) (w.alloc (.cells cells64 5)) :=
    run_string (g := w.heap.size) ⟨64, cells64, (0, 0), rfl, heap_alloc_new w _, by decide, by decide, by rw [cells64_size]; exact Nat.le_refl _, by rw [← cells64_eq]; exact List.take_of_length_le (by rw [Array.length_toList, cells64_size]; exact Nat.le_refl _), fun i _ => by simp⟩
  go_enter Try.func26, Try.ntmps26
  go_wp2
  go_ret
  exact ⟨rfl, (Below.refl _ w).alloc (Nat.le_refl _) _⟩
end Go.Proofs.Ytbnoebdpbpjbkaa
