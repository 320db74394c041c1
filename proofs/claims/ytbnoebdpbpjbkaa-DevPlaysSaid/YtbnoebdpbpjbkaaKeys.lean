/-
  'slices.Sorted(maps.Keys(m))' at the map of what waits: the numbers that are there, rising.
-/
import Derived.Test.YtbnoebdpbpjbkaaBase
import Derived.Test.YtbnoebdpbpjbkaaShelf
namespace Go.Proofs.Ytbnoebdpbpjbkaa
open Go.RowKit Go.Lz Go.Maps Go.Sort Go.Shelf

theorem sortsA (m : Nat) : AnyZI.SortsIn Try.prog Try.sortedA_ren Fence.wide m :=
  ⟨fun blk off cap ss W hH hblk hsz => callsIn_wide.2 (AnyM.slices_Sort_int Try.sortA blk off cap ss W hH hblk hsz),
   fun p cap W => callsIn_wide.2 (AnyM.slices_Sort_int_none Try.sortA p cap W)⟩

/-- The numbers l in a new row; nothing that was there has turned. -/
def SortedPost (W : World) (l : List Nat) (e : Ending) (w' : World) : Prop :=
  ∃ v, e = .returned v ∧ w'.ownsRow W.heap.size 3 1 v l.length (l.map fun (k : Nat) => Value.int .i64 (k : Int)) ∧ (v = .slice none 0 0 ↔ l = []) ∧ Below W.heap.size W w'

theorem sorted_keysOf (f : Nat → Option Value) (n : Nat) : ((keysOf f n).map fun (k : Nat) => (k : Int)).mergeSort leI = (keysOf f n).map fun (k : Nat) => (k : Int) := by
  apply List.mergeSort_of_pairwise
  refine List.pairwise_map.2 (List.Pairwise.imp ?_ (List.Pairwise.filter _ (List.pairwise_lt_range (n := n))))
  intro a b hab
  simp [leI]
  omega

theorem keysA_any (mb : Option Nat) (W : World) : Calls Try.prog 69 #[.map mb] W fun e w' => e = .returned (.func (.func 92) #[] #[.pointer (some ⟨W.heap.size, 0, none⟩)]) ∧ w' = W.alloc (.cells #[.map mb] 110) :=
  (callsIn_wide (n := 6)).1 (AnyZI.keys_in Try.keysA Fence.wide 6 trivial rfl mb W)

set_option maxHeartbeats 1000000 in
theorem sortedA_any {w W : World} {m c n : Nat} {f : Nat → Option Value} (h : MapAt Try.prog 3 w m f c) (hn : ∀ k, (f k).isSome = true → k < n) (hsmall : n ≤ 1000000) (hW : W = w.alloc (.cells #[.map (some m)] 110)) :
    Calls Try.prog 68 #[.func (.func 92) #[] #[.pointer (some ⟨w.heap.size, 0, none⟩)]] W (SortedPost W (keysOf f n)) := by
  have hcn := h.le Try.underlying3 hn
  obtain ⟨D, hown, hsz, hS⟩ := h
  have hbl := hown.lt
  have hmax : Maps.size D ≤ maxLen := by rw [hsz]; unfold maxLen; omega
  have hbytes : Maps.size D * 8 ≤ 140737488355328 := by omega
  subst hW
  have hseq : SeqGives Fence.wide 2 Try.prog 92 #[.pointer (some ⟨w.heap.size, 0, none⟩)] encZ (fun ss => ss.Perm (intKeys D)) (Maps.size D) (w.alloc (.cells #[.map (some m)] 110)) :=
    AnyZI.keys_gives (ρ := Try.keysA_ren) { Try.keysA with } Fence.wide _ trivial rfl (by omega) w.heap.size m c D _ (by simp) (by simp) (by
      obtain ⟨es, clock, hb, Ft, hs, hD⟩ := hown
      exact ⟨es, clock, (Below.heap_alloc _ _ m hbl).trans hb, Ft, hs, hD⟩)
  have cS := AnyZI.sorted_in Try.sortedA Fence.wide 5 trivial trivial trivial trivial rfl (by omega) (sortsA _) (enters_of Try.func91 (by kernel_rfl) rfl) 92 #[.pointer (some ⟨w.heap.size, 0, none⟩)] trivial (enters_of Try.func92 (by kernel_rfl) rfl) _ _ hmax hbytes _ hseq
  change CallsIn _ _ Try.prog 68 _ _ _ at cS
  refine ((callsIn_wide (n := 5)).1 cS).mono ?_
  rintro e w' ⟨v, ss, rfl, hp, hrow, hnil, hb⟩
  have hpp := hS.perm hown Try.underlying3 hn
  have hss : ss.mergeSort leI = (keysOf f n).map fun (k : Nat) => (k : Int) := (mergeSort_of_perm_i (hp.trans hpp.symm)).trans (sorted_keysOf f n)
  have hlen : ss.length = (keysOf f n).length := by have := (hp.trans hpp.symm).length_eq; simpa using this
  refine ⟨v, rfl, ?_, ?_, hb⟩
  · have e : ((keysOf f n).map fun (k : Nat) => Value.int .i64 (k : Int)) = (ss.mergeSort leI).map encZ := by rw [hss]; simp
    rw [e, ← hlen]
    exact hrow
  · rw [hnil, ← List.length_eq_zero_iff, ← List.length_eq_zero_iff, hlen]

/-! ### the same at the store's maps -/
theorem keysB_any (mb : Option Nat) (W : World) : Calls Try.prog 94 #[.map mb] W fun e w' => e = .returned (.func (.func 118) #[] #[.pointer (some ⟨W.heap.size, 0, none⟩)]) ∧ w' = W.alloc (.cells #[.map mb] 127) :=
  (callsIn_wide (n := 6)).1 (AnyZI.keys_in Try.keysB Fence.wide 6 trivial rfl mb W)

set_option maxHeartbeats 1000000 in
theorem sortedB_any {w W : World} {m c n : Nat} {f : Nat → Option Value} (h : MapAt Try.prog 3 w m f c) (hn : ∀ k, (f k).isSome = true → k < n) (hsmall : n ≤ 1000000) (hW : W = w.alloc (.cells #[.map (some m)] 127)) :
    Calls Try.prog 68 #[.func (.func 118) #[] #[.pointer (some ⟨w.heap.size, 0, none⟩)]] W (SortedPost W (keysOf f n)) := by
  have hcn := h.le Try.underlying3 hn
  obtain ⟨D, hown, hsz, hS⟩ := h
  have hbl := hown.lt
  have hmax : Maps.size D ≤ maxLen := by rw [hsz]; unfold maxLen; omega
  have hbytes : Maps.size D * 8 ≤ 140737488355328 := by omega
  subst hW
  have hseq : SeqGives Fence.wide 2 Try.prog 118 #[.pointer (some ⟨w.heap.size, 0, none⟩)] encZ (fun ss => ss.Perm (intKeys D)) (Maps.size D) (w.alloc (.cells #[.map (some m)] 127)) :=
    AnyZI.keys_gives (ρ := Try.keysB_ren) { Try.keysB with } Fence.wide _ trivial rfl (by omega) w.heap.size m c D _ (by simp) (by simp) (by
      obtain ⟨es, clock, hb, Ft, hs, hD⟩ := hown
      exact ⟨es, clock, (Below.heap_alloc _ _ m hbl).trans hb, Ft, hs, hD⟩)
  have cS := AnyZI.sorted_in Try.sortedA Fence.wide 5 trivial trivial trivial trivial rfl (by omega) (sortsA _) (enters_of Try.func91 (by kernel_rfl) rfl) 118 #[.pointer (some ⟨w.heap.size, 0, none⟩)] trivial (enters_of Try.func118 (by kernel_rfl) rfl) _ _ hmax hbytes _ hseq
  change CallsIn _ _ Try.prog 68 _ _ _ at cS
  refine ((callsIn_wide (n := 5)).1 cS).mono ?_
  rintro e w' ⟨v, ss, rfl, hp, hrow, hnil, hb⟩
  have hpp := hS.perm hown Try.underlying3 hn
  have hss : ss.mergeSort leI = (keysOf f n).map fun (k : Nat) => (k : Int) := (mergeSort_of_perm_i (hp.trans hpp.symm)).trans (sorted_keysOf f n)
  have hlen : ss.length = (keysOf f n).length := by have := (hp.trans hpp.symm).length_eq; simpa using this
  refine ⟨v, rfl, ?_, ?_, hb⟩
  · have e : ((keysOf f n).map fun (k : Nat) => Value.int .i64 (k : Int)) = (ss.mergeSort leI).map encZ := by rw [hss]; simp
    rw [e, ← hlen]
    exact hrow
  · rw [hnil, ← List.length_eq_zero_iff, ← List.length_eq_zero_iff, hlen]
end Go.Proofs.Ytbnoebdpbpjbkaa
