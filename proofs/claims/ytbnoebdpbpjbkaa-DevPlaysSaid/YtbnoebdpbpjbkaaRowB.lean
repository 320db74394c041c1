/-
  An argument that is a list of bools, opened.
-/
import Derived.Test.YtbnoebdpbpjbkaaRow
import Derived.Test.YtbnoebdpbpjbkaaOwn
import Derived.Deep.Grids
namespace Go.Proofs.Ytbnoebdpbpjbkaa
open Go.ChangeShapes Go.WideShapes Go.ChangeAt Go.RowKit Go.Lz
theorem cells_bool : Try.prog.cellsOf 4 = 1 := by kernel_rfl
section
variable {H : Type} {enc : TypeId × Value → H}
set_option maxRecDepth 100000 in
/-- An argument that is a list of bools. -/
theorem bools_arg {W : World} {v : Value} {d : DataW H} {p : List MemPlace} {base : Nat} (h : DataW.Trod enc Try.prog W 0 (fun _ => true) true 72 v d p) (hok : Value.okWide Try.prog W .any base 72 v) : ∃ l, BoolsAt W (fun _ => True) v l := by
  obtain ⟨a0, len, cap, rfl⟩ := okWide_slice Try.underlying72 hok
  obtain ⟨fuel, hf⟩ := h
  rcases Go.Deep.open_bools Try.underlying72 Try.underlying4 cells_bool hf with ⟨hcs, hx⟩ | ⟨a, len', cap', B, hcs, _, hl, hm, hx, hcell⟩
  · simp [Value.cells] at hcs
    obtain ⟨rfl, rfl, rfl⟩ := hcs
    exact ⟨[], none, 0, 0, rfl, rfl, by omega, .inl rfl⟩
  · simp [Value.cells] at hcs
    obtain ⟨rfl, rfl, rfl⟩ := hcs
    refine ⟨(List.range len).map B, some a, len, cap, rfl, by simp, by unfold maxLen at hm; omega, ?_⟩
    by_cases h0 : len = 0
    · exact .inl h0
    · right
      have h00 := hcell 0 (by omega)
      obtain ⟨b, off, mode⟩ := a
      have hm0 : mode = none := by simpa [Addr.add] using World.cell?_spot h00
      subst hm0
      have hc : ∀ j, j < len → W.cell? ⟨b, off + j, none⟩ = some (.bool (B j)) := fun j hj => by
        have := hcell j (by omega)
        rwa [show (⟨b, off, none⟩ : Addr).add j = ⟨b, off + j, none⟩ from by unfold Addr.add; split <;> simp_all] at this
      refine ⟨b, off, rfl, trivial, World.block_lt_of_cell? W _ (hc 0 (by omega)), fun j hj => ?_⟩
      rw [hc j hj]
      simp [List.getD, hj]
end
end Go.Proofs.Ytbnoebdpbpjbkaa
