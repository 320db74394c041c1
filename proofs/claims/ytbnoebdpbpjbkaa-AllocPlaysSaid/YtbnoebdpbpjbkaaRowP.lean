/-
  An argument that is a list of pairs of ints, opened.
-/
import Derived.Test.YtbnoebdpbpjbkaaRow
import Derived.Test.YtbnoebdpbpjbkaaAlB
import Derived.Deep.Slices
import Derived.Deep.Fields
namespace Go.Proofs.Ytbnoebdpbpjbkaa
open Go.ChangeShapes Go.WideShapes Go.ChangeAt Go.RowKit Go.Lz Go.Deep
section
variable {H : Type} {enc : TypeId × Value → H}
set_option maxRecDepth 100000 in
theorem pairs_arg {W : World} {v : Value} {d : DataW H} {p : List MemPlace} {base : Nat} (h : DataW.Trod enc Try.prog W 0 (fun _ => true) true 97 v d p) (hok : Value.okWide Try.prog W .any base 97 v) : ∃ l, PairsAt W v l := by
  have hC : Try.prog.cellsOf 99 = 2 := by kernel_rfl
  obtain ⟨a0, len, cap, rfl⟩ := okWide_slice Try.underlying97 hok
  obtain ⟨fuel, hf⟩ := h
  rcases open_slice Try.underlying97 hf with ⟨hcs, hx⟩ | ⟨a, len', cap', m, n, D, Pl, hcs, _, hl, hm, hmm, hx, hi⟩
  · simp [Value.cells] at hcs
    obtain ⟨rfl, rfl, rfl⟩ := hcs
    exact ⟨[], none, 0, 0, rfl, rfl, by omega, .inl rfl⟩
  · simp [Value.cells] at hcs
    obtain ⟨rfl, rfl, rfl⟩ := hcs
    simp only [if_true] at hmm
    subst hmm
    by_cases h0 : len = 0
    · subst h0
      exact ⟨[], some a, 0, m, rfl, rfl, by omega, .inl rfl⟩
    have key : ∀ i, i < m → ∀ j, j < 2 → ∃ x : Int, W.cell? (a.add (i * 2 + j)) = some (.int .i64 x) := by
      intro i him j hj
      obtain ⟨cs', hc, ht'⟩ := hi i him
      rw [hC] at hc
      obtain ⟨ys, n', hn', hy, hlen, hyl, hfd⟩ := DataW.trod_array Try.underlying99 ht'
      obtain ⟨_, hcl, hat⟩ := World.cells?_some hc
      have h1 := hfd j hj
      rw [cells_int, Nat.mul_one] at h1
      have hv : cs'[j]? = some (cs'[j]'(by omega)) := List.getElem?_eq_getElem (by omega)
      have hone' : (cs'.drop j).take 1 = [cs'[j]'(by omega)] := by
        rw [List.drop_eq_getElem_cons (by omega)]
        rfl
      have hys : ys[j]? = some (ys[j]'(by omega)) := List.getElem?_eq_getElem (by omega)
      rw [hone', hys] at h1
      obtain ⟨x, e1, _, _⟩ := DataW.trod_int Try.underlying3 h1
      have e1 : cs'[j]'(by omega) = .int .i64 x := by simpa using e1
      refine ⟨x, ?_⟩
      have hcell := hat j (by omega)
      rw [← add_add, hcell, hv, e1]
    have hall : ∃ f g : Nat → Int, ∀ i, i < m → W.cell? (a.add (i * 2)) = some (.int .i64 (f i)) ∧ W.cell? (a.add (i * 2 + 1)) = some (.int .i64 (g i)) :=
      ⟨fun i => if h : i < m then (key i h 0 (by omega)).choose else 0, fun i => if h : i < m then (key i h 1 (by omega)).choose else 0, fun i hi => by
        simp only [dif_pos hi]
        exact ⟨(key i hi 0 (by omega)).choose_spec, (key i hi 1 (by omega)).choose_spec⟩⟩
    obtain ⟨f, g, hfg⟩ := hall
    obtain ⟨b, off, mode⟩ := a
    have hm0 : mode = none := by simpa [Addr.add] using World.cell?_spot (hfg 0 (by omega)).1
    subst hm0
    have hadd : ∀ k, (⟨b, off, none⟩ : Addr).add k = ⟨b, off + k, none⟩ := fun k => by unfold Addr.add; split <;> simp_all
    refine ⟨(List.range len).map fun i => (f i, g i), some ⟨b, off, none⟩, len, m, rfl, by simp, by unfold maxLen at hm; omega, .inr ⟨b, off, rfl, ?_, fun j hj => ?_⟩⟩
    · have := (hfg 0 (by omega)).1
      rw [hadd] at this
      exact World.block_lt_of_cell? W _ this
    · have e : ((List.range len).map fun i => (f i, g i)).getD j (0, 0) = (f j, g j) := by simp [List.getD, hj]
      have := hfg j (by omega)
      rw [hadd, hadd] at this
      rw [e, Nat.add_assoc]
      exact this
end
end Go.Proofs.Ytbnoebdpbpjbkaa
