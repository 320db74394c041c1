/-
  From a walk to a law's row: the call answers true, nothing that was there has turned, each argument reads as it did.
-/
import Derived.Test.YtjngphffgdjcfaaGreatDoorRows
import Derived.Test.YtjngphffgdjcfaaGreatDoorME0
import Derived.ProofKit
import Derived.OpenShut
namespace Go.Proofs.YtjngphffgdjcfaaGreatDoor
open Go.ChangeShapes Go.WideShapes Go.ChangeAt Go.RowKit Go.Lz

theorem prog_own : ownKnob Tryz.prog.godebug = none := by kernel_rfl
theorem cells_int : Tryz.prog.cellsOf 3 = 1 := by kernel_rfl
theorem prog_laidOut : laidOutB Tryz.prog = true := by kernel_rfl

section
variable {H : Type} {enc : TypeId × Value → H}

theorem trodAll_below {P : Program} (hl : laidOutB P = true) {W W' : World} (hb : Below W.heap.size W W') (ts : List TypeId) : ∀ (vs : List Value) (ds : List (DataW H)) (ps : List MemPlace), (∀ t ∈ ts, P.readableRec t = true ∧ t < P.types.size) →
    DataW.TrodAll enc P W 0 (fun _ => true) true ts vs ds ps → (∀ x ∈ ps, x.block < W.heap.size) → DataW.TrodAll enc P W' 0 (fun b => decide (b < W.heap.size)) true ts vs ds ps := by
  induction ts with
  | nil =>
    intro vs ds ps _ h _
    cases vs <;> cases ds <;> exact h
  | cons t ts ih =>
    intro vs ds ps hts h hps
    cases vs with
    | nil => exact h.elim
    | cons v vs =>
      cases ds with
      | nil => exact h.elim
      | cons d ds =>
        obtain ⟨p, q, h1, h2, rfl⟩ := h
        obtain ⟨r1, r2⟩ := hts t (by simp)
        exact ⟨p, q, Below.trod hl r1 r2 h1 hb (fun x hx => hps x (List.mem_append_left _ hx)), ih vs ds q (fun t ht => hts t (by simp [ht])) h2 (fun x hx => hps x (List.mem_append_right _ hx)), rfl⟩

/-- What a law's row asks behind the call. -/
theorem law_post {f : Func} {s : ChangeSpec} {apart : Bool} {W W' : World} {args : Array Value} {ds : List (DataW H)} {before : List MemPlace} (hW : DataW.Whole enc Tryz.prog f.params.toList s.vars apart W args.toList ds [] before) (hv : s.vars = [])
    (hs : s.fn H (ds ++ []) = { results := [.lit (.bool true)], args := ds }) (hr : f.resultTypes = #[4]) (hts : ∀ t ∈ f.params.toList, Tryz.prog.readableRec t = true ∧ t < Tryz.prog.types.size) (hb : Below W.heap.size W W') :
    s.post enc Tryz.prog f apart true false false W args (.bool true) W' := by
  have hW' := hW
  have hlt : ∀ x ∈ before, x.block < W.heap.size := fun x hx => hW'.lt x hx
  obtain ⟨p, q, hA, hV, rfl, _, _⟩ := hW
  rw [hv] at hV
  obtain ⟨_, rfl⟩ := trodVars_none hV
  rw [List.append_nil] at hlt
  refine ⟨ds, [], _, [], p, [], hW', ?_, ?_, ?_, hb.frame _, fun h => by cases h⟩
  · rw [hs, hr]
    exact trodAll_mk1 ⟨1, by simp [DataW.trod, Tryz.underlying4, Value.cells]⟩
  · rw [hs]
    exact trodAll_below prog_laidOut hb _ _ _ _ hts hA hlt
  · rw [hs, hv]
    rfl

set_option maxRecDepth 100000 in
/-- An argument that is a list of ints. -/
theorem ints_arg {W : World} {v : Value} {d : DataW H} {p : List MemPlace} {base : Nat} (h : DataW.Trod enc Tryz.prog W 0 (fun _ => true) true 32 v d p) (hok : Value.okWide Tryz.prog W .any base 32 v) : ∃ l, IntsAt W (fun _ => True) v l := by
  obtain ⟨a0, len, cap, rfl⟩ := okWide_slice Tryz.underlying32 hok
  obtain ⟨fuel, hf⟩ := h
  rcases open_ints Tryz.underlying32 Tryz.underlying3 cells_int hf with ⟨hcs, hx⟩ | ⟨a, len', cap', zs, hcs, _, hl, hm, hz, hx, hcell, hwz⟩
  · simp [Value.cells] at hcs
    obtain ⟨rfl, rfl, rfl⟩ := hcs
    exact ⟨[], none, 0, 0, rfl, rfl, by omega, .inl rfl⟩
  · simp [Value.cells] at hcs
    obtain ⟨rfl, rfl, rfl⟩ := hcs
    simp at hz
    refine ⟨zs.take len, some a, len, cap, rfl, by simp; omega, by unfold maxLen at hm; omega, ?_⟩
    by_cases h0 : len = 0
    · exact .inl h0
    · right
      obtain ⟨b, off, rfl, hc⟩ := ints_at hcell (by omega)
      refine ⟨b, off, rfl, trivial, ?_, fun j hj => ?_⟩
      · exact World.block_lt_of_cell? W _ (hc 0 (by omega))
      · rw [hc j (by omega)]
        simp [List.getD, hj]
end
end Go.Proofs.YtjngphffgdjcfaaGreatDoor
