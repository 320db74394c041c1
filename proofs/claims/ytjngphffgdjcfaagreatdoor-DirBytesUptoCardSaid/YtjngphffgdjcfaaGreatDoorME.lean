/-
  DirBytes answers true at every list of texts and all bytes, where what it reads is of bulk at most 1048576. No condition but that, the closed tables of utf8 that the card lists, and what is named holds some value of its kind.
-/
import Derived.Test.YtjngphffgdjcfaaGreatDoorMExDb2
import Derived.Test.YtjngphffgdjcfaaGreatDoorMExDEnv
import Derived.SliceStrings
import Derived.Deep.Slices
import Derived.Deep.Fields
namespace Go.Proofs.YtjngphffgdjcfaaGreatDoor
open Go.ChangeShapes Go.WideShapes Go.ChangeAt Go.RowKit Go.Shelf Go.Lib
open Go.Lz (u8v Src)
section
variable {H : Type} {enc : TypeId × Value → H}
theorem u8_back {x : Int} (h : (Lit.int .u8 x).wf = true) : (.int .u8 x : Value) = u8v (UInt8.ofNat x.toNat) := by
  have h2 : 0 ≤ x ∧ x ≤ 255 := by
    have : (decide (IntKind.u8.min ≤ x) && decide (x ≤ IntKind.u8.max)) = true := h
    rw [Bool.and_eq_true, decide_eq_true_eq, decide_eq_true_eq] at this
    exact this
  unfold u8v
  congr 1
  have h3 : (UInt8.ofNat x.toNat).toNat = x.toNat % 256 := by simp
  rw [h3]
  omega
set_option maxRecDepth 100000 in
theorem argB_arg {W : World} {v : Value} {d : DataW H} {p : List MemPlace} {base : Nat} (h : DataW.Trod enc Tryz.prog W 0 (fun _ => true) true 23 v d p) (hok : Value.okWide Tryz.prog W .any base 23 v) : ∃ l, ArgB W v l := by
  obtain ⟨a0, len, cap, rfl⟩ := okWide_slice Tryz.underlying23 hok
  obtain ⟨fuel, hf⟩ := h
  have cells_u8 : Tryz.prog.cellsOf 5 = 1 := by kernel_rfl
  rcases open_ints Tryz.underlying23 Tryz.underlying5 cells_u8 hf with ⟨hcs, hx⟩ | ⟨a', len', cap', zs, hcs, _, hl', hm', hz, hx, hcell, hwz⟩
  · simp [Value.cells] at hcs
    obtain ⟨rfl, rfl, rfl⟩ := hcs
    exact ⟨[], none, 0, rfl, Nat.zero_le _, fun h => absurd rfl h, fun _ => rfl⟩
  · simp [Value.cells] at hcs
    obtain ⟨rfl, rfl, rfl⟩ := hcs
    simp at hz
    have hlen : ((zs.take len).map fun x => UInt8.ofNat x.toNat).length = len := by simp; omega
    refine ⟨(zs.take len).map fun x => UInt8.ofNat x.toNat, some a', cap, by rw [hlen], by omega, fun hne => ?_, fun h => by cases h⟩
    have h0 : 0 < len := by rw [← hlen]; exact List.length_pos_iff.2 hne
    obtain ⟨b, off, rfl, hc⟩ := ints_at hcell (by omega)
    have hb0 := World.block_lt_of_cell? W _ (hc 0 (by omega))
    have hob : ∃ cur t fr, W.heap[b]? = some (.cells cur t fr) := by
      have h1 := hc 0 (by omega)
      cases hh : W.heap[b]? with
      | none => simp [World.cell?, hh] at h1
      | some o =>
        cases o with
        | cells cur t fr => exact ⟨cur, t, fr, rfl⟩
        | _ => simp [World.cell?, hh] at h1
    obtain ⟨cur, t, fr, hob⟩ := hob
    refine ⟨t, b, off, cap, cur, fr, by rw [hlen], hb0, hob, by rw [hlen]; exact hl', hm', fun j u hj => ?_⟩
    have hjl : j < len := by
      have := (List.getElem?_eq_some_iff.1 hj).1
      simp at this
      omega
    rw [hc j (by omega)]
    have hj2 : j < zs.length := by omega
    have e : zs.getD j 0 = zs[j] := by simp [List.getD, hj2]
    rw [e, u8_back (hwz _ (List.getElem_mem hj2)), ← hj]
    simp [hjl, hj2]
set_option maxRecDepth 100000 in
theorem strs_arg {W : World} {v : Value} {d : DataW H} {p : List MemPlace} {base : Nat} (h : DataW.Trod enc Tryz.prog W 0 (fun _ => true) true 22 v d p) (hok : Value.okWide Tryz.prog W .any base 22 v) : ∃ l, StrsAt W v l := by
  obtain ⟨a0, len, cap, rfl⟩ := okWide_slice Tryz.underlying22 hok
  obtain ⟨fuel, hf⟩ := h
  have cells_str : Tryz.prog.cellsOf 9 = 1 := by kernel_rfl
  rcases open_strings Tryz.underlying22 Tryz.underlying9 cells_str hf with ⟨hcs, hx⟩ | ⟨a', len', cap', ss, hcs, _, hl', hm', hz, hx, hcell, hsz⟩
  · simp [Value.cells] at hcs
    obtain ⟨rfl, rfl, rfl⟩ := hcs
    exact ⟨[], none, 0, 0, rfl, rfl, by omega, fun _ h => (nomatch h), .inl rfl⟩
  · simp [Value.cells] at hcs
    obtain ⟨rfl, rfl, rfl⟩ := hcs
    simp at hz
    have hlen : (ss.take len).length = len := by rw [List.length_take]; omega
    refine ⟨ss.take len, some a', len, cap, rfl, hlen, by unfold maxLen at hm'; omega, fun x hx => by have := hsz x (List.mem_of_mem_take hx); unfold maxLen at this; omega, ?_⟩
    by_cases h0 : len = 0
    · exact .inl h0
    · right
      have h00 := hcell 0 (by omega)
      obtain ⟨b, off, mode⟩ := a'
      have hm0 : mode = none := by simpa [Addr.add] using World.cell?_spot h00
      subst hm0
      have hc : ∀ j, j < ss.length → W.cell? ⟨b, off + j, none⟩ = some (.string (ss.getD j ByteArray.empty)) := fun j hj => by
        have := hcell j (by omega)
        rwa [show (⟨b, off, none⟩ : Addr).add j = ⟨b, off + j, none⟩ from by unfold Addr.add; split <;> simp_all] at this
      refine ⟨b, off, rfl, World.block_lt_of_cell? W _ (hc 0 (by omega)), fun j x hj => ?_⟩
      rw [List.getElem?_take] at hj
      split at hj
      · rw [hc j (List.getElem?_eq_some_iff.1 hj).1]
        obtain ⟨h1, h2⟩ := List.getElem?_eq_some_iff.1 hj
        simp [List.getD, h1, h2]
      · cases hj
end

set_option maxRecDepth 100000 in
theorem dirBytes_lifted (os : Os) (started : os.Started) (H : Type) (enc : TypeId × Value → H) (F : Stop.Interp) :
    ReturnsInHanded {} Tryz.checked os 3 .any ((Rows.OpenSpec.upto Rows.dirBytesSpec).preRow enc Tryz.prog Tryz.f3 Rows.dirBytesUptoRow.domain false Rows.dirBytesUptoRow.laid)
      (((Rows.OpenSpec.upto Rows.dirBytesSpec).at F).post enc Tryz.prog Tryz.f3 false true false false) := by
  refine returnsInHanded_of_row (C := Tryz.checked) (s := Rows.OpenSpec.upto Rows.dirBytesSpec) prog_own started (by kernel_rfl) Tryz.func3 ?_ ?_
  · have hok : Input.okWideB Tryz.prog ((World.laidAll Tryz.prog os Rows.dirBytesUptoRow.laid).forCall (fun _ _ => 0) ⟨#[], #[.slice none 0 0, .slice none 0 0], []⟩) 3 ⟨#[], #[.slice none 0 0, .slice none 0 0], []⟩ = true := by kernel_rfl
    exact ⟨World.laidAll Tryz.prog os Rows.dirBytesUptoRow.laid, fun _ _ => 0, ⟨#[], #[.slice none 0 0, .slice none 0 0], []⟩, rfl, World.shaped_of_ZipB (by kernel_rfl) (by kernel_rfl), (Input.okWide_of_okWideB (base := 0) hok).1, (Input.okWide_of_okWideB hok).2,
      OpenSpec.preRow_of_cond 8 (x := ([.nil, .nil], [], [])) (by kernel_rfl) (by kernel_rfl) (fun k hk => by cases hk; kernel_rfl) (by kernel_rfl) (laidMetH_of_parts3 (fuel := 8) (laidMet_laidAll _ (by kernel_rfl) (by kernel_rfl)) (by kernel_rfl) (by kernel_rfl)),
      by
        simp only [Assume.holds]
        exact ⟨by simp, by simp, fun _ => Modest.zero, by simp, by simp⟩⟩
  intro W base args ds gs before hval0 hW _ _ _ hL hsh _
  have hval : ∀ (j : Nat) t v, Tryz.f3.params[j]? = some t → args[j]? = some v → Value.okWide Tryz.prog W .any base t v := hval0
  have hW' := hW
  obtain ⟨p, q, hA0, hV, rfl, hfz, hnd⟩ := hW
  have hA : DataW.TrodAll enc Tryz.prog W 0 (fun _ => true) true Tryz.f3.params.toList args.toList ds p := hA0
  rw [Tryz.params3] at hA hval
  obtain ⟨v0, v1, d0, d1, p0, p1, rfl, rfl, rfl, h0, h1⟩ := trodAll_two hA
  obtain ⟨rfl, rfl⟩ := trodVars_none hV
  obtain ⟨l0, hl0⟩ := strs_arg h0 (hval 0 22 v0 rfl rfl)
  obtain ⟨l1, hl1⟩ := argB_arg h1 (hval 1 23 v1 rfl rfl)
  simp only [List.append_nil] at hW'
  refine (dirBytes_any hl0 hl1 (env_of rfl hL hsh)).mono fun e W' ⟨he, hb⟩ => ?_
  exact ⟨_, he, law_post hW' rfl rfl (by kernel_rfl) (by rw [Tryz.params3]; intro t ht; simp at ht; rcases ht with rfl | rfl <;> exact ⟨by kernel_rfl, of_decide_eq_true (by kernel_rfl)⟩) hb⟩

theorem dirBytes_said : Rows.DirBytesUptoSaid :=
  OpenClaim.holds_of_cond 3 Tryz.f3 rfl rfl rfl rfl rfl rfl rfl ⟨rfl, rfl, rfl, rfl, rfl⟩ rfl rfl rfl rfl rfl (by kernel_rfl) Tryz.func3 (by kernel_rfl)
    (of_decide_eq_true (by kernel_rfl)) (by unfold Func.isWrapper; first | (rw [if_pos (by decide +kernel)]; kernel_rfl) | (rw [if_neg (by decide +kernel)]; exact ⟨rfl, rfl⟩))
    (fun os started H enc _ F0 => by rw [OpenClaim.pre_eq_preRow]; exact dirBytes_lifted os started H enc F0)

theorem dirBytes_holds : Rows.DirBytesUptoCardSaid :=
  Claim7.holds_tied_plain_at .later [] [.data, .pinned] true (true, "fd7733ffd024b595555291bdd4482c778e8657f9b320965395657dc1ae34d308") false
    dirBytes_said (fun _ h => by cases h) (by kernel_rfl) (fun _ h => by cases h) dirBytesUpto_row_tie rfl ⟨rfl, rfl⟩ (by kernel_rfl) rfl
    (fun f fn hf hfn => by
      obtain rfl : f = 3 := Option.some.inj ((show Tryz.prog.funcNamed "lazaret/lazaretlaw7.DirBytes" = some 3 by kernel_rfl).symm.trans hf) |>.symm
      obtain rfl : fn = Tryz.f3 := (Option.some.inj (Tryz.func3.symm.trans hfn)).symm
      exact ⟨by kernel_rfl, fun j t ht => by
        rw [Tryz.params3] at ht
        have hm : t ∈ [22, 23] := by simpa using Array.mem_of_getElem? ht
        have hall : ([22, 23].all fun u => !Tryz.prog.wantsStandIn u) = true := by kernel_rfl
        exact (show Tryz.prog.wantsStandIn t = false by simpa using List.all_eq_true.1 hall t hm)⟩)
    (by kernel_rfl)
end Go.Proofs.YtjngphffgdjcfaaGreatDoor
