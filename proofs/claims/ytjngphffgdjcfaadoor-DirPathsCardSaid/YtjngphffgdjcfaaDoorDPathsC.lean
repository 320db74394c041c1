/-
  DirPaths answers true at any three numbers. No condition but the closed tables of utf8 that the card lists, and what is named holds some value of its kind.
-/
import Derived.Test.YtjngphffgdjcfaaDoorDPaths
import Derived.Test.YtjngphffgdjcfaaDoorRows
import Derived.Test.YtjngphffgdjcfaaDoorCards
import Derived.Test.YtjngphffgdjcfaaDoorTie
import Derived.SevenTiedAt
import Derived.ProofKit
import Derived.LaidMore
import Derived.OpenShut
import Derived.Stop.Joined
import Derived.Lay
import Derived.Carry
import Derived.Lib.LaidU8T
import Derived.Deep.DeepHandedRow
namespace Go.Proofs.YtjngphffgdjcfaaDoor
open Go.ChangeShapes Go.WideShapes Go.ChangeAt Go.RowKit Go.Shelf Go.Lib
open Go.ChangeMaps (open_string shut_string)

theorem prog_own : ownKnob Tryd.prog.godebug = none := by kernel_rfl
set_option maxRecDepth 100000 in
theorem env_of {W : World} {l : List (String × DataW Unit)} (hl : l = [("unicode/utf8.acceptRanges", Rows.laid_unicode_utf8_acceptRanges), ("unicode/utf8.first", Rows.laid_unicode_utf8_first)]) (hL : laidMetH Tryd.prog l W) (hsh : W.ShapedOpen Tryd.prog) : Env W := by
  subst hl
  have htab : Tabs W :=
    utf8Tabs_of_readsT (U8Types.of196 Tryd.laysValid) ⟨by kernel_rfl, by kernel_rfl, by kernel_rfl, by kernel_rfl, by kernel_rfl, by kernel_rfl, by kernel_rfl⟩ (Lib.laidMet.reads hL (.tail _ (.head _))) (Lib.laidMet.reads hL (.head _))
  obtain ⟨m, hm⟩ := Tryd.laysM146.s1_3 W hsh
  have hm' : W.cell? ⟨3, 0, none⟩ = some (.int .i64 m) := hm
  refine ⟨lt_of_cell hm', ⟨m, hm'⟩, fun w' hb => ?_⟩
  have key : ∀ (g j : Nat) (v : Value), W.cell? ⟨g, j, none⟩ = some v → w'.cell? ⟨g, j, none⟩ = some v := fun g j v h => by
    have := hb.block g (lt_of_cell h)
    simp only [World.cell?] at h ⊢
    rw [this]
    exact h
  exact ⟨fun c hc => key _ _ _ (htab.1 c hc), fun i hi => ⟨key _ _ _ (htab.2 i hi).1, key _ _ _ (htab.2 i hi).2⟩⟩

set_option maxRecDepth 100000 in
theorem dirPaths_lifted (os : Os) (started : os.Started) (H : Type) (enc : TypeId × Value → H) (F : Stop.Interp) :
    ReturnsInHanded {} Tryd.checked os 4 .any ((OpenSpec.ofChange Rows.dirPathsSpec).preRow enc Tryd.prog Tryd.f4 Rows.dirPathsRow.domain false Rows.dirPathsRow.laid)
      (((OpenSpec.ofChange Rows.dirPathsSpec).at F).post enc Tryd.prog Tryd.f4 false true false false) := by
  refine returnsInHanded_of_row (C := Tryd.checked) (s := OpenSpec.ofChange Rows.dirPathsSpec) prog_own started (by kernel_rfl) Tryd.func4
    (ChangeSpec.witness_shaped (enc := enc) (C := Tryd.checked) (os := os) (s := Rows.dirPathsSpec) (X := fun w _ => laidMetH Tryd.prog Rows.dirPathsRow.laid w) false (World.laidAll Tryd.prog os Rows.dirPathsRow.laid) #[.int .i64 0, .int .i64 0, .int .i64 0] 8 rfl (World.shaped_of_ZipB (by kernel_rfl) (by kernel_rfl)) (by kernel_rfl) (by kernel_rfl) (by kernel_rfl)
      (laidMetH_of_parts3 (fuel := 8) (laidMet_laidAll _ (by kernel_rfl) (by kernel_rfl)) (by kernel_rfl) (by kernel_rfl))) ?_
  intro W base args ds gs before hval0 hW _ _ _ hL hsh _
  have hval : ∀ (j : Nat) t v, Tryd.f4.params[j]? = some t → args[j]? = some v → Value.okWide Tryd.prog W .any base t v := hval0
  have hW' := hW
  obtain ⟨p, q, hA0, hV, rfl, hfz, hnd⟩ := hW
  have hA : DataW.TrodAll enc Tryd.prog W 0 (fun _ => true) true Tryd.f4.params.toList args.toList ds p := hA0
  rw [Tryd.params4] at hA hval
  obtain ⟨v0, v1, v2, d0, d1, d2, p0, p1, p2, rfl, rfl, rfl, h0, h1, h2⟩ := trodAll_three hA
  obtain ⟨rfl, rfl⟩ := trodVars_none hV
  obtain ⟨n, rfl, rfl, rfl, hn⟩ := open_int Tryd.underlying3 (hval 0 3 v0 rfl rfl) h0
  obtain ⟨a, rfl, rfl, rfl, ha⟩ := open_int Tryd.underlying3 (hval 1 3 v1 rfl rfl) h1
  obtain ⟨b, rfl, rfl, rfl, hb⟩ := open_int Tryd.underlying3 (hval 2 3 v2 rfl rfl) h2
  simp only [List.append_nil] at hW'
  refine (dirPaths_any n a b W (env_of rfl hL hsh)).mono fun e W' ⟨he, hbl⟩ => ?_
  refine ⟨_, he, ?_⟩
  exact ⟨_, _, _, [], [], [], hW', by rw [show Tryd.f4.resultTypes = #[4] by kernel_rfl]; exact trodAll_mk1 (shut_bool Tryd.underlying4 _), trodAll_mk3 (shut_int Tryd.underlying3 hn) (shut_int Tryd.underlying3 ha) (shut_int Tryd.underlying3 hb), rfl, hbl.frame _, fun h => by cases h⟩

theorem dirPaths_said : Rows.DirPathsSaid :=
  OpenClaim.holds_of_cond 4 Tryd.f4 rfl rfl rfl rfl rfl rfl rfl ⟨rfl, rfl, rfl, rfl, rfl⟩ rfl rfl rfl rfl rfl (by kernel_rfl) Tryd.func4 (by kernel_rfl)
    (of_decide_eq_true (by kernel_rfl)) (by unfold Func.isWrapper; first | (rw [if_pos (by decide +kernel)]; kernel_rfl) | (rw [if_neg (by decide +kernel)]; exact ⟨rfl, rfl⟩))
    (fun os started H enc _ F0 => by rw [OpenClaim.pre_eq_preRow]; exact dirPaths_lifted os started H enc F0)

theorem dirPaths_holds : Rows.DirPathsCardSaid :=
  Claim7.holds_tied_plain_at .later [] [.data, .pinned] true (true, "9003db9e297c4311b6fab14d565c57d909cf4d160c8b7c0253a90ec045fd9526") false
    dirPaths_said (fun _ h => by cases h) (by kernel_rfl) (fun _ h => by cases h) dirPaths_row_tie rfl ⟨rfl, rfl⟩ (by kernel_rfl) rfl
    (fun f fn hf hfn => by
      obtain rfl : f = 4 := Option.some.inj ((show Tryd.prog.funcNamed "lazaret/lazaretlaw7.DirPaths" = some 4 by kernel_rfl).symm.trans hf) |>.symm
      obtain rfl : fn = Tryd.f4 := (Option.some.inj (Tryd.func4.symm.trans hfn)).symm
      exact ⟨by kernel_rfl, fun j t ht => by
        rw [Tryd.params4] at ht
        have hm : t ∈ [3, 3, 3] := by simpa using Array.mem_of_getElem? ht
        have hall : ([3, 3, 3].all fun u => !Tryd.prog.wantsStandIn u) = true := by kernel_rfl
        exact (show Tryd.prog.wantsStandIn t = false by simpa using List.all_eq_true.1 hall t hm)⟩)
    (by kernel_rfl)
end Go.Proofs.YtjngphffgdjcfaaDoor
