/-
  WalLasts returns true for every script, every fuse, every crash, and leaves its arguments as they were. No condition.
-/
import Derived.Test.YtbnoebdpbpjbkaaLifesW
import Derived.Test.YtbnoebdpbpjbkaaRowO
import Derived.Test.YtbnoebdpbpjbkaaRowW
import Derived.ProofKit
import Derived.Carry
namespace Go.Proofs.Ytbnoebdpbpjbkaa
open Go.ChangeShapes Go.WideShapes Go.ChangeAt Go.RowKit Go.Lz

set_option maxRecDepth 100000 in
theorem walLasts_lifted (os : Os) (started : os.Started) (H : Type) (enc : TypeId × Value → H) :
    ReturnsInHanded {} Try.checked os 13 .any (Rows.walLastsSpec.pre6 enc Try.prog Try.f13 Rows.walLastsRow.domain false) (Rows.walLastsSpec.post enc Try.prog Try.f13 false true false false) := by
  refine returnsInHanded_of_change (C := Try.checked) prog_own started (by kernel_rfl) Try.func13
    (ChangeSpec.witness6 (enc := enc) (C := Try.checked) false ⟨#[], #[.slice none 0 0, .int .i64 0, .bool false, .slice none 0 0, .slice none 0 0], []⟩ 8 (by kernel_rfl) (by kernel_rfl) (by kernel_rfl) (by kernel_rfl)) ?_
  intro W base args ds gs before hval0 hW hcnd _
  have hval : ∀ (j : Nat) t v, Try.f13.params[j]? = some t → args[j]? = some v → Value.okWide Try.prog W .any base t v := hval0
  have hW' := hW
  obtain ⟨p, q, hA0, hV, rfl, hfz, hnd⟩ := hW
  have hA : DataW.TrodAll enc Try.prog W 0 (fun _ => true) true Try.f13.params.toList args.toList ds p := hA0
  rw [Try.params13] at hA hval
  obtain ⟨v0, v1, v2, v3, v4, d0, d1, d2, d3, d4, p0, p1, p2, p3, p4, rfl, rfl, rfl, h0, h1, h2, h3, h4⟩ := trodAll_five hA
  obtain ⟨rfl, rfl⟩ := trodVars_none hV
  obtain ⟨l0, hl0⟩ := ops_arg Try.underlying79 Try.underlying82 (by kernel_rfl) (by kernel_rfl) (by kernel_rfl) h0 (hval 0 79 v0 rfl rfl)
  obtain ⟨x1, rfl, rfl, rfl, hw1⟩ := open_int Try.underlying3 (hval 1 3 v1 rfl rfl) h1
  obtain ⟨x2, rfl, rfl, rfl⟩ := open_bool Try.underlying4 (hval 2 4 v2 rfl rfl) h2
  obtain ⟨l3, hl3⟩ := ints_arg h3 (hval 3 22 v3 rfl rfl)
  obtain ⟨l4, hl4⟩ := ints_argW h4 (hval 4 22 v4 rfl rfl)
  simp only [List.append_nil] at hW'
  refine (walLasts_any hl0 x1 (bounds_i64 hw1) x2 hl3 hl4).mono fun e W' ⟨he, hb⟩ => ?_
  exact ⟨_, he, law_post hW' rfl rfl (by kernel_rfl) (by rw [Try.params13]; intro t ht; simp at ht; rcases ht with rfl | rfl | rfl | rfl | rfl <;> exact ⟨by kernel_rfl, of_decide_eq_true (by kernel_rfl)⟩) hb⟩

theorem walLasts_holds : Rows.WalLastsSaid :=
  OpenClaim.holds_of_wide 13 Try.f13 rfl rfl rfl rfl rfl rfl rfl ⟨rfl, rfl, rfl, rfl, rfl⟩ rfl rfl rfl rfl rfl (by kernel_rfl) Try.func13 (by kernel_rfl)
    (of_decide_eq_true (by kernel_rfl)) (by unfold Func.isWrapper; rw [if_neg (of_decide_eq_false (by kernel_rfl))]; exact ⟨rfl, rfl⟩)
    (fun os started H enc _ => walLasts_lifted os started H enc)
end Go.Proofs.Ytbnoebdpbpjbkaa
