/-
  WalPlays returns true for every script, and leaves its argument as it was. No condition.
-/
import Derived.Test.YtbnoebdpbpjbkaaPlaysW
import Derived.Test.YtbnoebdpbpjbkaaRowO
import Derived.ProofKit
import Derived.Carry
namespace Go.Proofs.Ytbnoebdpbpjbkaa
open Go.ChangeShapes Go.WideShapes Go.ChangeAt Go.RowKit Go.Lz

set_option maxRecDepth 100000 in
theorem walPlays_lifted (os : Os) (started : os.Started) (H : Type) (enc : TypeId × Value → H) :
    ReturnsInHanded {} Try.checked os 12 .any (Rows.walPlaysSpec.pre6 enc Try.prog Try.f12 Rows.walPlaysRow.domain false) (Rows.walPlaysSpec.post enc Try.prog Try.f12 false true false false) := by
  refine returnsInHanded_of_change (C := Try.checked) prog_own started (by kernel_rfl) Try.func12
    (ChangeSpec.witness6 (enc := enc) (C := Try.checked) false ⟨#[], #[.slice none 0 0], []⟩ 8 (by kernel_rfl) (by kernel_rfl) (by kernel_rfl) (by kernel_rfl)) ?_
  intro W base args ds gs before hval0 hW hcnd _
  have hval : ∀ (j : Nat) t v, Try.f12.params[j]? = some t → args[j]? = some v → Value.okWide Try.prog W .any base t v := hval0
  have hW' := hW
  obtain ⟨p, q, hA0, hV, rfl, hfz, hnd⟩ := hW
  have hA : DataW.TrodAll enc Try.prog W 0 (fun _ => true) true Try.f12.params.toList args.toList ds p := hA0
  rw [Try.params12] at hA hval
  obtain ⟨v0, d0, rfl, rfl, h0⟩ := trodAll_one hA
  obtain ⟨rfl, rfl⟩ := trodVars_none hV
  obtain ⟨l0, hl0⟩ := ops_arg Try.underlying79 Try.underlying82 (by kernel_rfl) (by kernel_rfl) (by kernel_rfl) h0 (hval 0 79 v0 rfl rfl)
  simp only [List.append_nil] at hW'
  refine (walPlays_any hl0).mono fun e W' ⟨he, hb⟩ => ?_
  exact ⟨_, he, law_post hW' rfl rfl (by kernel_rfl) (by rw [Try.params12]; intro t ht; simp at ht; rcases ht with rfl <;> exact ⟨by kernel_rfl, of_decide_eq_true (by kernel_rfl)⟩) hb⟩

theorem walPlays_holds : Rows.WalPlaysSaid :=
  OpenClaim.holds_of_wide 12 Try.f12 rfl rfl rfl rfl rfl rfl rfl ⟨rfl, rfl, rfl, rfl, rfl⟩ rfl rfl rfl rfl rfl (by kernel_rfl) Try.func12 (by kernel_rfl)
    (of_decide_eq_true (by kernel_rfl)) (by unfold Func.isWrapper; rw [if_neg (of_decide_eq_false (by kernel_rfl))]; exact ⟨rfl, rfl⟩)
    (fun os started H enc _ => walPlays_lifted os started H enc)
end Go.Proofs.Ytbnoebdpbpjbkaa
