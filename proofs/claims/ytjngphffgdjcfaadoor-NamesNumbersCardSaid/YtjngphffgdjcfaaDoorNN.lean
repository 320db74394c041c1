/-
  NamesNumbers, walked: it answers true. No condition but the closed tables that the row lists, which the way does not read.
-/
import Derived.Test.YtjngphffgdjcfaaDoorProg
import Derived.Test.YtjngphffgdjcfaaDoorRows
import Derived.Test.YtjngphffgdjcfaaDoorCards
import Derived.Test.YtjngphffgdjcfaaDoorTie
import Derived.SevenTiedAt
import Derived.ProofKit
import Derived.LaidMore
import Derived.OpenShut
import Derived.Stop.Joined
import Derived.Lay
import Derived.Carry
import Derived.WalkKit
import Derived.Great.Walk
import Derived.WalkSpells
import Derived.WalkLawsBesides
import Derived.Below
import Derived.Lib.Hide
import Derived.Deep.LoopGhost
import Derived.RegionTactic
import Derived.Deep.CutBlock
import Derived.BigQuiet
import Derived.Deep.QuietTactic
import Derived.Deep.DeepCutAuto
import Derived.Deep.CutRange
namespace Go.Proofs.YtjngphffgdjcfaaDoor
open Go.RowKit

def nums0 : List Int := [0, 1, 2, 3, 4, 5, 10, 11, 12, 50, 60, 61, 62, 63, 64, 65, 70, 72, 73, 74, 75, 76, 77, 78, 79, 80, 83, 64, 16, 128, 64, 256, 8, 32, 256, 512, 1024, 256, 99, 500, 1, 2, 1, 2, 3, 4, 0, 1, 2, 3, 1, 2, 3, 4, 5, 6, 7, 8, 9, 10, 11, 12, 13, 14, 15, 16, 17, 18, 19, 20, 21, 22, 23, 24, 25, 26, 27, 1, 2, 3, 1, 2, 3, 1, 2, 3, 4, 5, 6, 7, 8, 9, 1, 2, 3, 1, 2, 3, 4]
def cells0 : Array Value := (nums0.flatMap fun x => [.int .i64 x, .int .i64 x]).toArray
theorem cells0_get : ∀ k : Nat, k < 99 → cells0[k * 2]? = some (.int .i64 (nums0.getD k 0)) ∧ cells0[k * 2 + 1]? = some (.int .i64 (nums0.getD k 0)) := by
  have h : ∀ (l : List Int) (k : Nat), k < l.length → ((l.flatMap fun x => [Value.int .i64 x, .int .i64 x])[k * 2]? = some (.int .i64 (l.getD k 0)) ∧ (l.flatMap fun x => [Value.int .i64 x, .int .i64 x])[k * 2 + 1]? = some (.int .i64 (l.getD k 0))) := by
    intro l
    induction l with
    | nil => intro k hk; simp at hk
    | cons x l ih =>
      intro k hk
      cases k with
      | zero => simp
      | succ k =>
        have := ih k (by simpa using hk)
        rw [show (k + 1) * 2 = k * 2 + 2 by omega]
        simpa [List.flatMap_cons] using this
  intro k hk
  have := h nums0 k (by simpa [nums0] using hk)
  simpa [cells0] using this

section

set_option maxRecDepth 100000 in
set_option maxHeartbeats 4000000 in
theorem all_any (w : World) : Calls Tryd.prog 6 #[] w fun e w' => e = .returned (.slice (some ⟨w.heap.size, 0, none⟩) 99 99) ∧ w' = w.alloc (.cells cells0 25) := by
  go_enter Tryd.func6, Tryd.ntmps6
  go_upto_region 1 with fail
  go_step
  refine wpList_buildTo rfl 25 _ rfl (some 1) rfl #[.int .i64 0, .int .i64 0] (by as_aux_lemma => kernel_rfl) ?_
  refine wpList_buildTo rfl 25 _ rfl (some 2) rfl #[.int .i64 1, .int .i64 1] (by as_aux_lemma => kernel_rfl) ?_
  refine wpList_buildTo rfl 25 _ rfl (some 3) rfl #[.int .i64 2, .int .i64 2] (by as_aux_lemma => kernel_rfl) ?_
  refine wpList_buildTo rfl 25 _ rfl (some 4) rfl #[.int .i64 3, .int .i64 3] (by as_aux_lemma => kernel_rfl) ?_
  refine wpList_buildTo rfl 25 _ rfl (some 5) rfl #[.int .i64 4, .int .i64 4] (by as_aux_lemma => kernel_rfl) ?_
  refine wpList_buildTo rfl 25 _ rfl (some 6) rfl #[.int .i64 5, .int .i64 5] (by as_aux_lemma => kernel_rfl) ?_
  refine wpList_buildTo rfl 25 _ rfl (some 7) rfl #[.int .i64 10, .int .i64 10] (by as_aux_lemma => kernel_rfl) ?_
  refine wpList_buildTo rfl 25 _ rfl (some 8) rfl #[.int .i64 11, .int .i64 11] (by as_aux_lemma => kernel_rfl) ?_
  refine wpList_buildTo rfl 25 _ rfl (some 9) rfl #[.int .i64 12, .int .i64 12] (by as_aux_lemma => kernel_rfl) ?_
  refine wpList_buildTo rfl 25 _ rfl (some 10) rfl #[.int .i64 50, .int .i64 50] (by as_aux_lemma => kernel_rfl) ?_
  refine wpList_buildTo rfl 25 _ rfl (some 11) rfl #[.int .i64 60, .int .i64 60] (by as_aux_lemma => kernel_rfl) ?_
  refine wpList_buildTo rfl 25 _ rfl (some 12) rfl #[.int .i64 61, .int .i64 61] (by as_aux_lemma => kernel_rfl) ?_
  refine wpList_buildTo rfl 25 _ rfl (some 13) rfl #[.int .i64 62, .int .i64 62] (by as_aux_lemma => kernel_rfl) ?_
  refine wpList_buildTo rfl 25 _ rfl (some 14) rfl #[.int .i64 63, .int .i64 63] (by as_aux_lemma => kernel_rfl) ?_
  refine wpList_buildTo rfl 25 _ rfl (some 15) rfl #[.int .i64 64, .int .i64 64] (by as_aux_lemma => kernel_rfl) ?_
  refine wpList_buildTo rfl 25 _ rfl (some 16) rfl #[.int .i64 65, .int .i64 65] (by as_aux_lemma => kernel_rfl) ?_
  refine wpList_buildTo rfl 25 _ rfl (some 17) rfl #[.int .i64 70, .int .i64 70] (by as_aux_lemma => kernel_rfl) ?_
  refine wpList_buildTo rfl 25 _ rfl (some 18) rfl #[.int .i64 72, .int .i64 72] (by as_aux_lemma => kernel_rfl) ?_
  refine wpList_buildTo rfl 25 _ rfl (some 19) rfl #[.int .i64 73, .int .i64 73] (by as_aux_lemma => kernel_rfl) ?_
  refine wpList_buildTo rfl 25 _ rfl (some 20) rfl #[.int .i64 74, .int .i64 74] (by as_aux_lemma => kernel_rfl) ?_
  refine wpList_buildTo rfl 25 _ rfl (some 21) rfl #[.int .i64 75, .int .i64 75] (by as_aux_lemma => kernel_rfl) ?_
  refine wpList_buildTo rfl 25 _ rfl (some 22) rfl #[.int .i64 76, .int .i64 76] (by as_aux_lemma => kernel_rfl) ?_
  refine wpList_buildTo rfl 25 _ rfl (some 23) rfl #[.int .i64 77, .int .i64 77] (by as_aux_lemma => kernel_rfl) ?_
  refine wpList_buildTo rfl 25 _ rfl (some 24) rfl #[.int .i64 78, .int .i64 78] (by as_aux_lemma => kernel_rfl) ?_
  refine wpList_buildTo rfl 25 _ rfl (some 25) rfl #[.int .i64 79, .int .i64 79] (by as_aux_lemma => kernel_rfl) ?_
  refine wpList_buildTo rfl 25 _ rfl (some 26) rfl #[.int .i64 80, .int .i64 80] (by as_aux_lemma => kernel_rfl) ?_
  refine wpList_buildTo rfl 25 _ rfl (some 27) rfl #[.int .i64 83, .int .i64 83] (by as_aux_lemma => kernel_rfl) ?_
  refine wpList_buildTo rfl 25 _ rfl (some 28) rfl #[.int .i64 64, .int .i64 64] (by as_aux_lemma => kernel_rfl) ?_
  refine wpList_buildTo rfl 25 _ rfl (some 29) rfl #[.int .i64 16, .int .i64 16] (by as_aux_lemma => kernel_rfl) ?_
  refine wpList_buildTo rfl 25 _ rfl (some 30) rfl #[.int .i64 128, .int .i64 128] (by as_aux_lemma => kernel_rfl) ?_
  refine wpList_buildTo rfl 25 _ rfl (some 31) rfl #[.int .i64 64, .int .i64 64] (by as_aux_lemma => kernel_rfl) ?_
  refine wpList_buildTo rfl 25 _ rfl (some 32) rfl #[.int .i64 256, .int .i64 256] (by as_aux_lemma => kernel_rfl) ?_
  refine wpList_buildTo rfl 25 _ rfl (some 33) rfl #[.int .i64 8, .int .i64 8] (by as_aux_lemma => kernel_rfl) ?_
  refine wpList_buildTo rfl 25 _ rfl (some 34) rfl #[.int .i64 32, .int .i64 32] (by as_aux_lemma => kernel_rfl) ?_
  refine wpList_buildTo rfl 25 _ rfl (some 35) rfl #[.int .i64 256, .int .i64 256] (by as_aux_lemma => kernel_rfl) ?_
  refine wpList_buildTo rfl 25 _ rfl (some 36) rfl #[.int .i64 512, .int .i64 512] (by as_aux_lemma => kernel_rfl) ?_
  refine wpList_buildTo rfl 25 _ rfl (some 37) rfl #[.int .i64 1024, .int .i64 1024] (by as_aux_lemma => kernel_rfl) ?_
  refine wpList_buildTo rfl 25 _ rfl (some 38) rfl #[.int .i64 256, .int .i64 256] (by as_aux_lemma => kernel_rfl) ?_
  refine wpList_buildTo rfl 25 _ rfl (some 39) rfl #[.int .i64 99, .int .i64 99] (by as_aux_lemma => kernel_rfl) ?_
  refine wpList_buildTo rfl 25 _ rfl (some 40) rfl #[.int .i64 500, .int .i64 500] (by as_aux_lemma => kernel_rfl) ?_
  refine wpList_buildTo rfl 25 _ rfl (some 41) rfl #[.int .i64 1, .int .i64 1] (by as_aux_lemma => kernel_rfl) ?_
  refine wpList_buildTo rfl 25 _ rfl (some 42) rfl #[.int .i64 2, .int .i64 2] (by as_aux_lemma => kernel_rfl) ?_
  refine wpList_buildTo rfl 25 _ rfl (some 43) rfl #[.int .i64 1, .int .i64 1] (by as_aux_lemma => kernel_rfl) ?_
  refine wpList_buildTo rfl 25 _ rfl (some 44) rfl #[.int .i64 2, .int .i64 2] (by as_aux_lemma => kernel_rfl) ?_
  refine wpList_buildTo rfl 25 _ rfl (some 45) rfl #[.int .i64 3, .int .i64 3] (by as_aux_lemma => kernel_rfl) ?_
  refine wpList_buildTo rfl 25 _ rfl (some 46) rfl #[.int .i64 4, .int .i64 4] (by as_aux_lemma => kernel_rfl) ?_
  refine wpList_buildTo rfl 25 _ rfl (some 47) rfl #[.int .i64 0, .int .i64 0] (by as_aux_lemma => kernel_rfl) ?_
  refine wpList_buildTo rfl 25 _ rfl (some 48) rfl #[.int .i64 1, .int .i64 1] (by as_aux_lemma => kernel_rfl) ?_
  refine wpList_buildTo rfl 25 _ rfl (some 49) rfl #[.int .i64 2, .int .i64 2] (by as_aux_lemma => kernel_rfl) ?_
  refine wpList_buildTo rfl 25 _ rfl (some 50) rfl #[.int .i64 3, .int .i64 3] (by as_aux_lemma => kernel_rfl) ?_
  refine wpList_buildTo rfl 25 _ rfl (some 51) rfl #[.int .i64 1, .int .i64 1] (by as_aux_lemma => kernel_rfl) ?_
  refine wpList_buildTo rfl 25 _ rfl (some 52) rfl #[.int .i64 2, .int .i64 2] (by as_aux_lemma => kernel_rfl) ?_
  refine wpList_buildTo rfl 25 _ rfl (some 53) rfl #[.int .i64 3, .int .i64 3] (by as_aux_lemma => kernel_rfl) ?_
  refine wpList_buildTo rfl 25 _ rfl (some 54) rfl #[.int .i64 4, .int .i64 4] (by as_aux_lemma => kernel_rfl) ?_
  refine wpList_buildTo rfl 25 _ rfl (some 55) rfl #[.int .i64 5, .int .i64 5] (by as_aux_lemma => kernel_rfl) ?_
  refine wpList_buildTo rfl 25 _ rfl (some 56) rfl #[.int .i64 6, .int .i64 6] (by as_aux_lemma => kernel_rfl) ?_
  refine wpList_buildTo rfl 25 _ rfl (some 57) rfl #[.int .i64 7, .int .i64 7] (by as_aux_lemma => kernel_rfl) ?_
  refine wpList_buildTo rfl 25 _ rfl (some 58) rfl #[.int .i64 8, .int .i64 8] (by as_aux_lemma => kernel_rfl) ?_
  refine wpList_buildTo rfl 25 _ rfl (some 59) rfl #[.int .i64 9, .int .i64 9] (by as_aux_lemma => kernel_rfl) ?_
  refine wpList_buildTo rfl 25 _ rfl (some 60) rfl #[.int .i64 10, .int .i64 10] (by as_aux_lemma => kernel_rfl) ?_
  refine wpList_buildTo rfl 25 _ rfl (some 61) rfl #[.int .i64 11, .int .i64 11] (by as_aux_lemma => kernel_rfl) ?_
  refine wpList_buildTo rfl 25 _ rfl (some 62) rfl #[.int .i64 12, .int .i64 12] (by as_aux_lemma => kernel_rfl) ?_
  refine wpList_buildTo rfl 25 _ rfl (some 63) rfl #[.int .i64 13, .int .i64 13] (by as_aux_lemma => kernel_rfl) ?_
  refine wpList_buildTo rfl 25 _ rfl (some 64) rfl #[.int .i64 14, .int .i64 14] (by as_aux_lemma => kernel_rfl) ?_
  refine wpList_buildTo rfl 25 _ rfl (some 65) rfl #[.int .i64 15, .int .i64 15] (by as_aux_lemma => kernel_rfl) ?_
  refine wpList_buildTo rfl 25 _ rfl (some 66) rfl #[.int .i64 16, .int .i64 16] (by as_aux_lemma => kernel_rfl) ?_
  refine wpList_buildTo rfl 25 _ rfl (some 67) rfl #[.int .i64 17, .int .i64 17] (by as_aux_lemma => kernel_rfl) ?_
  refine wpList_buildTo rfl 25 _ rfl (some 68) rfl #[.int .i64 18, .int .i64 18] (by as_aux_lemma => kernel_rfl) ?_
  refine wpList_buildTo rfl 25 _ rfl (some 69) rfl #[.int .i64 19, .int .i64 19] (by as_aux_lemma => kernel_rfl) ?_
  refine wpList_buildTo rfl 25 _ rfl (some 70) rfl #[.int .i64 20, .int .i64 20] (by as_aux_lemma => kernel_rfl) ?_
  refine wpList_buildTo rfl 25 _ rfl (some 71) rfl #[.int .i64 21, .int .i64 21] (by as_aux_lemma => kernel_rfl) ?_
  refine wpList_buildTo rfl 25 _ rfl (some 72) rfl #[.int .i64 22, .int .i64 22] (by as_aux_lemma => kernel_rfl) ?_
  refine wpList_buildTo rfl 25 _ rfl (some 73) rfl #[.int .i64 23, .int .i64 23] (by as_aux_lemma => kernel_rfl) ?_
  refine wpList_buildTo rfl 25 _ rfl (some 74) rfl #[.int .i64 24, .int .i64 24] (by as_aux_lemma => kernel_rfl) ?_
  refine wpList_buildTo rfl 25 _ rfl (some 75) rfl #[.int .i64 25, .int .i64 25] (by as_aux_lemma => kernel_rfl) ?_
  refine wpList_buildTo rfl 25 _ rfl (some 76) rfl #[.int .i64 26, .int .i64 26] (by as_aux_lemma => kernel_rfl) ?_
  refine wpList_buildTo rfl 25 _ rfl (some 77) rfl #[.int .i64 27, .int .i64 27] (by as_aux_lemma => kernel_rfl) ?_
  refine wpList_buildTo rfl 25 _ rfl (some 78) rfl #[.int .i64 1, .int .i64 1] (by as_aux_lemma => kernel_rfl) ?_
  refine wpList_buildTo rfl 25 _ rfl (some 79) rfl #[.int .i64 2, .int .i64 2] (by as_aux_lemma => kernel_rfl) ?_
  refine wpList_buildTo rfl 25 _ rfl (some 80) rfl #[.int .i64 3, .int .i64 3] (by as_aux_lemma => kernel_rfl) ?_
  refine wpList_buildTo rfl 25 _ rfl (some 81) rfl #[.int .i64 1, .int .i64 1] (by as_aux_lemma => kernel_rfl) ?_
  refine wpList_buildTo rfl 25 _ rfl (some 82) rfl #[.int .i64 2, .int .i64 2] (by as_aux_lemma => kernel_rfl) ?_
  refine wpList_buildTo rfl 25 _ rfl (some 83) rfl #[.int .i64 3, .int .i64 3] (by as_aux_lemma => kernel_rfl) ?_
  refine wpList_buildTo rfl 25 _ rfl (some 84) rfl #[.int .i64 1, .int .i64 1] (by as_aux_lemma => kernel_rfl) ?_
  refine wpList_buildTo rfl 25 _ rfl (some 85) rfl #[.int .i64 2, .int .i64 2] (by as_aux_lemma => kernel_rfl) ?_
  refine wpList_buildTo rfl 25 _ rfl (some 86) rfl #[.int .i64 3, .int .i64 3] (by as_aux_lemma => kernel_rfl) ?_
  refine wpList_buildTo rfl 25 _ rfl (some 87) rfl #[.int .i64 4, .int .i64 4] (by as_aux_lemma => kernel_rfl) ?_
  refine wpList_buildTo rfl 25 _ rfl (some 88) rfl #[.int .i64 5, .int .i64 5] (by as_aux_lemma => kernel_rfl) ?_
  refine wpList_buildTo rfl 25 _ rfl (some 89) rfl #[.int .i64 6, .int .i64 6] (by as_aux_lemma => kernel_rfl) ?_
  refine wpList_buildTo rfl 25 _ rfl (some 90) rfl #[.int .i64 7, .int .i64 7] (by as_aux_lemma => kernel_rfl) ?_
  refine wpList_buildTo rfl 25 _ rfl (some 91) rfl #[.int .i64 8, .int .i64 8] (by as_aux_lemma => kernel_rfl) ?_
  refine wpList_buildTo rfl 25 _ rfl (some 92) rfl #[.int .i64 9, .int .i64 9] (by as_aux_lemma => kernel_rfl) ?_
  refine wpList_buildTo rfl 25 _ rfl (some 93) rfl #[.int .i64 1, .int .i64 1] (by as_aux_lemma => kernel_rfl) ?_
  refine wpList_buildTo rfl 25 _ rfl (some 94) rfl #[.int .i64 2, .int .i64 2] (by as_aux_lemma => kernel_rfl) ?_
  refine wpList_buildTo rfl 25 _ rfl (some 95) rfl #[.int .i64 3, .int .i64 3] (by as_aux_lemma => kernel_rfl) ?_
  refine wpList_buildTo rfl 25 _ rfl (some 96) rfl #[.int .i64 1, .int .i64 1] (by as_aux_lemma => kernel_rfl) ?_
  refine wpList_buildTo rfl 25 _ rfl (some 97) rfl #[.int .i64 2, .int .i64 2] (by as_aux_lemma => kernel_rfl) ?_
  refine wpList_buildTo rfl 25 _ rfl (some 98) rfl #[.int .i64 3, .int .i64 3] (by as_aux_lemma => kernel_rfl) ?_
  refine wpList_buildTo rfl 25 _ rfl (some 99) rfl #[.int .i64 4, .int .i64 4] (by as_aux_lemma => kernel_rfl) ?_
  refine Great.wpList_buildSliceTo rfl 22 25 99 _ rfl w.heap.size rfl (some 100) rfl (by as_aux_lemma => kernel_rfl) cells0 (by as_aux_lemma => kernel_rfl) ?_
  go_wp2
  go_ret
  exact ⟨rfl, rfl⟩
end
set_option maxRecDepth 100000 in
theorem small_70 (w : World) : Calls Tryd.prog 29 #[.int .i64 70] w fun e w' => e = .returned (.string ⟨#[55, 48]⟩) ∧ w = w' := by
  go_enter Tryd.func29, Tryd.ntmps29
  go_wp2
  go_ret
  exact ⟨rfl, rfl⟩
set_option maxRecDepth 100000 in
theorem small_0 (w : World) : Calls Tryd.prog 29 #[.int .i64 0] w fun e w' => e = .returned (.string ⟨#[48]⟩) ∧ w = w' := by
  go_enter Tryd.func29, Tryd.ntmps29
  go_wp2
  go_ret
  exact ⟨rfl, rfl⟩
theorem format_70 (w : World) : Calls Tryd.prog 24 #[.int .i64 70, .int .i64 10] w fun e w' => e = .returned (.string ⟨#[55, 48]⟩) ∧ w = w' := by
  go_enter Tryd.func24, Tryd.ntmps24
  go_wp2_with (go_at_call 29; refine (small_70 _).mono ?_; rintro e w' ⟨rfl, rfl⟩)
  go_ret
  exact ⟨rfl, rfl⟩
theorem iitoa_70 (w : World) : Calls Tryd.prog 19 #[.int .i64 70] w fun e w' => e = .returned (.string ⟨#[55, 48]⟩) ∧ w = w' := by
  go_enter Tryd.func19, Tryd.ntmps19
  go_wp2_with (go_at_call 24; refine (format_70 _).mono ?_; rintro e w' ⟨rfl, rfl⟩)
  go_ret
  exact ⟨rfl, rfl⟩
theorem itoa_70 (w : World) : Calls Tryd.prog 13 #[.int .i64 70] w fun e w' => e = .returned (.string ⟨#[55, 48]⟩) ∧ w = w' := by
  go_enter Tryd.func13, Tryd.ntmps13
  go_wp2_with (go_at_call 19; refine (iitoa_70 _).mono ?_; rintro e w' ⟨rfl, rfl⟩)
  go_ret
  exact ⟨rfl, rfl⟩
theorem format_0 (w : World) : Calls Tryd.prog 24 #[.int .i64 0, .int .i64 10] w fun e w' => e = .returned (.string ⟨#[48]⟩) ∧ w = w' := by
  go_enter Tryd.func24, Tryd.ntmps24
  go_wp2_with (go_at_call 29; refine (small_0 _).mono ?_; rintro e w' ⟨rfl, rfl⟩)
  go_ret
  exact ⟨rfl, rfl⟩
theorem iitoa_0 (w : World) : Calls Tryd.prog 19 #[.int .i64 0] w fun e w' => e = .returned (.string ⟨#[48]⟩) ∧ w = w' := by
  go_enter Tryd.func19, Tryd.ntmps19
  go_wp2_with (go_at_call 24; refine (format_0 _).mono ?_; rintro e w' ⟨rfl, rfl⟩)
  go_ret
  exact ⟨rfl, rfl⟩
theorem itoa_0 (w : World) : Calls Tryd.prog 13 #[.int .i64 0] w fun e w' => e = .returned (.string ⟨#[48]⟩) ∧ w = w' := by
  go_enter Tryd.func13, Tryd.ntmps13
  go_wp2_with (go_at_call 19; refine (iitoa_0 _).mono ?_; rintro e w' ⟨rfl, rfl⟩)
  go_ret
  exact ⟨rfl, rfl⟩
theorem error_70 (w : World) : Calls Tryd.prog 7 #[.int .i64 70] w fun e w' => e = .returned (.string ⟨#[101, 114, 114, 111, 114, 32, 55, 48]⟩) ∧ w = w' := by
  go_enter Tryd.func7, Tryd.ntmps7
  go_wp2_with (go_at_call 13; refine (itoa_70 _).mono ?_; rintro e w' ⟨rfl, rfl⟩)
  go_ret
  exact ⟨rfl, rfl⟩
theorem error_0 (w : World) : Calls Tryd.prog 7 #[.int .i64 0] w fun e w' => e = .returned (.string ⟨#[101, 114, 114, 111, 114, 32, 48]⟩) ∧ w = w' := by
  go_enter Tryd.func7, Tryd.ntmps7
  go_wp2_with (go_at_call 13; refine (itoa_0 _).mono ?_; rintro e w' ⟨rfl, rfl⟩)
  go_ret
  exact ⟨rfl, rfl⟩
theorem cell_at0 {w wr : World} (hnew : wr.heap[w.heap.size]? = some (.cells cells0 25 (0, 0))) (k : Nat) (hk : k < 99) : wr.cell? ⟨w.heap.size, k * 2, none⟩ = some (.int .i64 (nums0.getD k 0)) ∧ wr.cell? ⟨w.heap.size, k * 2 + 1, none⟩ = some (.int .i64 (nums0.getD k 0)) := by
  have := cells0_get k hk
  constructor
  · simpa [World.cell?, hnew] using this.1
  · simpa [World.cell?, hnew] using this.2
set_option maxRecDepth 100000 in
set_option maxHeartbeats 4000000 in
theorem names_any (w : World) : Calls Tryd.prog 3 #[] w fun e w' => e = .returned (.bool true) ∧ Below w.heap.size w w' := by
  go_enter Tryd.func3, Tryd.ntmps3
  go_wp2_with (go_at_call 6; refine (all_any _).mono ?_; rintro e w' ⟨rfl, rfl⟩)
  have hnew : (w.alloc (.cells cells0 25)).heap[w.heap.size]? = some (.cells cells0 25 (0, 0)) := heap_alloc_new w _
  have hbl : Below w.heap.size w (w.alloc (.cells cells0 25)) := (Below.refl _ w).alloc (Nat.le_refl _) _
  generalize w.alloc (.cells cells0 25) = wa at hnew hbl ⊢
  go_loopg [2] 99 (fun g iv wr => ∃ i : Nat, i + g = 99 ∧ iv = .int .i64 (i : Int) ∧ wr.heap[w.heap.size]? = some (.cells cells0 25 (0, 0)) ∧ Below w.heap.size w wr)
  case atStart => exact ⟨0, by omega, rfl, hnew, hbl⟩
  case round =>
    obtain ⟨i, hi, rfl, hw, hbw⟩ := hrel
    rename World => wr

    by_cases hlt : i < 99
    · have hc := cell_at0 hw i hlt
      have hc1 := hc.1
      have hc2 := hc.2
      have hi1 : (i : Int) < 99 := by omega
      have hi0 : (0 : Int) ≤ (i : Int) := by omega
      generalize nums0.getD i 0 = y at hc1 hc2
      clear hc
      go_wp2_with fail
      refine wp_region_quiet (C := fun W => W = wr.drew) (by kernel_rfl) (by kernel_rfl) rfl ?_
      repeat (any_goals (first | go_big_quiet_step (fail) | quiet_step (fail)))
      refine wpQuiet_nil ?_
      rintro _ rfl
      go_wp2_with fail
      go_roundg (gk - 1)
      case measure => omega
      case rel => exact ⟨i + 1, by omega, rfl, hw, hbw.drew⟩
    · have hi1 : ¬ (i : Int) < 99 := by omega
      go_wp2_with (go_at_call 7; first | (refine (error_70 _).mono ?_; rintro e w' ⟨rfl, rfl⟩) | (refine (error_0 _).mono ?_; rintro e w' ⟨rfl, rfl⟩))
      go_ret
      exact ⟨rfl, hbw⟩
open Go.ChangeShapes Go.WideShapes Go.ChangeAt Go.RowKit

theorem prog_own : ownKnob Tryd.prog.godebug = none := by kernel_rfl

set_option maxRecDepth 100000 in
theorem namesNumbers_lifted (os : Os) (started : os.Started) (H : Type) (enc : TypeId × Value → H) :
    ReturnsInHanded {} Tryd.checked os 3 .any (fun w args => (Rows.namesNumbersSpec.pre enc Tryd.prog Tryd.f3 [] false w args ∧ laidMetH Tryd.prog Rows.namesNumbersRow.laid w) ∧ sizedMet enc Tryd.prog Tryd.f3 (OpenSpec.ofChange Rows.namesNumbersSpec) false w args)
      (Rows.namesNumbersSpec.post enc Tryd.prog Tryd.f3 false true false false) := by
  refine returnsInHanded_of_change_and (C := Tryd.checked) (X := fun w _ => laidMetH Tryd.prog Rows.namesNumbersRow.laid w) (fun _ _ _ hh h => h.of_heap hh) prog_own started (by kernel_rfl) Tryd.func3
    (ChangeSpec.witness_shaped (enc := enc) (C := Tryd.checked) (os := os) (X := fun w _ => laidMetH Tryd.prog Rows.namesNumbersRow.laid w) false (World.laidAll Tryd.prog os Rows.namesNumbersRow.laid) #[] 8 rfl (World.shaped_of_ZipB (by kernel_rfl) (by kernel_rfl)) (by kernel_rfl) (by kernel_rfl) (by kernel_rfl)
      (laidMetH_of_parts3 (fuel := 8) (laidMet_laidAll _ (by kernel_rfl) (by kernel_rfl)) (by kernel_rfl) (by kernel_rfl))) ?_
  intro W base args ds gs before hval0 hW _ _ hL _
  have hW' := hW
  obtain ⟨p, q, hA0, hV, rfl, hfz, hnd⟩ := hW
  have hA : DataW.TrodAll enc Tryd.prog W 0 (fun _ => true) true Tryd.f3.params.toList args.toList ds p := hA0
  rw [Tryd.params3] at hA
  obtain ⟨rfl, rfl⟩ := trodVars_none hV
  obtain ⟨rfl, rfl, rfl⟩ : args = #[] ∧ ds = [] ∧ p = [] := by
    obtain ⟨l⟩ := args
    cases l <;> cases ds <;> first | exact ⟨rfl, rfl, hA⟩ | exact hA.elim
  simp only [List.append_nil] at hW'
  refine (names_any W).mono fun e W' ⟨he, hb⟩ => ?_
  refine ⟨_, he, ?_⟩
  exact ⟨[], [], _, [], [], [], hW', by rw [show Tryd.f3.resultTypes = #[4] by kernel_rfl]; exact trodAll_mk1 (shut_bool Tryd.underlying4 _), rfl, rfl, hb.frame _, fun h => by cases h⟩

theorem namesNumbers_said : Rows.NamesNumbersSaid :=
  OpenClaim.holds_of_wide 3 Tryd.f3 rfl rfl rfl rfl rfl rfl rfl ⟨rfl, rfl, rfl, rfl, rfl⟩ rfl rfl rfl rfl rfl (by kernel_rfl) Tryd.func3 (by kernel_rfl)
    (of_decide_eq_true (by kernel_rfl)) (by unfold Func.isWrapper; first | (rw [if_pos (by decide +kernel)]; kernel_rfl) | (rw [if_neg (by decide +kernel)]; exact ⟨rfl, rfl⟩))
    (fun os started H enc _ => namesNumbers_lifted os started H enc)

theorem namesNumbers_holds : Rows.NamesNumbersCardSaid :=
  Claim7.holds_tied_plain_at .later [] [.data, .data, .data] true (true, "9003db9e297c4311b6fab14d565c57d909cf4d160c8b7c0253a90ec045fd9526") false
    namesNumbers_said (fun _ h => by cases h) (by kernel_rfl) (fun _ h => by cases h) namesNumbers_row_tie rfl ⟨rfl, rfl⟩ (by kernel_rfl) rfl
    (fun f fn hf hfn => by
      obtain rfl : f = 3 := Option.some.inj ((show Tryd.prog.funcNamed "lazaret/lazaretlaw0.NamesNumbers" = some 3 by kernel_rfl).symm.trans hf) |>.symm
      obtain rfl : fn = Tryd.f3 := (Option.some.inj (Tryd.func3.symm.trans hfn)).symm
      exact ⟨by kernel_rfl, fun j t ht => by
        rw [Tryd.params3] at ht
        simp at ht⟩)
    (by kernel_rfl)
end Go.Proofs.YtjngphffgdjcfaaDoor
