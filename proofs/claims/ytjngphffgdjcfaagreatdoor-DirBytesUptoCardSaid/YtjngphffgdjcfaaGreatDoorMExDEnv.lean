/-
  A card's world, as the walks ask it: the tables of utf8 that are listed, and the variable that is named.
-/
import Derived.Test.YtjngphffgdjcfaaGreatDoorME26
import Derived.Test.YtjngphffgdjcfaaGreatDoorMExRow
import Derived.Test.YtjngphffgdjcfaaGreatDoorRows
import Derived.Test.YtjngphffgdjcfaaGreatDoorCards
import Derived.Test.YtjngphffgdjcfaaGreatDoorTie
import Derived.SevenTiedAt
import Derived.ProofKit
import Derived.LaidMore
import Derived.OpenShut
import Derived.Stop.Joined
import Derived.Lay
import Derived.Carry
import Derived.Lib.LaidU8T
import Derived.Deep.DeepHandedRow
namespace Go.Proofs.YtjngphffgdjcfaaGreatDoor
open Go.ChangeShapes Go.WideShapes Go.ChangeAt Go.RowKit Go.Shelf Go.Lib
set_option maxRecDepth 100000 in
theorem env_of {W : World} {l : List (String × DataW Unit)} (hl : l = [("unicode/utf8.acceptRanges", Rows.laid_unicode_utf8_acceptRanges), ("unicode/utf8.first", Rows.laid_unicode_utf8_first)]) (hL : laidMetH Tryz.prog l W) (hsh : W.ShapedOpen Tryz.prog) : Env W := by
  subst hl
  have htab : Tabs W :=
    utf8Tabs_of_readsT (U8Types.of196 Tryz.laysValid) ⟨by kernel_rfl, by kernel_rfl, by kernel_rfl, by kernel_rfl, by kernel_rfl, by kernel_rfl, by kernel_rfl⟩ (Lib.laidMet.reads hL (.tail _ (.head _))) (Lib.laidMet.reads hL (.head _))
  obtain ⟨m, hm⟩ := Tryz.laysM146.s1_3 W hsh
  have hm' : W.cell? ⟨2, 0, none⟩ = some (.int .i64 m) := hm
  refine ⟨lt_of_cell hm', ⟨m, hm'⟩, fun w' hb => ?_⟩
  have key : ∀ (g j : Nat) (v : Value), W.cell? ⟨g, j, none⟩ = some v → w'.cell? ⟨g, j, none⟩ = some v := fun g j v h => by
    have := hb.block g (lt_of_cell h)
    simp only [World.cell?] at h ⊢
    rw [this]
    exact h
  exact ⟨fun c hc => key _ _ _ (htab.1 c hc), fun i hi => ⟨key _ _ _ (htab.2 i hi).1, key _ _ _ (htab.2 i hi).2⟩⟩
end Go.Proofs.YtjngphffgdjcfaaGreatDoor
