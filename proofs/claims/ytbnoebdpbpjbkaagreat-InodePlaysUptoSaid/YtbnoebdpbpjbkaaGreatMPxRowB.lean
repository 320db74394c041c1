/-
  An argument that is a list of bools, opened.
-/
import Derived.Test.YtbnoebdpbpjbkaaGreatMPxRow
import Derived.Test.YtbnoebdpbpjbkaaGreatMP10
import Derived.Deep.Grids
namespace Go.Proofs.YtbnoebdpbpjbkaaGreat
open Go.ChangeShapes Go.WideShapes Go.ChangeAt Go.RowKit Go.Lz
theorem cells_bool : Tryz.prog.cellsOf 4 = 1 := by kernel_rfl
section
variable {H : Type} {enc : TypeId × Value → H}
end
end Go.Proofs.YtbnoebdpbpjbkaaGreat
