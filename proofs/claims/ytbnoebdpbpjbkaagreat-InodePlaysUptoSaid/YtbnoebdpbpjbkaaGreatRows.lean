/-
  No cell of these rows narrows 'for every input' (looked for: loops, veiled, ifaces, maps, wideKeys, modest, calm, conditions, laid).
  DERIVED. THE GIVEN ROWS OF THIS SEAT. 4 by the template 'for every input the law returns true; each argument reads behind the call as it read before'; 0 by the template 'total and deterministic' (their statements: YtbnoebdpbpjbkaaGreatTotals.lean).
  GIVEN WITH THE SEED: the statements are not yours to turn. If you find one false, say at which input.
  Laid BY PROGRAM, IN A SANDBOX (cutbox-rows.mjs): the forced cells as the released guide's own fill.sh prints them over the translation b4a9df46037a1501… (all of the seat's roots in one cut). By AI agents, Wed Nov 11 2026. No macro, syntax, notation, axiom, sorry.
-/
import Derived.Test.YtbnoebdpbpjbkaaGreatChecked
import GoSem.Claim
import GoSem.ClaimJoined
import GoSem.ClaimMapViews
import Derived.JoinedTies
import Derived.KernelRfl
namespace Go.Proofs.YtbnoebdpbpjbkaaGreat
/- THE CELL 'sum', in the pinned program and in every row, IS THE sha256 OF THE DUMP (.gsa) THAT YtbnoebdpbpjbkaaGreatProg.lean LOADS. Nothing in Lean hashes anything: it is a label: what it is worth is what the hold of that sum in a sandbox is worth. -/
noncomputable def Tryz.pinned : Pinned := { name := "ytbnoebdpbpjbkaagreat", sum := "b4a9df46037a1501b3581726f6ff56916b278a7eeb8fe0db065d246d1b9401d6", checked := Tryz.checked }
namespace Rows
def none {H : Type} : Left H := { results := [], args := [] }

/-- 'lazaretlaw6.InodeFull': WHATEVER THE INPUT: true; the input reads as it did. -/
def inodeFullSpec : ChangeSpec := { name := "inodeFull", fn := fun _ => fun
  | [d1, d2] => { results := [.lit (.bool true)], args := [d1, d2] }
  | _ => none }
def inodeFullRow : OpenClaim := { program := "ytbnoebdpbpjbkaagreat", sum := "b4a9df46037a1501b3581726f6ff56916b278a7eeb8fe0db065d246d1b9401d6", func := "lazaret/lazaretlaw6.InodeFull", spec := "inodeFull", unfollowed := true, recurses := true, apart := false }
def InodeFullSaid : Prop := inodeFullRow.holds Tryz.pinned (OpenSpec.ofChange inodeFullSpec)

/-- ITS FALSE NEIGHBOUR: 'it returns false'. Refute it at one input. -/
def inodeFullWrong : ChangeSpec := { name := "inodeFull", fn := fun _ => fun
  | [d1, d2] => { results := [.lit (.bool false)], args := [d1, d2] }
  | _ => none }
def InodeFullWrongFalsely : Prop := inodeFullRow.holds Tryz.pinned (OpenSpec.ofChange inodeFullWrong)

/-- 'lazaretlaw6.InodeFrees': WHATEVER THE INPUT: true; the input reads as it did. -/
def inodeFreesSpec : ChangeSpec := { name := "inodeFrees", fn := fun _ => fun
  | [d1, d2] => { results := [.lit (.bool true)], args := [d1, d2] }
  | _ => none }
def inodeFreesRow : OpenClaim := { program := "ytbnoebdpbpjbkaagreat", sum := "b4a9df46037a1501b3581726f6ff56916b278a7eeb8fe0db065d246d1b9401d6", func := "lazaret/lazaretlaw6.InodeFrees", spec := "inodeFrees", unfollowed := true, recurses := true, apart := false }
def InodeFreesSaid : Prop := inodeFreesRow.holds Tryz.pinned (OpenSpec.ofChange inodeFreesSpec)

/-- ITS FALSE NEIGHBOUR: 'it returns false'. Refute it at one input. -/
def inodeFreesWrong : ChangeSpec := { name := "inodeFrees", fn := fun _ => fun
  | [d1, d2] => { results := [.lit (.bool false)], args := [d1, d2] }
  | _ => none }
def InodeFreesWrongFalsely : Prop := inodeFreesRow.holds Tryz.pinned (OpenSpec.ofChange inodeFreesWrong)

/-- 'lazaretlaw6.InodeAgain': WHATEVER THE INPUT: true; the input reads as it did. -/
def inodeAgainSpec : ChangeSpec := { name := "inodeAgain", fn := fun _ => fun
  | [d] => { results := [.lit (.bool true)], args := [d] }
  | _ => none }
def inodeAgainRow : OpenClaim := { program := "ytbnoebdpbpjbkaagreat", sum := "b4a9df46037a1501b3581726f6ff56916b278a7eeb8fe0db065d246d1b9401d6", func := "lazaret/lazaretlaw6.InodeAgain", spec := "inodeAgain", unfollowed := true, recurses := true, apart := false }
def InodeAgainSaid : Prop := inodeAgainRow.holds Tryz.pinned (OpenSpec.ofChange inodeAgainSpec)

/-- ITS FALSE NEIGHBOUR: 'it returns false'. Refute it at one input. -/
def inodeAgainWrong : ChangeSpec := { name := "inodeAgain", fn := fun _ => fun
  | [d] => { results := [.lit (.bool false)], args := [d] }
  | _ => none }
def InodeAgainWrongFalsely : Prop := inodeAgainRow.holds Tryz.pinned (OpenSpec.ofChange inodeAgainWrong)

/-- 'lazaretlaw6.InodePlays': WHATEVER THE INPUT: true; the input reads as it did. -/
def inodePlaysSpec : ChangeSpec := { name := "inodePlays", fn := fun _ => fun
  | [d] => { results := [.lit (.bool true)], args := [d] }
  | _ => none }
def inodePlaysRow : OpenClaim := { program := "ytbnoebdpbpjbkaagreat", sum := "b4a9df46037a1501b3581726f6ff56916b278a7eeb8fe0db065d246d1b9401d6", func := "lazaret/lazaretlaw6.InodePlays", spec := "inodePlays", unfollowed := true, recurses := true, apart := false }
def InodePlaysSaid : Prop := inodePlaysRow.holds Tryz.pinned (OpenSpec.ofChange inodePlaysSpec)

/-- ITS FALSE NEIGHBOUR: 'it returns false'. Refute it at one input. -/
def inodePlaysWrong : ChangeSpec := { name := "inodePlays", fn := fun _ => fun
  | [d] => { results := [.lit (.bool false)], args := [d] }
  | _ => none }
def InodePlaysWrongFalsely : Prop := inodePlaysRow.holds Tryz.pinned (OpenSpec.ofChange inodePlaysWrong)

/- THE SECOND FORM. 'bulk': how many values and letters a reading holds, each counted each time it is reached (what is shared counts as often as it is met; a slice's spare places count too). A statement '..UptoSaid' is the law's where the arguments, and the package variables that the reading takes, are together of bulk at most 1048576: NARROWER than '..Said'. Prove '..Said' where nothing that the law and all that it calls make is longer than what came in: it says more and counts as full. Else prove '..UptoSaid'. A law counts once. -/
mutual
def uptoBulk {H : Type} : DataW H → Nat
  | .lit (.string bytes) => bytes.length + 1
  | .lit _ => 1
  | .nil => 1
  | .ptr d => uptoBulk d + 1
  | .slice elems spare => uptoBulkAll elems + uptoBulkAll spare + 1
  | .agg parts => uptoBulkAll parts + 1
  | .iface _ d => uptoBulk d + 1
  | .map entries => uptoBulkEntries entries + 1
  | .held _ => 1
def uptoBulkAll {H : Type} : List (DataW H) → Nat
  | [] => 0
  | d :: r => uptoBulk d + uptoBulkAll r
def uptoBulkEntries {H : Type} : List (Lit × DataW H) → Nat
  | [] => 0
  | x :: r => uptoBulkEntry x + uptoBulkEntries r
def uptoBulkEntry {H : Type} : Lit × DataW H → Nat
  | (.string bytes, d) => bytes.length + uptoBulk d + 1
  | (_, d) => uptoBulk d + 1
 end
def uptoSmall : (H : Type) → List (DataW H) → Bool := fun _ ds => decide (uptoBulkAll ds ≤ 1048576)
def OpenSpec.upto (s : _root_.Go.ChangeSpec) : _root_.Go.OpenSpec := { _root_.Go.OpenSpec.ofChange s with cond := some uptoSmall }

/-- 'lazaretlaw6.InodeFull', WHERE WHAT IT READS IS OF BULK AT MOST 1048576: true; the input reads as it did. -/
def inodeFullUptoRow : OpenClaim := { program := "ytbnoebdpbpjbkaagreat", sum := "b4a9df46037a1501b3581726f6ff56916b278a7eeb8fe0db065d246d1b9401d6", func := "lazaret/lazaretlaw6.InodeFull", spec := "inodeFull", unfollowed := true, recurses := true, apart := false, narrowed := true }
def InodeFullUptoSaid : Prop := inodeFullUptoRow.holds Tryz.pinned (OpenSpec.upto inodeFullSpec)

/-- 'lazaretlaw6.InodeFrees', WHERE WHAT IT READS IS OF BULK AT MOST 1048576: true; the input reads as it did. -/
def inodeFreesUptoRow : OpenClaim := { program := "ytbnoebdpbpjbkaagreat", sum := "b4a9df46037a1501b3581726f6ff56916b278a7eeb8fe0db065d246d1b9401d6", func := "lazaret/lazaretlaw6.InodeFrees", spec := "inodeFrees", unfollowed := true, recurses := true, apart := false, narrowed := true }
def InodeFreesUptoSaid : Prop := inodeFreesUptoRow.holds Tryz.pinned (OpenSpec.upto inodeFreesSpec)

/-- 'lazaretlaw6.InodeAgain', WHERE WHAT IT READS IS OF BULK AT MOST 1048576: true; the input reads as it did. -/
def inodeAgainUptoRow : OpenClaim := { program := "ytbnoebdpbpjbkaagreat", sum := "b4a9df46037a1501b3581726f6ff56916b278a7eeb8fe0db065d246d1b9401d6", func := "lazaret/lazaretlaw6.InodeAgain", spec := "inodeAgain", unfollowed := true, recurses := true, apart := false, narrowed := true }
def InodeAgainUptoSaid : Prop := inodeAgainUptoRow.holds Tryz.pinned (OpenSpec.upto inodeAgainSpec)

/-- 'lazaretlaw6.InodePlays', WHERE WHAT IT READS IS OF BULK AT MOST 1048576: true; the input reads as it did. -/
def inodePlaysUptoRow : OpenClaim := { program := "ytbnoebdpbpjbkaagreat", sum := "b4a9df46037a1501b3581726f6ff56916b278a7eeb8fe0db065d246d1b9401d6", func := "lazaret/lazaretlaw6.InodePlays", spec := "inodePlays", unfollowed := true, recurses := true, apart := false, narrowed := true }
def InodePlaysUptoSaid : Prop := inodePlaysUptoRow.holds Tryz.pinned (OpenSpec.upto inodePlaysSpec)

end Rows
end Go.Proofs.YtbnoebdpbpjbkaaGreat
