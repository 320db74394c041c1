/-
  No cell of these rows narrows 'for every input' (looked for: loops, veiled, ifaces, maps, wideKeys, modest, calm, conditions, laid).
  DERIVED. THE GIVEN ROWS OF THIS SEAT. 14 by the template 'for every input the law returns true; each argument reads behind the call as it read before'; 0 by the template 'total and deterministic' (their statements: YtbnoebdpbpjbkaaTotals.lean).
  GIVEN WITH THE SEED: the statements are not yours to turn. If you find one false, say at which input.
  Laid BY PROGRAM, IN A SANDBOX (cutbox-rows.mjs): the forced cells as the released guide's own fill.sh prints them over the translation 78d8705ab1056d93… (all of the seat's roots in one cut). By AI agents, Wed Nov 11 2026. No macro, syntax, notation, axiom, sorry.
-/
import Derived.Test.YtbnoebdpbpjbkaaChecked
import GoSem.Claim
import GoSem.ClaimJoined
import GoSem.ClaimMapViews
import Derived.JoinedTies
import Derived.KernelRfl
namespace Go.Proofs.Ytbnoebdpbpjbkaa
/- THE CELL 'sum', in the pinned program and in every row, IS THE sha256 OF THE DUMP (.gsa) THAT YtbnoebdpbpjbkaaProg.lean LOADS. Nothing in Lean hashes anything: it is a label: what it is worth is what the hold of that sum in a sandbox is worth. -/
noncomputable def Try.pinned : Pinned := { name := "ytbnoebdpbpjbkaa", sum := "78d8705ab1056d93665dc8a197214db10e851b22a049fdb6214d9b6e4959c09a", checked := Try.checked }
namespace Rows
def none {H : Type} : Left H := { results := [], args := [] }

/-- 'lazaretlaw1.DevFuses': WHATEVER THE INPUT: true; the input reads as it did. -/
def devFusesSpec : ChangeSpec := { name := "devFuses", fn := fun _ => fun
  | [d1, d2] => { results := [.lit (.bool true)], args := [d1, d2] }
  | _ => none }
def devFusesRow : OpenClaim := { program := "ytbnoebdpbpjbkaa", sum := "78d8705ab1056d93665dc8a197214db10e851b22a049fdb6214d9b6e4959c09a", func := "lazaret/lazaretlaw1.DevFuses", spec := "devFuses", apart := false }
def DevFusesSaid : Prop := devFusesRow.holds Try.pinned (OpenSpec.ofChange devFusesSpec)

/-- ITS FALSE NEIGHBOUR: 'it returns false'. Refute it at one input. -/
def devFusesWrong : ChangeSpec := { name := "devFuses", fn := fun _ => fun
  | [d1, d2] => { results := [.lit (.bool false)], args := [d1, d2] }
  | _ => none }
def DevFusesWrongFalsely : Prop := devFusesRow.holds Try.pinned (OpenSpec.ofChange devFusesWrong)

/-- 'lazaretlaw1.DevLasts': WHATEVER THE INPUT: true; the input reads as it did. -/
def devLastsSpec : ChangeSpec := { name := "devLasts", fn := fun _ => fun
  | [d1, d2, d3, d4] => { results := [.lit (.bool true)], args := [d1, d2, d3, d4] }
  | _ => none }
def devLastsRow : OpenClaim := { program := "ytbnoebdpbpjbkaa", sum := "78d8705ab1056d93665dc8a197214db10e851b22a049fdb6214d9b6e4959c09a", func := "lazaret/lazaretlaw1.DevLasts", spec := "devLasts", unfollowed := true, recurses := true, apart := false }
def DevLastsSaid : Prop := devLastsRow.holds Try.pinned (OpenSpec.ofChange devLastsSpec)

/-- ITS FALSE NEIGHBOUR: 'it returns false'. Refute it at one input. -/
def devLastsWrong : ChangeSpec := { name := "devLasts", fn := fun _ => fun
  | [d1, d2, d3, d4] => { results := [.lit (.bool false)], args := [d1, d2, d3, d4] }
  | _ => none }
def DevLastsWrongFalsely : Prop := devLastsRow.holds Try.pinned (OpenSpec.ofChange devLastsWrong)

/-- 'lazaretlaw1.DevApart': WHATEVER THE INPUT: true; the input reads as it did. -/
def devApartSpec : ChangeSpec := { name := "devApart", fn := fun _ => fun
  | [d1, d2] => { results := [.lit (.bool true)], args := [d1, d2] }
  | _ => none }
def devApartRow : OpenClaim := { program := "ytbnoebdpbpjbkaa", sum := "78d8705ab1056d93665dc8a197214db10e851b22a049fdb6214d9b6e4959c09a", func := "lazaret/lazaretlaw1.DevApart", spec := "devApart", inPlace := ["maps.clone"], unfollowed := true, recurses := true, apart := false }
def DevApartSaid : Prop := devApartRow.holds Try.pinned (OpenSpec.ofChange devApartSpec)

/-- ITS FALSE NEIGHBOUR: 'it returns false'. Refute it at one input. -/
def devApartWrong : ChangeSpec := { name := "devApart", fn := fun _ => fun
  | [d1, d2] => { results := [.lit (.bool false)], args := [d1, d2] }
  | _ => none }
def DevApartWrongFalsely : Prop := devApartRow.holds Try.pinned (OpenSpec.ofChange devApartWrong)

/-- 'lazaretlaw1.DevPlays': WHATEVER THE INPUT: true; the input reads as it did. -/
def devPlaysSpec : ChangeSpec := { name := "devPlays", fn := fun _ => fun
  | [d1, d2] => { results := [.lit (.bool true)], args := [d1, d2] }
  | _ => none }
def devPlaysRow : OpenClaim := { program := "ytbnoebdpbpjbkaa", sum := "78d8705ab1056d93665dc8a197214db10e851b22a049fdb6214d9b6e4959c09a", func := "lazaret/lazaretlaw1.DevPlays", spec := "devPlays", inPlace := ["maps.clone"], unfollowed := true, recurses := true, apart := false }
def DevPlaysSaid : Prop := devPlaysRow.holds Try.pinned (OpenSpec.ofChange devPlaysSpec)

/-- ITS FALSE NEIGHBOUR: 'it returns false'. Refute it at one input. -/
def devPlaysWrong : ChangeSpec := { name := "devPlays", fn := fun _ => fun
  | [d1, d2] => { results := [.lit (.bool false)], args := [d1, d2] }
  | _ => none }
def DevPlaysWrongFalsely : Prop := devPlaysRow.holds Try.pinned (OpenSpec.ofChange devPlaysWrong)

/-- 'lazaretlaw5.AllocBounds': WHATEVER THE INPUT: true; the input reads as it did. -/
def allocBoundsSpec : ChangeSpec := { name := "allocBounds", fn := fun _ => fun
  | [d1, d2] => { results := [.lit (.bool true)], args := [d1, d2] }
  | _ => none }
def allocBoundsRow : OpenClaim := { program := "ytbnoebdpbpjbkaa", sum := "78d8705ab1056d93665dc8a197214db10e851b22a049fdb6214d9b6e4959c09a", func := "lazaret/lazaretlaw5.AllocBounds", spec := "allocBounds", unfollowed := true, recurses := true, apart := false }
def AllocBoundsSaid : Prop := allocBoundsRow.holds Try.pinned (OpenSpec.ofChange allocBoundsSpec)

/-- ITS FALSE NEIGHBOUR: 'it returns false'. Refute it at one input. -/
def allocBoundsWrong : ChangeSpec := { name := "allocBounds", fn := fun _ => fun
  | [d1, d2] => { results := [.lit (.bool false)], args := [d1, d2] }
  | _ => none }
def AllocBoundsWrongFalsely : Prop := allocBoundsRow.holds Try.pinned (OpenSpec.ofChange allocBoundsWrong)

/-- 'lazaretlaw4.WalLong': WHATEVER THE INPUT: true; the input reads as it did. -/
def walLongSpec : ChangeSpec := { name := "walLong", fn := fun _ => fun
  | [d1, d2, d3] => { results := [.lit (.bool true)], args := [d1, d2, d3] }
  | _ => none }
def walLongRow : OpenClaim := { program := "ytbnoebdpbpjbkaa", sum := "78d8705ab1056d93665dc8a197214db10e851b22a049fdb6214d9b6e4959c09a", func := "lazaret/lazaretlaw4.WalLong", spec := "walLong", unfollowed := true, recurses := true, apart := false }
def WalLongSaid : Prop := walLongRow.holds Try.pinned (OpenSpec.ofChange walLongSpec)

/-- ITS FALSE NEIGHBOUR: 'it returns false'. Refute it at one input. -/
def walLongWrong : ChangeSpec := { name := "walLong", fn := fun _ => fun
  | [d1, d2, d3] => { results := [.lit (.bool false)], args := [d1, d2, d3] }
  | _ => none }
def WalLongWrongFalsely : Prop := walLongRow.holds Try.pinned (OpenSpec.ofChange walLongWrong)

/-- 'lazaretlaw4.WalCounts': WHATEVER THE INPUT: true; the input reads as it did. -/
def walCountsSpec : ChangeSpec := { name := "walCounts", fn := fun _ => fun
  | [d1, d2] => { results := [.lit (.bool true)], args := [d1, d2] }
  | _ => none }
def walCountsRow : OpenClaim := { program := "ytbnoebdpbpjbkaa", sum := "78d8705ab1056d93665dc8a197214db10e851b22a049fdb6214d9b6e4959c09a", func := "lazaret/lazaretlaw4.WalCounts", spec := "walCounts", unfollowed := true, recurses := true, apart := false }
def WalCountsSaid : Prop := walCountsRow.holds Try.pinned (OpenSpec.ofChange walCountsSpec)

/-- ITS FALSE NEIGHBOUR: 'it returns false'. Refute it at one input. -/
def walCountsWrong : ChangeSpec := { name := "walCounts", fn := fun _ => fun
  | [d1, d2] => { results := [.lit (.bool false)], args := [d1, d2] }
  | _ => none }
def WalCountsWrongFalsely : Prop := walCountsRow.holds Try.pinned (OpenSpec.ofChange walCountsWrong)

/-- 'lazaretlaw4.WalDead': WHATEVER THE INPUT: true; the input reads as it did. -/
def walDeadSpec : ChangeSpec := { name := "walDead", fn := fun _ => fun
  | [d1, d2] => { results := [.lit (.bool true)], args := [d1, d2] }
  | _ => none }
def walDeadRow : OpenClaim := { program := "ytbnoebdpbpjbkaa", sum := "78d8705ab1056d93665dc8a197214db10e851b22a049fdb6214d9b6e4959c09a", func := "lazaret/lazaretlaw4.WalDead", spec := "walDead", unfollowed := true, recurses := true, apart := false }
def WalDeadSaid : Prop := walDeadRow.holds Try.pinned (OpenSpec.ofChange walDeadSpec)

/-- ITS FALSE NEIGHBOUR: 'it returns false'. Refute it at one input. -/
def walDeadWrong : ChangeSpec := { name := "walDead", fn := fun _ => fun
  | [d1, d2] => { results := [.lit (.bool false)], args := [d1, d2] }
  | _ => none }
def WalDeadWrongFalsely : Prop := walDeadRow.holds Try.pinned (OpenSpec.ofChange walDeadWrong)

/-- 'lazaretlaw4.WalBig': WHATEVER THE INPUT: true; the input reads as it did. -/
def walBigSpec : ChangeSpec := { name := "walBig", fn := fun _ => fun
  | [d1, d2, d3] => { results := [.lit (.bool true)], args := [d1, d2, d3] }
  | _ => none }
def walBigRow : OpenClaim := { program := "ytbnoebdpbpjbkaa", sum := "78d8705ab1056d93665dc8a197214db10e851b22a049fdb6214d9b6e4959c09a", func := "lazaret/lazaretlaw4.WalBig", spec := "walBig", unfollowed := true, recurses := true, apart := false }
def WalBigSaid : Prop := walBigRow.holds Try.pinned (OpenSpec.ofChange walBigSpec)

/-- ITS FALSE NEIGHBOUR: 'it returns false'. Refute it at one input. -/
def walBigWrong : ChangeSpec := { name := "walBig", fn := fun _ => fun
  | [d1, d2, d3] => { results := [.lit (.bool false)], args := [d1, d2, d3] }
  | _ => none }
def WalBigWrongFalsely : Prop := walBigRow.holds Try.pinned (OpenSpec.ofChange walBigWrong)

/-- 'lazaretlaw4.WalPlays': WHATEVER THE INPUT: true; the input reads as it did. -/
def walPlaysSpec : ChangeSpec := { name := "walPlays", fn := fun _ => fun
  | [d] => { results := [.lit (.bool true)], args := [d] }
  | _ => none }
def walPlaysRow : OpenClaim := { program := "ytbnoebdpbpjbkaa", sum := "78d8705ab1056d93665dc8a197214db10e851b22a049fdb6214d9b6e4959c09a", func := "lazaret/lazaretlaw4.WalPlays", spec := "walPlays", unfollowed := true, recurses := true, apart := false }
def WalPlaysSaid : Prop := walPlaysRow.holds Try.pinned (OpenSpec.ofChange walPlaysSpec)

/-- ITS FALSE NEIGHBOUR: 'it returns false'. Refute it at one input. -/
def walPlaysWrong : ChangeSpec := { name := "walPlays", fn := fun _ => fun
  | [d] => { results := [.lit (.bool false)], args := [d] }
  | _ => none }
def WalPlaysWrongFalsely : Prop := walPlaysRow.holds Try.pinned (OpenSpec.ofChange walPlaysWrong)

/-- 'lazaretlaw4.WalLasts': WHATEVER THE INPUT: true; the input reads as it did. -/
def walLastsSpec : ChangeSpec := { name := "walLasts", fn := fun _ => fun
  | [d1, d2, d3, d4, d5] => { results := [.lit (.bool true)], args := [d1, d2, d3, d4, d5] }
  | _ => none }
def walLastsRow : OpenClaim := { program := "ytbnoebdpbpjbkaa", sum := "78d8705ab1056d93665dc8a197214db10e851b22a049fdb6214d9b6e4959c09a", func := "lazaret/lazaretlaw4.WalLasts", spec := "walLasts", unfollowed := true, recurses := true, apart := false }
def WalLastsSaid : Prop := walLastsRow.holds Try.pinned (OpenSpec.ofChange walLastsSpec)

/-- ITS FALSE NEIGHBOUR: 'it returns false'. Refute it at one input. -/
def walLastsWrong : ChangeSpec := { name := "walLasts", fn := fun _ => fun
  | [d1, d2, d3, d4, d5] => { results := [.lit (.bool false)], args := [d1, d2, d3, d4, d5] }
  | _ => none }
def WalLastsWrongFalsely : Prop := walLastsRow.holds Try.pinned (OpenSpec.ofChange walLastsWrong)

/-- 'lazaretlaw5.AllocFull': WHATEVER THE INPUT: true; the input reads as it did. -/
def allocFullSpec : ChangeSpec := { name := "allocFull", fn := fun _ => fun
  | [d1, d2] => { results := [.lit (.bool true)], args := [d1, d2] }
  | _ => none }
def allocFullRow : OpenClaim := { program := "ytbnoebdpbpjbkaa", sum := "78d8705ab1056d93665dc8a197214db10e851b22a049fdb6214d9b6e4959c09a", func := "lazaret/lazaretlaw5.AllocFull", spec := "allocFull", unfollowed := true, recurses := true, apart := false }
def AllocFullSaid : Prop := allocFullRow.holds Try.pinned (OpenSpec.ofChange allocFullSpec)

/-- ITS FALSE NEIGHBOUR: 'it returns false'. Refute it at one input. -/
def allocFullWrong : ChangeSpec := { name := "allocFull", fn := fun _ => fun
  | [d1, d2] => { results := [.lit (.bool false)], args := [d1, d2] }
  | _ => none }
def AllocFullWrongFalsely : Prop := allocFullRow.holds Try.pinned (OpenSpec.ofChange allocFullWrong)

/-- 'lazaretlaw5.AllocPlays': WHATEVER THE INPUT: true; the input reads as it did. -/
def allocPlaysSpec : ChangeSpec := { name := "allocPlays", fn := fun _ => fun
  | [d1, d2] => { results := [.lit (.bool true)], args := [d1, d2] }
  | _ => none }
def allocPlaysRow : OpenClaim := { program := "ytbnoebdpbpjbkaa", sum := "78d8705ab1056d93665dc8a197214db10e851b22a049fdb6214d9b6e4959c09a", func := "lazaret/lazaretlaw5.AllocPlays", spec := "allocPlays", unfollowed := true, recurses := true, apart := false }
def AllocPlaysSaid : Prop := allocPlaysRow.holds Try.pinned (OpenSpec.ofChange allocPlaysSpec)

/-- ITS FALSE NEIGHBOUR: 'it returns false'. Refute it at one input. -/
def allocPlaysWrong : ChangeSpec := { name := "allocPlays", fn := fun _ => fun
  | [d1, d2] => { results := [.lit (.bool false)], args := [d1, d2] }
  | _ => none }
def AllocPlaysWrongFalsely : Prop := allocPlaysRow.holds Try.pinned (OpenSpec.ofChange allocPlaysWrong)

/-- 'lazaretlaw6.InodeBounds': WHATEVER THE INPUT: true; the input reads as it did. -/
def inodeBoundsSpec : ChangeSpec := { name := "inodeBounds", fn := fun _ => fun
  | [d] => { results := [.lit (.bool true)], args := [d] }
  | _ => none }
def inodeBoundsRow : OpenClaim := { program := "ytbnoebdpbpjbkaa", sum := "78d8705ab1056d93665dc8a197214db10e851b22a049fdb6214d9b6e4959c09a", func := "lazaret/lazaretlaw6.InodeBounds", spec := "inodeBounds", unfollowed := true, recurses := true, apart := false }
def InodeBoundsSaid : Prop := inodeBoundsRow.holds Try.pinned (OpenSpec.ofChange inodeBoundsSpec)

/-- ITS FALSE NEIGHBOUR: 'it returns false'. Refute it at one input. -/
def inodeBoundsWrong : ChangeSpec := { name := "inodeBounds", fn := fun _ => fun
  | [d] => { results := [.lit (.bool false)], args := [d] }
  | _ => none }
def InodeBoundsWrongFalsely : Prop := inodeBoundsRow.holds Try.pinned (OpenSpec.ofChange inodeBoundsWrong)

/- THE SECOND FORM. 'bulk': how many values and letters a reading holds, each counted each time it is reached (what is shared counts as often as it is met; a slice's spare places count too). A statement '..UptoSaid' is the law's where the arguments, and the package variables that the reading takes, are together of bulk at most 1048576: NARROWER than '..Said'. Prove '..Said' where nothing that the law and all that it calls make is longer than what came in: it says more and counts as full. Else prove '..UptoSaid'. A law counts once. -/
mutual
def uptoBulk {H : Type} : DataW H → Nat
  | .lit (.string bytes) => bytes.length + 1
  | .lit _ => 1
  | .nil => 1
  | .ptr d => uptoBulk d + 1
  | .slice elems spare => uptoBulkAll elems + uptoBulkAll spare + 1
  | .agg parts => uptoBulkAll parts + 1
  | .iface _ d => uptoBulk d + 1
  | .map entries => uptoBulkEntries entries + 1
  | .held _ => 1
def uptoBulkAll {H : Type} : List (DataW H) → Nat
  | [] => 0
  | d :: r => uptoBulk d + uptoBulkAll r
def uptoBulkEntries {H : Type} : List (Lit × DataW H) → Nat
  | [] => 0
  | x :: r => uptoBulkEntry x + uptoBulkEntries r
def uptoBulkEntry {H : Type} : Lit × DataW H → Nat
  | (.string bytes, d) => bytes.length + uptoBulk d + 1
  | (_, d) => uptoBulk d + 1
 end
def uptoSmall : (H : Type) → List (DataW H) → Bool := fun _ ds => decide (uptoBulkAll ds ≤ 1048576)
def OpenSpec.upto (s : _root_.Go.ChangeSpec) : _root_.Go.OpenSpec := { _root_.Go.OpenSpec.ofChange s with cond := some uptoSmall }

/-- 'lazaretlaw1.DevFuses', WHERE WHAT IT READS IS OF BULK AT MOST 1048576: true; the input reads as it did. -/
def devFusesUptoRow : OpenClaim := { program := "ytbnoebdpbpjbkaa", sum := "78d8705ab1056d93665dc8a197214db10e851b22a049fdb6214d9b6e4959c09a", func := "lazaret/lazaretlaw1.DevFuses", spec := "devFuses", apart := false, narrowed := true }
def DevFusesUptoSaid : Prop := devFusesUptoRow.holds Try.pinned (OpenSpec.upto devFusesSpec)

/-- 'lazaretlaw1.DevLasts', WHERE WHAT IT READS IS OF BULK AT MOST 1048576: true; the input reads as it did. -/
def devLastsUptoRow : OpenClaim := { program := "ytbnoebdpbpjbkaa", sum := "78d8705ab1056d93665dc8a197214db10e851b22a049fdb6214d9b6e4959c09a", func := "lazaret/lazaretlaw1.DevLasts", spec := "devLasts", unfollowed := true, recurses := true, apart := false, narrowed := true }
def DevLastsUptoSaid : Prop := devLastsUptoRow.holds Try.pinned (OpenSpec.upto devLastsSpec)

/-- 'lazaretlaw1.DevApart', WHERE WHAT IT READS IS OF BULK AT MOST 1048576: true; the input reads as it did. -/
def devApartUptoRow : OpenClaim := { program := "ytbnoebdpbpjbkaa", sum := "78d8705ab1056d93665dc8a197214db10e851b22a049fdb6214d9b6e4959c09a", func := "lazaret/lazaretlaw1.DevApart", spec := "devApart", inPlace := ["maps.clone"], unfollowed := true, recurses := true, apart := false, narrowed := true }
def DevApartUptoSaid : Prop := devApartUptoRow.holds Try.pinned (OpenSpec.upto devApartSpec)

/-- 'lazaretlaw1.DevPlays', WHERE WHAT IT READS IS OF BULK AT MOST 1048576: true; the input reads as it did. -/
def devPlaysUptoRow : OpenClaim := { program := "ytbnoebdpbpjbkaa", sum := "78d8705ab1056d93665dc8a197214db10e851b22a049fdb6214d9b6e4959c09a", func := "lazaret/lazaretlaw1.DevPlays", spec := "devPlays", inPlace := ["maps.clone"], unfollowed := true, recurses := true, apart := false, narrowed := true }
def DevPlaysUptoSaid : Prop := devPlaysUptoRow.holds Try.pinned (OpenSpec.upto devPlaysSpec)

/-- 'lazaretlaw5.AllocBounds', WHERE WHAT IT READS IS OF BULK AT MOST 1048576: true; the input reads as it did. -/
def allocBoundsUptoRow : OpenClaim := { program := "ytbnoebdpbpjbkaa", sum := "78d8705ab1056d93665dc8a197214db10e851b22a049fdb6214d9b6e4959c09a", func := "lazaret/lazaretlaw5.AllocBounds", spec := "allocBounds", unfollowed := true, recurses := true, apart := false, narrowed := true }
def AllocBoundsUptoSaid : Prop := allocBoundsUptoRow.holds Try.pinned (OpenSpec.upto allocBoundsSpec)

/-- 'lazaretlaw4.WalLong', WHERE WHAT IT READS IS OF BULK AT MOST 1048576: true; the input reads as it did. -/
def walLongUptoRow : OpenClaim := { program := "ytbnoebdpbpjbkaa", sum := "78d8705ab1056d93665dc8a197214db10e851b22a049fdb6214d9b6e4959c09a", func := "lazaret/lazaretlaw4.WalLong", spec := "walLong", unfollowed := true, recurses := true, apart := false, narrowed := true }
def WalLongUptoSaid : Prop := walLongUptoRow.holds Try.pinned (OpenSpec.upto walLongSpec)

/-- 'lazaretlaw4.WalCounts', WHERE WHAT IT READS IS OF BULK AT MOST 1048576: true; the input reads as it did. -/
def walCountsUptoRow : OpenClaim := { program := "ytbnoebdpbpjbkaa", sum := "78d8705ab1056d93665dc8a197214db10e851b22a049fdb6214d9b6e4959c09a", func := "lazaret/lazaretlaw4.WalCounts", spec := "walCounts", unfollowed := true, recurses := true, apart := false, narrowed := true }
def WalCountsUptoSaid : Prop := walCountsUptoRow.holds Try.pinned (OpenSpec.upto walCountsSpec)

/-- 'lazaretlaw4.WalDead', WHERE WHAT IT READS IS OF BULK AT MOST 1048576: true; the input reads as it did. -/
def walDeadUptoRow : OpenClaim := { program := "ytbnoebdpbpjbkaa", sum := "78d8705ab1056d93665dc8a197214db10e851b22a049fdb6214d9b6e4959c09a", func := "lazaret/lazaretlaw4.WalDead", spec := "walDead", unfollowed := true, recurses := true, apart := false, narrowed := true }
def WalDeadUptoSaid : Prop := walDeadUptoRow.holds Try.pinned (OpenSpec.upto walDeadSpec)

/-- 'lazaretlaw4.WalBig', WHERE WHAT IT READS IS OF BULK AT MOST 1048576: true; the input reads as it did. -/
def walBigUptoRow : OpenClaim := { program := "ytbnoebdpbpjbkaa", sum := "78d8705ab1056d93665dc8a197214db10e851b22a049fdb6214d9b6e4959c09a", func := "lazaret/lazaretlaw4.WalBig", spec := "walBig", unfollowed := true, recurses := true, apart := false, narrowed := true }
def WalBigUptoSaid : Prop := walBigUptoRow.holds Try.pinned (OpenSpec.upto walBigSpec)

/-- 'lazaretlaw4.WalPlays', WHERE WHAT IT READS IS OF BULK AT MOST 1048576: true; the input reads as it did. -/
def walPlaysUptoRow : OpenClaim := { program := "ytbnoebdpbpjbkaa", sum := "78d8705ab1056d93665dc8a197214db10e851b22a049fdb6214d9b6e4959c09a", func := "lazaret/lazaretlaw4.WalPlays", spec := "walPlays", unfollowed := true, recurses := true, apart := false, narrowed := true }
def WalPlaysUptoSaid : Prop := walPlaysUptoRow.holds Try.pinned (OpenSpec.upto walPlaysSpec)

/-- 'lazaretlaw4.WalLasts', WHERE WHAT IT READS IS OF BULK AT MOST 1048576: true; the input reads as it did. -/
def walLastsUptoRow : OpenClaim := { program := "ytbnoebdpbpjbkaa", sum := "78d8705ab1056d93665dc8a197214db10e851b22a049fdb6214d9b6e4959c09a", func := "lazaret/lazaretlaw4.WalLasts", spec := "walLasts", unfollowed := true, recurses := true, apart := false, narrowed := true }
def WalLastsUptoSaid : Prop := walLastsUptoRow.holds Try.pinned (OpenSpec.upto walLastsSpec)

/-- 'lazaretlaw5.AllocFull', WHERE WHAT IT READS IS OF BULK AT MOST 1048576: true; the input reads as it did. -/
def allocFullUptoRow : OpenClaim := { program := "ytbnoebdpbpjbkaa", sum := "78d8705ab1056d93665dc8a197214db10e851b22a049fdb6214d9b6e4959c09a", func := "lazaret/lazaretlaw5.AllocFull", spec := "allocFull", unfollowed := true, recurses := true, apart := false, narrowed := true }
def AllocFullUptoSaid : Prop := allocFullUptoRow.holds Try.pinned (OpenSpec.upto allocFullSpec)

/-- 'lazaretlaw5.AllocPlays', WHERE WHAT IT READS IS OF BULK AT MOST 1048576: true; the input reads as it did. -/
def allocPlaysUptoRow : OpenClaim := { program := "ytbnoebdpbpjbkaa", sum := "78d8705ab1056d93665dc8a197214db10e851b22a049fdb6214d9b6e4959c09a", func := "lazaret/lazaretlaw5.AllocPlays", spec := "allocPlays", unfollowed := true, recurses := true, apart := false, narrowed := true }
def AllocPlaysUptoSaid : Prop := allocPlaysUptoRow.holds Try.pinned (OpenSpec.upto allocPlaysSpec)

/-- 'lazaretlaw6.InodeBounds', WHERE WHAT IT READS IS OF BULK AT MOST 1048576: true; the input reads as it did. -/
def inodeBoundsUptoRow : OpenClaim := { program := "ytbnoebdpbpjbkaa", sum := "78d8705ab1056d93665dc8a197214db10e851b22a049fdb6214d9b6e4959c09a", func := "lazaret/lazaretlaw6.InodeBounds", spec := "inodeBounds", unfollowed := true, recurses := true, apart := false, narrowed := true }
def InodeBoundsUptoSaid : Prop := inodeBoundsUptoRow.holds Try.pinned (OpenSpec.upto inodeBoundsSpec)

end Rows
end Go.Proofs.Ytbnoebdpbpjbkaa
