/-
  DERIVED. GIVEN WITH THE SEED: THE CARDS: each row of YtjngphffgdjcfaaDoorRows.lean that lists a variable, with what it lists TIED to the program's text (the seventh form; the later family's looks); each row that meets fmt, with fmt's text TOLD by the authors' own Lean function (tested against real Go, not proved from fmt's source: count such statements apart). THE CARD IS WHAT COUNTS. Prove the row's statement (the work); the ties are given (YtjngphffgdjcfaaDoorTie.lean); close each card by the builder's one call (the guide's Derived/Test/ToyasCard.lean, 'card_holds'). Laid BY PROGRAM, IN A SANDBOX (cutbox-door.mjs). By AI agents, Wed Nov 11 2026. No macro, syntax, notation, axiom, sorry.
-/
import Derived.Test.YtjngphffgdjcfaaDoorRows
import GoSem.ClaimSeven
namespace Go.Proofs.YtjngphffgdjcfaaDoor
namespace Rows

/-- THE TIED CARD OF 'lazaretlaw0.NamesNumbers'. -/
def namesNumbersCard : Claim7 := { stood := { row := namesNumbersRow, standIns := [], harness := (true, "9003db9e297c4311b6fab14d565c57d909cf4d160c8b7c0253a90ec045fd9526"), looks := false }, kinds := [], alts := [], laidByText := true, laidKinds := [.data, .data, .data], laidTests := true, laidLooks := .later }
def NamesNumbersCardSaid : Prop := Claim7.holds Tryd.pinned (.plain (OpenSpec.ofChange namesNumbersSpec)) namesNumbersCard

/-- THE TIED CARD OF 'lazaretlaw7.DirPaths'. -/
def dirPathsCard : Claim7 := { stood := { row := dirPathsRow, standIns := [], harness := (true, "9003db9e297c4311b6fab14d565c57d909cf4d160c8b7c0253a90ec045fd9526"), looks := false }, kinds := [], alts := [], laidByText := true, laidKinds := [.data, .pinned], laidTests := true, laidLooks := .later }
def DirPathsCardSaid : Prop := Claim7.holds Tryd.pinned (.plain (OpenSpec.ofChange dirPathsSpec)) dirPathsCard

/-- THE TIED CARD OF 'lazaretlaw7.DirNames'. -/
def dirNamesCard : Claim7 := { stood := { row := dirNamesRow, standIns := [], harness := (true, "9003db9e297c4311b6fab14d565c57d909cf4d160c8b7c0253a90ec045fd9526"), looks := false }, kinds := [], alts := [], laidByText := true, laidKinds := [.data, .pinned], laidTests := true, laidLooks := .later }
def DirNamesCardSaid : Prop := Claim7.holds Tryd.pinned (.plain (OpenSpec.ofChange dirNamesSpec)) dirNamesCard

/-- THE SECOND FORM's CARD OF 'lazaretlaw0.NamesNumbers'. -/
def namesNumbersUptoCard : Claim7 := { stood := { row := namesNumbersUptoRow, standIns := [], harness := (true, "9003db9e297c4311b6fab14d565c57d909cf4d160c8b7c0253a90ec045fd9526"), looks := false }, kinds := [], alts := [], laidByText := true, laidKinds := [.data, .data, .data], laidTests := true, laidLooks := .later }
def NamesNumbersUptoCardSaid : Prop := Claim7.holds Tryd.pinned (.plain (OpenSpec.upto namesNumbersSpec)) namesNumbersUptoCard

/-- THE SECOND FORM's CARD OF 'lazaretlaw7.DirPaths'. -/
def dirPathsUptoCard : Claim7 := { stood := { row := dirPathsUptoRow, standIns := [], harness := (true, "9003db9e297c4311b6fab14d565c57d909cf4d160c8b7c0253a90ec045fd9526"), looks := false }, kinds := [], alts := [], laidByText := true, laidKinds := [.data, .pinned], laidTests := true, laidLooks := .later }
def DirPathsUptoCardSaid : Prop := Claim7.holds Tryd.pinned (.plain (OpenSpec.upto dirPathsSpec)) dirPathsUptoCard

/-- THE SECOND FORM's CARD OF 'lazaretlaw7.DirNames'. -/
def dirNamesUptoCard : Claim7 := { stood := { row := dirNamesUptoRow, standIns := [], harness := (true, "9003db9e297c4311b6fab14d565c57d909cf4d160c8b7c0253a90ec045fd9526"), looks := false }, kinds := [], alts := [], laidByText := true, laidKinds := [.data, .pinned], laidTests := true, laidLooks := .later }
def DirNamesUptoCardSaid : Prop := Claim7.holds Tryd.pinned (.plain (OpenSpec.upto dirNamesSpec)) dirNamesUptoCard
end Rows
end Go.Proofs.YtjngphffgdjcfaaDoor
