/-
  DERIVED. GIVEN WITH THE SEED: THE CARDS: each row of YtjngphffgdjcfaaGreatDoorRows.lean that lists a variable, with what it lists TIED to the program's text (the seventh form; the later family's looks); each row that meets fmt, with fmt's text TOLD by the authors' own Lean function (tested against real Go, not proved from fmt's source: count such statements apart). THE CARD IS WHAT COUNTS. Prove the row's statement (the work); the ties are given (YtjngphffgdjcfaaGreatDoorTie.lean); close each card by the builder's one call (the guide's Derived/Test/ToyasCard.lean, 'card_holds'). Laid BY PROGRAM, IN A SANDBOX (cutbox-door.mjs). By AI agents, Wed Nov 11 2026. No macro, syntax, notation, axiom, sorry.
-/
import Derived.Test.YtjngphffgdjcfaaGreatDoorRows
import GoSem.ClaimSeven
namespace Go.Proofs.YtjngphffgdjcfaaGreatDoor
namespace Rows

/-- THE TIED CARD OF 'lazaretlaw7.DirBytes'. -/
def dirBytesCard : Claim7 := { stood := { row := dirBytesRow, standIns := [], harness := (true, "fd7733ffd024b595555291bdd4482c778e8657f9b320965395657dc1ae34d308"), looks := false }, kinds := [], alts := [], laidByText := true, laidKinds := [.data, .pinned], laidTests := true, laidLooks := .later }
def DirBytesCardSaid : Prop := Claim7.holds Tryz.pinned (.plain (OpenSpec.ofChange dirBytesSpec)) dirBytesCard

/-- THE TIED CARD OF 'lazaretlaw7.DirFull'. -/
def dirFullCard : Claim7 := { stood := { row := dirFullRow, standIns := [], harness := (true, "fd7733ffd024b595555291bdd4482c778e8657f9b320965395657dc1ae34d308"), looks := false }, kinds := [], alts := [], laidByText := true, laidKinds := [.data, .pinned], laidTests := true, laidLooks := .later }
def DirFullCardSaid : Prop := Claim7.holds Tryz.pinned (.plain (OpenSpec.ofChange dirFullSpec)) dirFullCard

/-- THE TIED CARD OF 'lazaretlaw7.DirPlays'. -/
def dirPlaysCard : Claim7 := { stood := { row := dirPlaysRow, standIns := [], harness := (true, "fd7733ffd024b595555291bdd4482c778e8657f9b320965395657dc1ae34d308"), looks := false }, kinds := [], alts := [], laidByText := true, laidKinds := [.data, .pinned], laidTests := true, laidLooks := .later }
def DirPlaysCardSaid : Prop := Claim7.holds Tryz.pinned (.plain (OpenSpec.ofChange dirPlaysSpec)) dirPlaysCard

/-- THE SECOND FORM's CARD OF 'lazaretlaw7.DirBytes'. -/
def dirBytesUptoCard : Claim7 := { stood := { row := dirBytesUptoRow, standIns := [], harness := (true, "fd7733ffd024b595555291bdd4482c778e8657f9b320965395657dc1ae34d308"), looks := false }, kinds := [], alts := [], laidByText := true, laidKinds := [.data, .pinned], laidTests := true, laidLooks := .later }
def DirBytesUptoCardSaid : Prop := Claim7.holds Tryz.pinned (.plain (OpenSpec.upto dirBytesSpec)) dirBytesUptoCard

/-- THE SECOND FORM's CARD OF 'lazaretlaw7.DirFull'. -/
def dirFullUptoCard : Claim7 := { stood := { row := dirFullUptoRow, standIns := [], harness := (true, "fd7733ffd024b595555291bdd4482c778e8657f9b320965395657dc1ae34d308"), looks := false }, kinds := [], alts := [], laidByText := true, laidKinds := [.data, .pinned], laidTests := true, laidLooks := .later }
def DirFullUptoCardSaid : Prop := Claim7.holds Tryz.pinned (.plain (OpenSpec.upto dirFullSpec)) dirFullUptoCard

/-- THE SECOND FORM's CARD OF 'lazaretlaw7.DirPlays'. -/
def dirPlaysUptoCard : Claim7 := { stood := { row := dirPlaysUptoRow, standIns := [], harness := (true, "fd7733ffd024b595555291bdd4482c778e8657f9b320965395657dc1ae34d308"), looks := false }, kinds := [], alts := [], laidByText := true, laidKinds := [.data, .pinned], laidTests := true, laidLooks := .later }
def DirPlaysUptoCardSaid : Prop := Claim7.holds Tryz.pinned (.plain (OpenSpec.upto dirPlaysSpec)) dirPlaysUptoCard
end Rows
end Go.Proofs.YtjngphffgdjcfaaGreatDoor
