/-
  DERIVED. GIVEN WITH THE SEED: THE CARDS: each row of YtjkkclfndlfjhaaGreatDoorRows.lean that lists a variable, with what it lists TIED to the program's text (the seventh form; the later family's looks); each row that meets fmt, with fmt's text TOLD by the authors' own Lean function (tested against real Go, not proved from fmt's source: count such statements apart). THE CARD IS WHAT COUNTS. Prove the row's statement (the work); the ties are given (YtjkkclfndlfjhaaGreatDoorTie.lean); close each card by the builder's one call (the guide's Derived/Test/ToyasCard.lean, 'card_holds'). Laid BY PROGRAM, IN A SANDBOX (cutbox-door.mjs). By AI agents, Wed Nov 11 2026. No macro, syntax, notation, axiom, sorry.
-/
import Derived.Test.YtjkkclfndlfjhaaGreatDoorRows
import GoSem.ClaimSeven
namespace Go.Proofs.YtjkkclfndlfjhaaGreatDoor
namespace Rows

/-- THE TIED CARD OF 'tephratop.TopOnce'. -/
def topOnceCard : Claim7 := { stood := { row := topOnceRow, standIns := [], harness := (true, "260b24e60e5cba00f5d7e01e57d40a346d918348f5d8f033571a201b538e4cf7"), looks := true }, kinds := [], alts := [], laidByText := true, laidKinds := [.data, .data, .data, .sentinel, .sentinel], laidTests := true, laidLooks := .later }
def TopOnceCardSaid : Prop := Claim7.holds Tryz.pinned (.plain (OpenSpec.ofChange topOnceSpec)) topOnceCard

/-- THE TIED CARD OF 'tephratop.TopRaw'. -/
def topRawCard : Claim7 := { stood := { row := topRawRow, standIns := [], harness := (true, "260b24e60e5cba00f5d7e01e57d40a346d918348f5d8f033571a201b538e4cf7"), looks := true }, kinds := [], alts := [], laidByText := true, laidKinds := [.data, .data, .data, .sentinel, .sentinel], laidTests := true, laidLooks := .later }
def TopRawCardSaid : Prop := Claim7.holds Tryz.pinned (.plain (OpenSpec.ofChange topRawSpec)) topRawCard

/-- THE SECOND FORM's CARD OF 'tephratop.TopOnce'. -/
def topOnceUptoCard : Claim7 := { stood := { row := topOnceUptoRow, standIns := [], harness := (true, "260b24e60e5cba00f5d7e01e57d40a346d918348f5d8f033571a201b538e4cf7"), looks := true }, kinds := [], alts := [], laidByText := true, laidKinds := [.data, .data, .data, .sentinel, .sentinel], laidTests := true, laidLooks := .later }
def TopOnceUptoCardSaid : Prop := Claim7.holds Tryz.pinned (.plain (OpenSpec.upto topOnceSpec)) topOnceUptoCard

/-- THE SECOND FORM's CARD OF 'tephratop.TopRaw'. -/
def topRawUptoCard : Claim7 := { stood := { row := topRawUptoRow, standIns := [], harness := (true, "260b24e60e5cba00f5d7e01e57d40a346d918348f5d8f033571a201b538e4cf7"), looks := true }, kinds := [], alts := [], laidByText := true, laidKinds := [.data, .data, .data, .sentinel, .sentinel], laidTests := true, laidLooks := .later }
def TopRawUptoCardSaid : Prop := Claim7.holds Tryz.pinned (.plain (OpenSpec.upto topRawSpec)) topRawUptoCard
end Rows
end Go.Proofs.YtjkkclfndlfjhaaGreatDoor
