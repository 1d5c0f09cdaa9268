/-
  DERIVED. GIVEN WITH THE SEED: THE CARDS: each row of YtjbnfigpflambabGreatDoorRows.lean that lists a variable, with what it lists TIED to the program's text (the seventh form; the later family's looks); each row that meets fmt, with fmt's text TOLD by the authors' own Lean function (tested against real Go, not proved from fmt's source: count such statements apart). THE CARD IS WHAT COUNTS. Prove the row's statement (the work); the ties are given (YtjbnfigpflambabGreatDoorTie.lean); close each card by the builder's one call (the guide's Derived/Test/ToyasCard.lean, 'card_holds'). Laid BY PROGRAM, IN A SANDBOX (cutbox-door.mjs). By AI agents, Wed Nov 11 2026. No macro, syntax, notation, axiom, sorry.
-/
import Derived.Test.YtjbnfigpflambabGreatDoorRows
import GoSem.ClaimSeven
namespace Go.Proofs.YtjbnfigpflambabGreatDoor
namespace Rows

/-- THE TIED CARD OF 'tillermantop.TopLeak'. -/
def topLeakCard : Claim7 := { stood := { row := topLeakRow, standIns := [], harness := (true, "15ab84d6a7db1123d59fa6e72422a644fbf14959084709cdb8db0ea850fa4000"), looks := false }, kinds := [], alts := [], laidByText := true, laidKinds := [.data, .data, .data, .data, .widerDeep, .pinned], laidTests := true, laidLooks := .later }
def TopLeakCardSaid : Prop := Claim7.holds Tryz.pinned (.plain (OpenSpec.ofChange topLeakSpec)) topLeakCard

/-- THE TIED CARD OF 'tillermantop.TopModes'. -/
def topModesCard : Claim7 := { stood := { row := topModesRow, standIns := [], harness := (true, "15ab84d6a7db1123d59fa6e72422a644fbf14959084709cdb8db0ea850fa4000"), looks := false }, kinds := [], alts := [], laidByText := true, laidKinds := [.data, .data, .data, .data, .widerDeep, .pinned], laidTests := true, laidLooks := .later }
def TopModesCardSaid : Prop := Claim7.holds Tryz.pinned (.plain (OpenSpec.ofChange topModesSpec)) topModesCard

/-- THE SECOND FORM's CARD OF 'tillermantop.TopLeak'. -/
def topLeakUptoCard : Claim7 := { stood := { row := topLeakUptoRow, standIns := [], harness := (true, "15ab84d6a7db1123d59fa6e72422a644fbf14959084709cdb8db0ea850fa4000"), looks := false }, kinds := [], alts := [], laidByText := true, laidKinds := [.data, .data, .data, .data, .widerDeep, .pinned], laidTests := true, laidLooks := .later }
def TopLeakUptoCardSaid : Prop := Claim7.holds Tryz.pinned (.plain (OpenSpec.upto topLeakSpec)) topLeakUptoCard

/-- THE SECOND FORM's CARD OF 'tillermantop.TopModes'. -/
def topModesUptoCard : Claim7 := { stood := { row := topModesUptoRow, standIns := [], harness := (true, "15ab84d6a7db1123d59fa6e72422a644fbf14959084709cdb8db0ea850fa4000"), looks := false }, kinds := [], alts := [], laidByText := true, laidKinds := [.data, .data, .data, .data, .widerDeep, .pinned], laidTests := true, laidLooks := .later }
def TopModesUptoCardSaid : Prop := Claim7.holds Tryz.pinned (.plain (OpenSpec.upto topModesSpec)) topModesUptoCard
end Rows
end Go.Proofs.YtjbnfigpflambabGreatDoor
