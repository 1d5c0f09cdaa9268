/-
  DERIVED. GIVEN WITH THE SEED: THE CARDS: each row of YtjbnfigpflambaaDoorRows.lean that lists a variable, with what it lists TIED to the program's text (the seventh form; the later family's looks); each row that meets fmt, with fmt's text TOLD by the authors' own Lean function (tested against real Go, not proved from fmt's source: count such statements apart). THE CARD IS WHAT COUNTS. Prove the row's statement (the work); the ties are given (YtjbnfigpflambaaDoorTie.lean); close each card by the builder's one call (the guide's Derived/Test/ToyasCard.lean, 'card_holds'). Laid BY PROGRAM, IN A SANDBOX (cutbox-door.mjs). By AI agents, Wed Nov 11 2026. No macro, syntax, notation, axiom, sorry.
-/
import Derived.Test.YtjbnfigpflambaaDoorRows
import GoSem.ClaimSeven
namespace Go.Proofs.YtjbnfigpflambaaDoor
namespace Rows

/-- THE TIED CARD OF 'tillermantop.TopBad'. -/
def topBadCard : Claim7 := { stood := { row := topBadRow, standIns := [], harness := (true, "a13b34e463ee5fce9e7ac5552f26178de00b703513fcd16f5365a28dacc1e2c9"), looks := false }, kinds := [], alts := [], laidByText := true, laidKinds := [.data, .widerDeep, .pinned], laidTests := true, laidLooks := .later }
def TopBadCardSaid : Prop := Claim7.holds Tryd.pinned (.plain (OpenSpec.ofChange topBadSpec)) topBadCard

/-- THE TIED CARD OF 'tillermanlaw.SayChecks'. -/
def sayChecksCard : Claim7 := { stood := { row := sayChecksRow, standIns := [], harness := (true, "a13b34e463ee5fce9e7ac5552f26178de00b703513fcd16f5365a28dacc1e2c9"), looks := false }, kinds := [], alts := [], laidByText := true, laidKinds := [.data, .widerDeep, .pinned], laidTests := true, laidLooks := .later }
def SayChecksCardSaid : Prop := Claim7.holds Tryd.pinned (.plain (OpenSpec.ofChange sayChecksSpec)) sayChecksCard

/-- THE TIED CARD OF 'tillermanlaw.SayReads'. -/
def sayReadsCard : Claim7 := { stood := { row := sayReadsRow, standIns := [], harness := (true, "a13b34e463ee5fce9e7ac5552f26178de00b703513fcd16f5365a28dacc1e2c9"), looks := false }, kinds := [], alts := [], laidByText := true, laidKinds := [.data, .widerDeep, .pinned], laidTests := true, laidLooks := .later }
def SayReadsCardSaid : Prop := Claim7.holds Tryd.pinned (.plain (OpenSpec.ofChange sayReadsSpec)) sayReadsCard

/-- THE SECOND FORM's CARD OF 'tillermantop.TopBad'. -/
def topBadUptoCard : Claim7 := { stood := { row := topBadUptoRow, standIns := [], harness := (true, "a13b34e463ee5fce9e7ac5552f26178de00b703513fcd16f5365a28dacc1e2c9"), looks := false }, kinds := [], alts := [], laidByText := true, laidKinds := [.data, .widerDeep, .pinned], laidTests := true, laidLooks := .later }
def TopBadUptoCardSaid : Prop := Claim7.holds Tryd.pinned (.plain (OpenSpec.upto topBadSpec)) topBadUptoCard

/-- THE SECOND FORM's CARD OF 'tillermanlaw.SayChecks'. -/
def sayChecksUptoCard : Claim7 := { stood := { row := sayChecksUptoRow, standIns := [], harness := (true, "a13b34e463ee5fce9e7ac5552f26178de00b703513fcd16f5365a28dacc1e2c9"), looks := false }, kinds := [], alts := [], laidByText := true, laidKinds := [.data, .widerDeep, .pinned], laidTests := true, laidLooks := .later }
def SayChecksUptoCardSaid : Prop := Claim7.holds Tryd.pinned (.plain (OpenSpec.upto sayChecksSpec)) sayChecksUptoCard

/-- THE SECOND FORM's CARD OF 'tillermanlaw.SayReads'. -/
def sayReadsUptoCard : Claim7 := { stood := { row := sayReadsUptoRow, standIns := [], harness := (true, "a13b34e463ee5fce9e7ac5552f26178de00b703513fcd16f5365a28dacc1e2c9"), looks := false }, kinds := [], alts := [], laidByText := true, laidKinds := [.data, .widerDeep, .pinned], laidTests := true, laidLooks := .later }
def SayReadsUptoCardSaid : Prop := Claim7.holds Tryd.pinned (.plain (OpenSpec.upto sayReadsSpec)) sayReadsUptoCard
end Rows
end Go.Proofs.YtjbnfigpflambaaDoor
