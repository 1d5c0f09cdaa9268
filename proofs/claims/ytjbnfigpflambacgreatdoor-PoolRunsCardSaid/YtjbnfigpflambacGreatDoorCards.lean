/-
  DERIVED. GIVEN WITH THE SEED: THE CARDS: each row of YtjbnfigpflambacGreatDoorRows.lean that lists a variable, with what it lists TIED to the program's text (the seventh form; the later family's looks); each row that meets fmt, with fmt's text TOLD by the authors' own Lean function (tested against real Go, not proved from fmt's source: count such statements apart). THE CARD IS WHAT COUNTS. Prove the row's statement (the work); the ties are given (YtjbnfigpflambacGreatDoorTie.lean); close each card by the builder's one call (the guide's Derived/Test/ToyasCard.lean, 'card_holds'). Laid BY PROGRAM, IN A SANDBOX (cutbox-door.mjs). By AI agents, Wed Nov 11 2026. No macro, syntax, notation, axiom, sorry.
-/
import Derived.Test.YtjbnfigpflambacGreatDoorRows
import GoSem.ClaimSeven
namespace Go.Proofs.YtjbnfigpflambacGreatDoor
namespace Rows

/-- THE TIED CARD OF 'tillermanlaw.PoolRuns'. -/
def poolRunsCard : Claim7 := { stood := { row := poolRunsRow, standIns := [], harness := (true, "10cf1bf0d904ce7f524678218b516125183951b10f99376df9a7764ca80b935e"), looks := false }, kinds := [], alts := [], laidByText := true, laidKinds := [.data, .widerDeep, .pinned], laidTests := true, laidLooks := .later }
def PoolRunsCardSaid : Prop := Claim7.holds Tryz.pinned (.plain (OpenSpec.ofChange poolRunsSpec)) poolRunsCard

/-- THE TIED CARD OF 'tillermankeep.AloneSame'. -/
def aloneSameCard : Claim7 := { stood := { row := aloneSameRow, standIns := [], harness := (true, "10cf1bf0d904ce7f524678218b516125183951b10f99376df9a7764ca80b935e"), looks := false }, kinds := [], alts := [], laidByText := true, laidKinds := [.data, .data, .data, .data, .widerDeep, .pinned], laidTests := true, laidLooks := .later }
def AloneSameCardSaid : Prop := Claim7.holds Tryz.pinned (.plain (OpenSpec.ofChange aloneSameSpec)) aloneSameCard

/-- THE TIED CARD OF 'tillermankeep.SettingsKept'. -/
def settingsKeptCard : Claim7 := { stood := { row := settingsKeptRow, standIns := [], harness := (true, "10cf1bf0d904ce7f524678218b516125183951b10f99376df9a7764ca80b935e"), looks := false }, kinds := [], alts := [], laidByText := true, laidKinds := [.data, .data, .data, .data, .widerDeep, .pinned], laidTests := true, laidLooks := .later }
def SettingsKeptCardSaid : Prop := Claim7.holds Tryz.pinned (.plain (OpenSpec.ofChange settingsKeptSpec)) settingsKeptCard

/-- THE TIED CARD OF 'tillermantop.TopCommitted'. -/
def topCommittedCard : Claim7 := { stood := { row := topCommittedRow, standIns := [], harness := (true, "10cf1bf0d904ce7f524678218b516125183951b10f99376df9a7764ca80b935e"), looks := false }, kinds := [], alts := [], laidByText := true, laidKinds := [.data, .data, .data, .data, .widerDeep, .pinned], laidTests := true, laidLooks := .later }
def TopCommittedCardSaid : Prop := Claim7.holds Tryz.pinned (.plain (OpenSpec.ofChange topCommittedSpec)) topCommittedCard

/-- THE TIED CARD OF 'tillermantop.TopSaid'. -/
def topSaidCard : Claim7 := { stood := { row := topSaidRow, standIns := [], harness := (true, "10cf1bf0d904ce7f524678218b516125183951b10f99376df9a7764ca80b935e"), looks := false }, kinds := [], alts := [], laidByText := true, laidKinds := [.data, .data, .data, .data, .widerDeep, .pinned], laidTests := true, laidLooks := .later }
def TopSaidCardSaid : Prop := Claim7.holds Tryz.pinned (.plain (OpenSpec.ofChange topSaidSpec)) topSaidCard

/-- THE TIED CARD OF 'tillermantop.TopPrivate'. -/
def topPrivateCard : Claim7 := { stood := { row := topPrivateRow, standIns := [], harness := (true, "10cf1bf0d904ce7f524678218b516125183951b10f99376df9a7764ca80b935e"), looks := false }, kinds := [], alts := [], laidByText := true, laidKinds := [.data, .data, .data, .data, .widerDeep, .pinned], laidTests := true, laidLooks := .later }
def TopPrivateCardSaid : Prop := Claim7.holds Tryz.pinned (.plain (OpenSpec.ofChange topPrivateSpec)) topPrivateCard

/-- THE TIED CARD OF 'tillermantop.TopCuts'. -/
def topCutsCard : Claim7 := { stood := { row := topCutsRow, standIns := [], harness := (true, "10cf1bf0d904ce7f524678218b516125183951b10f99376df9a7764ca80b935e"), looks := false }, kinds := [], alts := [], laidByText := true, laidKinds := [.data, .data, .data, .data, .widerDeep, .pinned], laidTests := true, laidLooks := .later }
def TopCutsCardSaid : Prop := Claim7.holds Tryz.pinned (.plain (OpenSpec.ofChange topCutsSpec)) topCutsCard

/-- THE TIED CARD OF 'tillermantop.TopTwice'. -/
def topTwiceCard : Claim7 := { stood := { row := topTwiceRow, standIns := [], harness := (true, "10cf1bf0d904ce7f524678218b516125183951b10f99376df9a7764ca80b935e"), looks := false }, kinds := [], alts := [], laidByText := true, laidKinds := [.data, .data, .data, .data, .widerDeep, .pinned], laidTests := true, laidLooks := .later }
def TopTwiceCardSaid : Prop := Claim7.holds Tryz.pinned (.plain (OpenSpec.ofChange topTwiceSpec)) topTwiceCard

/-- THE TIED CARD OF 'tillermantop.TopGone'. -/
def topGoneCard : Claim7 := { stood := { row := topGoneRow, standIns := [], harness := (true, "10cf1bf0d904ce7f524678218b516125183951b10f99376df9a7764ca80b935e"), looks := false }, kinds := [], alts := [], laidByText := true, laidKinds := [.data, .data, .data, .data, .widerDeep, .pinned], laidTests := true, laidLooks := .later }
def TopGoneCardSaid : Prop := Claim7.holds Tryz.pinned (.plain (OpenSpec.ofChange topGoneSpec)) topGoneCard

/-- THE SECOND FORM's CARD OF 'tillermanlaw.PoolRuns'. -/
def poolRunsUptoCard : Claim7 := { stood := { row := poolRunsUptoRow, standIns := [], harness := (true, "10cf1bf0d904ce7f524678218b516125183951b10f99376df9a7764ca80b935e"), looks := false }, kinds := [], alts := [], laidByText := true, laidKinds := [.data, .widerDeep, .pinned], laidTests := true, laidLooks := .later }
def PoolRunsUptoCardSaid : Prop := Claim7.holds Tryz.pinned (.plain (OpenSpec.upto poolRunsSpec)) poolRunsUptoCard

/-- THE SECOND FORM's CARD OF 'tillermankeep.AloneSame'. -/
def aloneSameUptoCard : Claim7 := { stood := { row := aloneSameUptoRow, standIns := [], harness := (true, "10cf1bf0d904ce7f524678218b516125183951b10f99376df9a7764ca80b935e"), looks := false }, kinds := [], alts := [], laidByText := true, laidKinds := [.data, .data, .data, .data, .widerDeep, .pinned], laidTests := true, laidLooks := .later }
def AloneSameUptoCardSaid : Prop := Claim7.holds Tryz.pinned (.plain (OpenSpec.upto aloneSameSpec)) aloneSameUptoCard

/-- THE SECOND FORM's CARD OF 'tillermankeep.SettingsKept'. -/
def settingsKeptUptoCard : Claim7 := { stood := { row := settingsKeptUptoRow, standIns := [], harness := (true, "10cf1bf0d904ce7f524678218b516125183951b10f99376df9a7764ca80b935e"), looks := false }, kinds := [], alts := [], laidByText := true, laidKinds := [.data, .data, .data, .data, .widerDeep, .pinned], laidTests := true, laidLooks := .later }
def SettingsKeptUptoCardSaid : Prop := Claim7.holds Tryz.pinned (.plain (OpenSpec.upto settingsKeptSpec)) settingsKeptUptoCard

/-- THE SECOND FORM's CARD OF 'tillermantop.TopCommitted'. -/
def topCommittedUptoCard : Claim7 := { stood := { row := topCommittedUptoRow, standIns := [], harness := (true, "10cf1bf0d904ce7f524678218b516125183951b10f99376df9a7764ca80b935e"), looks := false }, kinds := [], alts := [], laidByText := true, laidKinds := [.data, .data, .data, .data, .widerDeep, .pinned], laidTests := true, laidLooks := .later }
def TopCommittedUptoCardSaid : Prop := Claim7.holds Tryz.pinned (.plain (OpenSpec.upto topCommittedSpec)) topCommittedUptoCard

/-- THE SECOND FORM's CARD OF 'tillermantop.TopSaid'. -/
def topSaidUptoCard : Claim7 := { stood := { row := topSaidUptoRow, standIns := [], harness := (true, "10cf1bf0d904ce7f524678218b516125183951b10f99376df9a7764ca80b935e"), looks := false }, kinds := [], alts := [], laidByText := true, laidKinds := [.data, .data, .data, .data, .widerDeep, .pinned], laidTests := true, laidLooks := .later }
def TopSaidUptoCardSaid : Prop := Claim7.holds Tryz.pinned (.plain (OpenSpec.upto topSaidSpec)) topSaidUptoCard

/-- THE SECOND FORM's CARD OF 'tillermantop.TopPrivate'. -/
def topPrivateUptoCard : Claim7 := { stood := { row := topPrivateUptoRow, standIns := [], harness := (true, "10cf1bf0d904ce7f524678218b516125183951b10f99376df9a7764ca80b935e"), looks := false }, kinds := [], alts := [], laidByText := true, laidKinds := [.data, .data, .data, .data, .widerDeep, .pinned], laidTests := true, laidLooks := .later }
def TopPrivateUptoCardSaid : Prop := Claim7.holds Tryz.pinned (.plain (OpenSpec.upto topPrivateSpec)) topPrivateUptoCard

/-- THE SECOND FORM's CARD OF 'tillermantop.TopCuts'. -/
def topCutsUptoCard : Claim7 := { stood := { row := topCutsUptoRow, standIns := [], harness := (true, "10cf1bf0d904ce7f524678218b516125183951b10f99376df9a7764ca80b935e"), looks := false }, kinds := [], alts := [], laidByText := true, laidKinds := [.data, .data, .data, .data, .widerDeep, .pinned], laidTests := true, laidLooks := .later }
def TopCutsUptoCardSaid : Prop := Claim7.holds Tryz.pinned (.plain (OpenSpec.upto topCutsSpec)) topCutsUptoCard

/-- THE SECOND FORM's CARD OF 'tillermantop.TopTwice'. -/
def topTwiceUptoCard : Claim7 := { stood := { row := topTwiceUptoRow, standIns := [], harness := (true, "10cf1bf0d904ce7f524678218b516125183951b10f99376df9a7764ca80b935e"), looks := false }, kinds := [], alts := [], laidByText := true, laidKinds := [.data, .data, .data, .data, .widerDeep, .pinned], laidTests := true, laidLooks := .later }
def TopTwiceUptoCardSaid : Prop := Claim7.holds Tryz.pinned (.plain (OpenSpec.upto topTwiceSpec)) topTwiceUptoCard

/-- THE SECOND FORM's CARD OF 'tillermantop.TopGone'. -/
def topGoneUptoCard : Claim7 := { stood := { row := topGoneUptoRow, standIns := [], harness := (true, "10cf1bf0d904ce7f524678218b516125183951b10f99376df9a7764ca80b935e"), looks := false }, kinds := [], alts := [], laidByText := true, laidKinds := [.data, .data, .data, .data, .widerDeep, .pinned], laidTests := true, laidLooks := .later }
def TopGoneUptoCardSaid : Prop := Claim7.holds Tryz.pinned (.plain (OpenSpec.upto topGoneSpec)) topGoneUptoCard
end Rows
end Go.Proofs.YtjbnfigpflambacGreatDoor
