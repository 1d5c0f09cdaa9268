/-
  DERIVED. GIVEN WITH THE SEED: THE CARDS: each row of YtjbnfigpflambabDoorRows.lean that lists a variable, with what it lists TIED to the program's text (the seventh form; the later family's looks); each row that meets fmt, with fmt's text TOLD by the authors' own Lean function (tested against real Go, not proved from fmt's source: count such statements apart). THE CARD IS WHAT COUNTS. Prove the row's statement (the work); the ties are given (YtjbnfigpflambabDoorTie.lean); close each card by the builder's one call (the guide's Derived/Test/ToyasCard.lean, 'card_holds'). Laid BY PROGRAM, IN A SANDBOX (cutbox-door.mjs). By AI agents, Wed Nov 11 2026. No macro, syntax, notation, axiom, sorry.
-/
import Derived.Test.YtjbnfigpflambabDoorRows
import GoSem.ClaimSeven
namespace Go.Proofs.YtjbnfigpflambabDoor
namespace Rows

/-- THE TIED CARD OF 'tillermanlaw.SayShows'. -/
def sayShowsCard : Claim7 := { stood := { row := sayShowsRow, standIns := [], harness := (true, "a3fb9256f5d0c1df84134da9eafd5f2484b46727b3516ea36b2386fd5b5a0466"), looks := false }, kinds := [], alts := [], laidByText := true, laidKinds := [.data, .widerDeep, .pinned], laidTests := true, laidLooks := .later }
def SayShowsCardSaid : Prop := Claim7.holds Tryd.pinned (.plain (OpenSpec.ofChange sayShowsSpec)) sayShowsCard

/-- THE TIED CARD OF 'tillermanlaw.BackChecks'. -/
def backChecksCard : Claim7 := { stood := { row := backChecksRow, standIns := [], harness := (true, "a3fb9256f5d0c1df84134da9eafd5f2484b46727b3516ea36b2386fd5b5a0466"), looks := false }, kinds := [], alts := [], laidByText := true, laidKinds := [.data, .widerDeep, .pinned], laidTests := true, laidLooks := .later }
def BackChecksCardSaid : Prop := Claim7.holds Tryd.pinned (.plain (OpenSpec.ofChange backChecksSpec)) backChecksCard

/-- THE TIED CARD OF 'tillermankeep.StmtsBad'. -/
def stmtsBadCard : Claim7 := { stood := { row := stmtsBadRow, standIns := [], harness := (true, "a3fb9256f5d0c1df84134da9eafd5f2484b46727b3516ea36b2386fd5b5a0466"), looks := false }, kinds := [], alts := [], laidByText := true, laidKinds := [.data, .widerDeep, .pinned], laidTests := true, laidLooks := .later }
def StmtsBadCardSaid : Prop := Claim7.holds Tryd.pinned (.plain (OpenSpec.ofChange stmtsBadSpec)) stmtsBadCard

/-- THE TIED CARD OF 'tillermankeep.StmtsBack'. -/
def stmtsBackCard : Claim7 := { stood := { row := stmtsBackRow, standIns := [], harness := (true, "a3fb9256f5d0c1df84134da9eafd5f2484b46727b3516ea36b2386fd5b5a0466"), looks := false }, kinds := [], alts := [], laidByText := true, laidKinds := [.data, .data, .data, .data, .widerDeep, .pinned], laidTests := true, laidLooks := .later }
def StmtsBackCardSaid : Prop := Claim7.holds Tryd.pinned (.plain (OpenSpec.ofChange stmtsBackSpec)) stmtsBackCard

/-- THE TIED CARD OF 'tillermanlaw.BackDoes'. -/
def backDoesCard : Claim7 := { stood := { row := backDoesRow, standIns := [], harness := (true, "a3fb9256f5d0c1df84134da9eafd5f2484b46727b3516ea36b2386fd5b5a0466"), looks := false }, kinds := [], alts := [], laidByText := true, laidKinds := [.data, .widerDeep, .pinned], laidTests := true, laidLooks := .later }
def BackDoesCardSaid : Prop := Claim7.holds Tryd.pinned (.plain (OpenSpec.ofChange backDoesSpec)) backDoesCard

/-- THE TIED CARD OF 'tillermankeep.BackGood'. -/
def backGoodCard : Claim7 := { stood := { row := backGoodRow, standIns := [], harness := (true, "a3fb9256f5d0c1df84134da9eafd5f2484b46727b3516ea36b2386fd5b5a0466"), looks := false }, kinds := [], alts := [], laidByText := true, laidKinds := [.data, .data, .data, .data, .widerDeep, .pinned], laidTests := true, laidLooks := .later }
def BackGoodCardSaid : Prop := Claim7.holds Tryd.pinned (.plain (OpenSpec.ofChange backGoodSpec)) backGoodCard

/-- THE TIED CARD OF 'tillermankeep.CommitsShow'. -/
def commitsShowCard : Claim7 := { stood := { row := commitsShowRow, standIns := [], harness := (true, "a3fb9256f5d0c1df84134da9eafd5f2484b46727b3516ea36b2386fd5b5a0466"), looks := false }, kinds := [], alts := [], laidByText := true, laidKinds := [.data, .data, .data, .data, .widerDeep, .pinned], laidTests := true, laidLooks := .later }
def CommitsShowCardSaid : Prop := Claim7.holds Tryd.pinned (.plain (OpenSpec.ofChange commitsShowSpec)) commitsShowCard

/-- THE TIED CARD OF 'tillermankeep.OthersStay'. -/
def othersStayCard : Claim7 := { stood := { row := othersStayRow, standIns := [], harness := (true, "a3fb9256f5d0c1df84134da9eafd5f2484b46727b3516ea36b2386fd5b5a0466"), looks := false }, kinds := [], alts := [], laidByText := true, laidKinds := [.data, .data, .data, .data, .widerDeep, .pinned], laidTests := true, laidLooks := .later }
def OthersStayCardSaid : Prop := Claim7.holds Tryd.pinned (.plain (OpenSpec.ofChange othersStaySpec)) othersStayCard

/-- THE TIED CARD OF 'tillermankeep.UndoneGone'. -/
def undoneGoneCard : Claim7 := { stood := { row := undoneGoneRow, standIns := [], harness := (true, "a3fb9256f5d0c1df84134da9eafd5f2484b46727b3516ea36b2386fd5b5a0466"), looks := false }, kinds := [], alts := [], laidByText := true, laidKinds := [.data, .data, .data, .data, .widerDeep, .pinned], laidTests := true, laidLooks := .later }
def UndoneGoneCardSaid : Prop := Claim7.holds Tryd.pinned (.plain (OpenSpec.ofChange undoneGoneSpec)) undoneGoneCard

/-- THE TIED CARD OF 'tillermankeep.PrepsRun'. -/
def prepsRunCard : Claim7 := { stood := { row := prepsRunRow, standIns := [], harness := (true, "a3fb9256f5d0c1df84134da9eafd5f2484b46727b3516ea36b2386fd5b5a0466"), looks := false }, kinds := [], alts := [], laidByText := true, laidKinds := [.data, .data, .data, .data, .widerDeep, .pinned], laidTests := true, laidLooks := .later }
def PrepsRunCardSaid : Prop := Claim7.holds Tryd.pinned (.plain (OpenSpec.ofChange prepsRunSpec)) prepsRunCard

/-- THE SECOND FORM's CARD OF 'tillermanlaw.SayShows'. -/
def sayShowsUptoCard : Claim7 := { stood := { row := sayShowsUptoRow, standIns := [], harness := (true, "a3fb9256f5d0c1df84134da9eafd5f2484b46727b3516ea36b2386fd5b5a0466"), looks := false }, kinds := [], alts := [], laidByText := true, laidKinds := [.data, .widerDeep, .pinned], laidTests := true, laidLooks := .later }
def SayShowsUptoCardSaid : Prop := Claim7.holds Tryd.pinned (.plain (OpenSpec.upto sayShowsSpec)) sayShowsUptoCard

/-- THE SECOND FORM's CARD OF 'tillermanlaw.BackChecks'. -/
def backChecksUptoCard : Claim7 := { stood := { row := backChecksUptoRow, standIns := [], harness := (true, "a3fb9256f5d0c1df84134da9eafd5f2484b46727b3516ea36b2386fd5b5a0466"), looks := false }, kinds := [], alts := [], laidByText := true, laidKinds := [.data, .widerDeep, .pinned], laidTests := true, laidLooks := .later }
def BackChecksUptoCardSaid : Prop := Claim7.holds Tryd.pinned (.plain (OpenSpec.upto backChecksSpec)) backChecksUptoCard

/-- THE SECOND FORM's CARD OF 'tillermankeep.StmtsBad'. -/
def stmtsBadUptoCard : Claim7 := { stood := { row := stmtsBadUptoRow, standIns := [], harness := (true, "a3fb9256f5d0c1df84134da9eafd5f2484b46727b3516ea36b2386fd5b5a0466"), looks := false }, kinds := [], alts := [], laidByText := true, laidKinds := [.data, .widerDeep, .pinned], laidTests := true, laidLooks := .later }
def StmtsBadUptoCardSaid : Prop := Claim7.holds Tryd.pinned (.plain (OpenSpec.upto stmtsBadSpec)) stmtsBadUptoCard

/-- THE SECOND FORM's CARD OF 'tillermankeep.StmtsBack'. -/
def stmtsBackUptoCard : Claim7 := { stood := { row := stmtsBackUptoRow, standIns := [], harness := (true, "a3fb9256f5d0c1df84134da9eafd5f2484b46727b3516ea36b2386fd5b5a0466"), looks := false }, kinds := [], alts := [], laidByText := true, laidKinds := [.data, .data, .data, .data, .widerDeep, .pinned], laidTests := true, laidLooks := .later }
def StmtsBackUptoCardSaid : Prop := Claim7.holds Tryd.pinned (.plain (OpenSpec.upto stmtsBackSpec)) stmtsBackUptoCard

/-- THE SECOND FORM's CARD OF 'tillermanlaw.BackDoes'. -/
def backDoesUptoCard : Claim7 := { stood := { row := backDoesUptoRow, standIns := [], harness := (true, "a3fb9256f5d0c1df84134da9eafd5f2484b46727b3516ea36b2386fd5b5a0466"), looks := false }, kinds := [], alts := [], laidByText := true, laidKinds := [.data, .widerDeep, .pinned], laidTests := true, laidLooks := .later }
def BackDoesUptoCardSaid : Prop := Claim7.holds Tryd.pinned (.plain (OpenSpec.upto backDoesSpec)) backDoesUptoCard

/-- THE SECOND FORM's CARD OF 'tillermankeep.BackGood'. -/
def backGoodUptoCard : Claim7 := { stood := { row := backGoodUptoRow, standIns := [], harness := (true, "a3fb9256f5d0c1df84134da9eafd5f2484b46727b3516ea36b2386fd5b5a0466"), looks := false }, kinds := [], alts := [], laidByText := true, laidKinds := [.data, .data, .data, .data, .widerDeep, .pinned], laidTests := true, laidLooks := .later }
def BackGoodUptoCardSaid : Prop := Claim7.holds Tryd.pinned (.plain (OpenSpec.upto backGoodSpec)) backGoodUptoCard

/-- THE SECOND FORM's CARD OF 'tillermankeep.CommitsShow'. -/
def commitsShowUptoCard : Claim7 := { stood := { row := commitsShowUptoRow, standIns := [], harness := (true, "a3fb9256f5d0c1df84134da9eafd5f2484b46727b3516ea36b2386fd5b5a0466"), looks := false }, kinds := [], alts := [], laidByText := true, laidKinds := [.data, .data, .data, .data, .widerDeep, .pinned], laidTests := true, laidLooks := .later }
def CommitsShowUptoCardSaid : Prop := Claim7.holds Tryd.pinned (.plain (OpenSpec.upto commitsShowSpec)) commitsShowUptoCard

/-- THE SECOND FORM's CARD OF 'tillermankeep.OthersStay'. -/
def othersStayUptoCard : Claim7 := { stood := { row := othersStayUptoRow, standIns := [], harness := (true, "a3fb9256f5d0c1df84134da9eafd5f2484b46727b3516ea36b2386fd5b5a0466"), looks := false }, kinds := [], alts := [], laidByText := true, laidKinds := [.data, .data, .data, .data, .widerDeep, .pinned], laidTests := true, laidLooks := .later }
def OthersStayUptoCardSaid : Prop := Claim7.holds Tryd.pinned (.plain (OpenSpec.upto othersStaySpec)) othersStayUptoCard

/-- THE SECOND FORM's CARD OF 'tillermankeep.UndoneGone'. -/
def undoneGoneUptoCard : Claim7 := { stood := { row := undoneGoneUptoRow, standIns := [], harness := (true, "a3fb9256f5d0c1df84134da9eafd5f2484b46727b3516ea36b2386fd5b5a0466"), looks := false }, kinds := [], alts := [], laidByText := true, laidKinds := [.data, .data, .data, .data, .widerDeep, .pinned], laidTests := true, laidLooks := .later }
def UndoneGoneUptoCardSaid : Prop := Claim7.holds Tryd.pinned (.plain (OpenSpec.upto undoneGoneSpec)) undoneGoneUptoCard

/-- THE SECOND FORM's CARD OF 'tillermankeep.PrepsRun'. -/
def prepsRunUptoCard : Claim7 := { stood := { row := prepsRunUptoRow, standIns := [], harness := (true, "a3fb9256f5d0c1df84134da9eafd5f2484b46727b3516ea36b2386fd5b5a0466"), looks := false }, kinds := [], alts := [], laidByText := true, laidKinds := [.data, .data, .data, .data, .widerDeep, .pinned], laidTests := true, laidLooks := .later }
def PrepsRunUptoCardSaid : Prop := Claim7.holds Tryd.pinned (.plain (OpenSpec.upto prepsRunSpec)) prepsRunUptoCard
end Rows
end Go.Proofs.YtjbnfigpflambabDoor
