/-
  DERIVED. GIVEN WITH THE SEED: THE CARDS: each row of YtbckbkcpfejllaaGreatDoorRows.lean that lists a variable, with what it lists TIED to the program's text (the seventh form; the later family's looks); each row that meets fmt, with fmt's text TOLD by the authors' own Lean function (tested against real Go, not proved from fmt's source: count such statements apart). THE CARD IS WHAT COUNTS. Prove the row's statement (the work); the ties are given (YtbckbkcpfejllaaGreatDoorTie.lean); close each card by the builder's one call (the guide's Derived/Test/ToyasCard.lean, 'card_holds'). Laid BY PROGRAM, IN A SANDBOX (cutbox-door.mjs). By AI agents, Wed Nov 11 2026. No macro, syntax, notation, axiom, sorry.
-/
import Derived.Test.YtbckbkcpfejllaaGreatDoorRows
import GoSem.ClaimSeven
namespace Go.Proofs.YtbckbkcpfejllaaGreatDoor
namespace Rows

/-- THE TIED CARD OF 'bellowslaw04.DiskSure'. -/
def diskSureCard : Claim7 := { stood := { row := diskSureRow, standIns := [], harness := (true, "74afe28eb566922dd56c786a868c7362e16c80cd67ad75b114c0f44fb834567e"), looks := true }, kinds := [], alts := [], laidByText := true, laidKinds := [.data, .pinned], laidTests := true, laidLooks := .later }
def DiskSureCardSaid : Prop := Claim7.holds Tryz.pinned (.plain (OpenSpec.ofChange diskSureSpec)) diskSureCard

/-- THE TIED CARD OF 'bellowslaw04.DiskTimes'. -/
def diskTimesCard : Claim7 := { stood := { row := diskTimesRow, standIns := [], harness := (true, "74afe28eb566922dd56c786a868c7362e16c80cd67ad75b114c0f44fb834567e"), looks := true }, kinds := [], alts := [], laidByText := true, laidKinds := [.data, .pinned], laidTests := true, laidLooks := .later }
def DiskTimesCardSaid : Prop := Claim7.holds Tryz.pinned (.plain (OpenSpec.ofChange diskTimesSpec)) diskTimesCard

/-- THE TIED CARD OF 'bellowslaw04.DiskNone'. -/
def diskNoneCard : Claim7 := { stood := { row := diskNoneRow, standIns := [], harness := (true, "74afe28eb566922dd56c786a868c7362e16c80cd67ad75b114c0f44fb834567e"), looks := true }, kinds := [], alts := [], laidByText := true, laidKinds := [.data, .pinned], laidTests := true, laidLooks := .later }
def DiskNoneCardSaid : Prop := Claim7.holds Tryz.pinned (.plain (OpenSpec.ofChange diskNoneSpec)) diskNoneCard

/-- THE TIED CARD OF 'bellowslaw05.ReclogSpare'. -/
def reclogSpareCard : Claim7 := { stood := { row := reclogSpareRow, standIns := [], harness := (true, "74afe28eb566922dd56c786a868c7362e16c80cd67ad75b114c0f44fb834567e"), looks := true }, kinds := [], alts := [], laidByText := true, laidKinds := [.data, .pinned], laidTests := true, laidLooks := .later }
def ReclogSpareCardSaid : Prop := Claim7.holds Tryz.pinned (.plain (OpenSpec.ofChange reclogSpareSpec)) reclogSpareCard

/-- THE TIED CARD OF 'bellowslaw05.ReclogRewrites'. -/
def reclogRewritesCard : Claim7 := { stood := { row := reclogRewritesRow, standIns := [], harness := (true, "74afe28eb566922dd56c786a868c7362e16c80cd67ad75b114c0f44fb834567e"), looks := true }, kinds := [], alts := [], laidByText := true, laidKinds := [.data, .pinned], laidTests := true, laidLooks := .later }
def ReclogRewritesCardSaid : Prop := Claim7.holds Tryz.pinned (.plain (OpenSpec.ofChange reclogRewritesSpec)) reclogRewritesCard

/-- THE TIED CARD OF 'bellowslaw05.ReclogSure'. -/
def reclogSureCard : Claim7 := { stood := { row := reclogSureRow, standIns := [], harness := (true, "74afe28eb566922dd56c786a868c7362e16c80cd67ad75b114c0f44fb834567e"), looks := true }, kinds := [], alts := [], laidByText := true, laidKinds := [.data, .pinned], laidTests := true, laidLooks := .later }
def ReclogSureCardSaid : Prop := Claim7.holds Tryz.pinned (.plain (OpenSpec.ofChange reclogSureSpec)) reclogSureCard

/-- THE TIED CARD OF 'bellowslaw08.DbFull'. -/
def dbFullCard : Claim7 := { stood := { row := dbFullRow, standIns := [], harness := (true, "74afe28eb566922dd56c786a868c7362e16c80cd67ad75b114c0f44fb834567e"), looks := true }, kinds := [], alts := [], laidByText := true, laidKinds := [.data, .pinned], laidTests := true, laidLooks := .later }
def DbFullCardSaid : Prop := Claim7.holds Tryz.pinned (.plain (OpenSpec.ofChange dbFullSpec)) dbFullCard

/-- THE TIED CARD OF 'bellowslaw08.DbMarks'. -/
def dbMarksCard : Claim7 := { stood := { row := dbMarksRow, standIns := [], harness := (true, "74afe28eb566922dd56c786a868c7362e16c80cd67ad75b114c0f44fb834567e"), looks := true }, kinds := [], alts := [], laidByText := true, laidKinds := [.data, .pinned], laidTests := true, laidLooks := .later }
def DbMarksCardSaid : Prop := Claim7.holds Tryz.pinned (.plain (OpenSpec.ofChange dbMarksSpec)) dbMarksCard

/-- THE TIED CARD OF 'bellowslaw08.DbOpens'. -/
def dbOpensCard : Claim7 := { stood := { row := dbOpensRow, standIns := [], harness := (true, "74afe28eb566922dd56c786a868c7362e16c80cd67ad75b114c0f44fb834567e"), looks := true }, kinds := [], alts := [], laidByText := true, laidKinds := [.data, .pinned], laidTests := true, laidLooks := .later }
def DbOpensCardSaid : Prop := Claim7.holds Tryz.pinned (.plain (OpenSpec.ofChange dbOpensSpec)) dbOpensCard

/-- THE TIED CARD OF 'bellowslaw08.DbPuts'. -/
def dbPutsCard : Claim7 := { stood := { row := dbPutsRow, standIns := [], harness := (true, "74afe28eb566922dd56c786a868c7362e16c80cd67ad75b114c0f44fb834567e"), looks := true }, kinds := [], alts := [], laidByText := true, laidKinds := [.data, .pinned], laidTests := true, laidLooks := .later }
def DbPutsCardSaid : Prop := Claim7.holds Tryz.pinned (.plain (OpenSpec.ofChange dbPutsSpec)) dbPutsCard

/-- THE TIED CARD OF 'bellowslaw08.DbSure'. -/
def dbSureCard : Claim7 := { stood := { row := dbSureRow, standIns := [], harness := (true, "74afe28eb566922dd56c786a868c7362e16c80cd67ad75b114c0f44fb834567e"), looks := true }, kinds := [], alts := [], laidByText := true, laidKinds := [.data, .pinned], laidTests := true, laidLooks := .later }
def DbSureCardSaid : Prop := Claim7.holds Tryz.pinned (.plain (OpenSpec.ofChange dbSureSpec)) dbSureCard

/-- THE TIED CARD OF 'bellowslaw08.DbCompacts'. -/
def dbCompactsCard : Claim7 := { stood := { row := dbCompactsRow, standIns := [], harness := (true, "74afe28eb566922dd56c786a868c7362e16c80cd67ad75b114c0f44fb834567e"), looks := true }, kinds := [], alts := [], laidByText := true, laidKinds := [.data, .pinned], laidTests := true, laidLooks := .later }
def DbCompactsCardSaid : Prop := Claim7.holds Tryz.pinned (.plain (OpenSpec.ofChange dbCompactsSpec)) dbCompactsCard

/-- THE TIED CARD OF 'bellowslaw08.DbNone'. -/
def dbNoneCard : Claim7 := { stood := { row := dbNoneRow, standIns := [], harness := (true, "74afe28eb566922dd56c786a868c7362e16c80cd67ad75b114c0f44fb834567e"), looks := true }, kinds := [], alts := [], laidByText := true, laidKinds := [.data, .pinned], laidTests := true, laidLooks := .later }
def DbNoneCardSaid : Prop := Claim7.holds Tryz.pinned (.plain (OpenSpec.ofChange dbNoneSpec)) dbNoneCard

/-- THE SECOND FORM's CARD OF 'bellowslaw04.DiskSure'. -/
def diskSureUptoCard : Claim7 := { stood := { row := diskSureUptoRow, standIns := [], harness := (true, "74afe28eb566922dd56c786a868c7362e16c80cd67ad75b114c0f44fb834567e"), looks := true }, kinds := [], alts := [], laidByText := true, laidKinds := [.data, .pinned], laidTests := true, laidLooks := .later }
def DiskSureUptoCardSaid : Prop := Claim7.holds Tryz.pinned (.plain (OpenSpec.upto diskSureSpec)) diskSureUptoCard

/-- THE SECOND FORM's CARD OF 'bellowslaw04.DiskTimes'. -/
def diskTimesUptoCard : Claim7 := { stood := { row := diskTimesUptoRow, standIns := [], harness := (true, "74afe28eb566922dd56c786a868c7362e16c80cd67ad75b114c0f44fb834567e"), looks := true }, kinds := [], alts := [], laidByText := true, laidKinds := [.data, .pinned], laidTests := true, laidLooks := .later }
def DiskTimesUptoCardSaid : Prop := Claim7.holds Tryz.pinned (.plain (OpenSpec.upto diskTimesSpec)) diskTimesUptoCard

/-- THE SECOND FORM's CARD OF 'bellowslaw04.DiskNone'. -/
def diskNoneUptoCard : Claim7 := { stood := { row := diskNoneUptoRow, standIns := [], harness := (true, "74afe28eb566922dd56c786a868c7362e16c80cd67ad75b114c0f44fb834567e"), looks := true }, kinds := [], alts := [], laidByText := true, laidKinds := [.data, .pinned], laidTests := true, laidLooks := .later }
def DiskNoneUptoCardSaid : Prop := Claim7.holds Tryz.pinned (.plain (OpenSpec.upto diskNoneSpec)) diskNoneUptoCard

/-- THE SECOND FORM's CARD OF 'bellowslaw05.ReclogSpare'. -/
def reclogSpareUptoCard : Claim7 := { stood := { row := reclogSpareUptoRow, standIns := [], harness := (true, "74afe28eb566922dd56c786a868c7362e16c80cd67ad75b114c0f44fb834567e"), looks := true }, kinds := [], alts := [], laidByText := true, laidKinds := [.data, .pinned], laidTests := true, laidLooks := .later }
def ReclogSpareUptoCardSaid : Prop := Claim7.holds Tryz.pinned (.plain (OpenSpec.upto reclogSpareSpec)) reclogSpareUptoCard

/-- THE SECOND FORM's CARD OF 'bellowslaw05.ReclogRewrites'. -/
def reclogRewritesUptoCard : Claim7 := { stood := { row := reclogRewritesUptoRow, standIns := [], harness := (true, "74afe28eb566922dd56c786a868c7362e16c80cd67ad75b114c0f44fb834567e"), looks := true }, kinds := [], alts := [], laidByText := true, laidKinds := [.data, .pinned], laidTests := true, laidLooks := .later }
def ReclogRewritesUptoCardSaid : Prop := Claim7.holds Tryz.pinned (.plain (OpenSpec.upto reclogRewritesSpec)) reclogRewritesUptoCard

/-- THE SECOND FORM's CARD OF 'bellowslaw05.ReclogSure'. -/
def reclogSureUptoCard : Claim7 := { stood := { row := reclogSureUptoRow, standIns := [], harness := (true, "74afe28eb566922dd56c786a868c7362e16c80cd67ad75b114c0f44fb834567e"), looks := true }, kinds := [], alts := [], laidByText := true, laidKinds := [.data, .pinned], laidTests := true, laidLooks := .later }
def ReclogSureUptoCardSaid : Prop := Claim7.holds Tryz.pinned (.plain (OpenSpec.upto reclogSureSpec)) reclogSureUptoCard

/-- THE SECOND FORM's CARD OF 'bellowslaw08.DbFull'. -/
def dbFullUptoCard : Claim7 := { stood := { row := dbFullUptoRow, standIns := [], harness := (true, "74afe28eb566922dd56c786a868c7362e16c80cd67ad75b114c0f44fb834567e"), looks := true }, kinds := [], alts := [], laidByText := true, laidKinds := [.data, .pinned], laidTests := true, laidLooks := .later }
def DbFullUptoCardSaid : Prop := Claim7.holds Tryz.pinned (.plain (OpenSpec.upto dbFullSpec)) dbFullUptoCard

/-- THE SECOND FORM's CARD OF 'bellowslaw08.DbMarks'. -/
def dbMarksUptoCard : Claim7 := { stood := { row := dbMarksUptoRow, standIns := [], harness := (true, "74afe28eb566922dd56c786a868c7362e16c80cd67ad75b114c0f44fb834567e"), looks := true }, kinds := [], alts := [], laidByText := true, laidKinds := [.data, .pinned], laidTests := true, laidLooks := .later }
def DbMarksUptoCardSaid : Prop := Claim7.holds Tryz.pinned (.plain (OpenSpec.upto dbMarksSpec)) dbMarksUptoCard

/-- THE SECOND FORM's CARD OF 'bellowslaw08.DbOpens'. -/
def dbOpensUptoCard : Claim7 := { stood := { row := dbOpensUptoRow, standIns := [], harness := (true, "74afe28eb566922dd56c786a868c7362e16c80cd67ad75b114c0f44fb834567e"), looks := true }, kinds := [], alts := [], laidByText := true, laidKinds := [.data, .pinned], laidTests := true, laidLooks := .later }
def DbOpensUptoCardSaid : Prop := Claim7.holds Tryz.pinned (.plain (OpenSpec.upto dbOpensSpec)) dbOpensUptoCard

/-- THE SECOND FORM's CARD OF 'bellowslaw08.DbPuts'. -/
def dbPutsUptoCard : Claim7 := { stood := { row := dbPutsUptoRow, standIns := [], harness := (true, "74afe28eb566922dd56c786a868c7362e16c80cd67ad75b114c0f44fb834567e"), looks := true }, kinds := [], alts := [], laidByText := true, laidKinds := [.data, .pinned], laidTests := true, laidLooks := .later }
def DbPutsUptoCardSaid : Prop := Claim7.holds Tryz.pinned (.plain (OpenSpec.upto dbPutsSpec)) dbPutsUptoCard

/-- THE SECOND FORM's CARD OF 'bellowslaw08.DbSure'. -/
def dbSureUptoCard : Claim7 := { stood := { row := dbSureUptoRow, standIns := [], harness := (true, "74afe28eb566922dd56c786a868c7362e16c80cd67ad75b114c0f44fb834567e"), looks := true }, kinds := [], alts := [], laidByText := true, laidKinds := [.data, .pinned], laidTests := true, laidLooks := .later }
def DbSureUptoCardSaid : Prop := Claim7.holds Tryz.pinned (.plain (OpenSpec.upto dbSureSpec)) dbSureUptoCard

/-- THE SECOND FORM's CARD OF 'bellowslaw08.DbCompacts'. -/
def dbCompactsUptoCard : Claim7 := { stood := { row := dbCompactsUptoRow, standIns := [], harness := (true, "74afe28eb566922dd56c786a868c7362e16c80cd67ad75b114c0f44fb834567e"), looks := true }, kinds := [], alts := [], laidByText := true, laidKinds := [.data, .pinned], laidTests := true, laidLooks := .later }
def DbCompactsUptoCardSaid : Prop := Claim7.holds Tryz.pinned (.plain (OpenSpec.upto dbCompactsSpec)) dbCompactsUptoCard

/-- THE SECOND FORM's CARD OF 'bellowslaw08.DbNone'. -/
def dbNoneUptoCard : Claim7 := { stood := { row := dbNoneUptoRow, standIns := [], harness := (true, "74afe28eb566922dd56c786a868c7362e16c80cd67ad75b114c0f44fb834567e"), looks := true }, kinds := [], alts := [], laidByText := true, laidKinds := [.data, .pinned], laidTests := true, laidLooks := .later }
def DbNoneUptoCardSaid : Prop := Claim7.holds Tryz.pinned (.plain (OpenSpec.upto dbNoneSpec)) dbNoneUptoCard
end Rows
end Go.Proofs.YtbckbkcpfejllaaGreatDoor
