/-
  DERIVED. GIVEN WITH THE SEED: THE CARDS: each row of YtcjplgcnjfinoaaDoorRows.lean that lists a variable, with what it lists TIED to the program's text (the seventh form; the later family's looks); each row that meets fmt, with fmt's text TOLD by the authors' own Lean function (tested against real Go, not proved from fmt's source: count such statements apart). THE CARD IS WHAT COUNTS. Prove the row's statement (the work); the ties are given (YtcjplgcnjfinoaaDoorTie.lean); close each card by the builder's one call (the guide's Derived/Test/ToyasCard.lean, 'card_holds'). Laid BY PROGRAM, IN A SANDBOX (cutbox-door.mjs). By AI agents, Wed Nov 11 2026. No macro, syntax, notation, axiom, sorry.
-/
import Derived.Test.YtcjplgcnjfinoaaDoorRows
import GoSem.ClaimSeven
namespace Go.Proofs.YtcjplgcnjfinoaaDoor
namespace Rows

/-- THE TIED CARD OF 'galleylaw20.FindFolds'. -/
def findFoldsCard : Claim7 := { stood := { row := findFoldsRow, standIns := [], harness := (true, "0252f26dc32cd0a7ff9fdcd89272330c5361e76b527aaa9d3bb3cd31de560502"), looks := true }, kinds := [], alts := [], laidByText := true, laidKinds := [.data, .data, .data, .data], laidTests := true, laidLooks := .later }
def FindFoldsCardSaid : Prop := Claim7.holds Tryd.pinned (.plain (OpenSpec.ofChange findFoldsSpec)) findFoldsCard

/-- THE TIED CARD OF 'galleylaw20.FindValid'. -/
def findValidCard : Claim7 := { stood := { row := findValidRow, standIns := [], harness := (true, "0252f26dc32cd0a7ff9fdcd89272330c5361e76b527aaa9d3bb3cd31de560502"), looks := true }, kinds := [], alts := [], laidByText := true, laidKinds := [.data, .data, .data, .data], laidTests := true, laidLooks := .later }
def FindValidCardSaid : Prop := Claim7.holds Tryd.pinned (.plain (OpenSpec.ofChange findValidSpec)) findValidCard

/-- THE TIED CARD OF 'galleylaw20.FindHits'. -/
def findHitsCard : Claim7 := { stood := { row := findHitsRow, standIns := [], harness := (true, "0252f26dc32cd0a7ff9fdcd89272330c5361e76b527aaa9d3bb3cd31de560502"), looks := true }, kinds := [], alts := [], laidByText := true, laidKinds := [.data, .data, .data, .data], laidTests := true, laidLooks := .later }
def FindHitsCardSaid : Prop := Claim7.holds Tryd.pinned (.plain (OpenSpec.ofChange findHitsSpec)) findHitsCard

/-- THE TIED CARD OF 'galleylaw20.FindLong'. -/
def findLongCard : Claim7 := { stood := { row := findLongRow, standIns := [], harness := (true, "0252f26dc32cd0a7ff9fdcd89272330c5361e76b527aaa9d3bb3cd31de560502"), looks := true }, kinds := [], alts := [], laidByText := true, laidKinds := [.data, .data, .data, .data], laidTests := true, laidLooks := .later }
def FindLongCardSaid : Prop := Claim7.holds Tryd.pinned (.plain (OpenSpec.ofChange findLongSpec)) findLongCard

/-- THE TIED CARD OF 'galleylaw20.FindAnswers'. -/
def findAnswersCard : Claim7 := { stood := { row := findAnswersRow, standIns := [], harness := (true, "0252f26dc32cd0a7ff9fdcd89272330c5361e76b527aaa9d3bb3cd31de560502"), looks := true }, kinds := [], alts := [], laidByText := true, laidKinds := [.data, .data, .data, .data], laidTests := true, laidLooks := .later }
def FindAnswersCardSaid : Prop := Claim7.holds Tryd.pinned (.plain (OpenSpec.ofChange findAnswersSpec)) findAnswersCard

/-- THE TIED CARD OF 'galleylaw20.FindNil'. -/
def findNilCard : Claim7 := { stood := { row := findNilRow, standIns := [], harness := (true, "0252f26dc32cd0a7ff9fdcd89272330c5361e76b527aaa9d3bb3cd31de560502"), looks := true }, kinds := [], alts := [], laidByText := true, laidKinds := [.data, .data, .data, .data], laidTests := true, laidLooks := .later }
def FindNilCardSaid : Prop := Claim7.holds Tryd.pinned (.plain (OpenSpec.ofChange findNilSpec)) findNilCard

/-- THE TIED CARD OF 'galleylaw20.FindOwn'. -/
def findOwnCard : Claim7 := { stood := { row := findOwnRow, standIns := [], harness := (true, "0252f26dc32cd0a7ff9fdcd89272330c5361e76b527aaa9d3bb3cd31de560502"), looks := true }, kinds := [], alts := [], laidByText := true, laidKinds := [.data, .data, .data, .data], laidTests := true, laidLooks := .later }
def FindOwnCardSaid : Prop := Claim7.holds Tryd.pinned (.plain (OpenSpec.ofChange findOwnSpec)) findOwnCard

/-- THE TIED CARD OF 'galleylaw20.FindReplaces'. -/
def findReplacesCard : Claim7 := { stood := { row := findReplacesRow, standIns := [], harness := (true, "0252f26dc32cd0a7ff9fdcd89272330c5361e76b527aaa9d3bb3cd31de560502"), looks := true }, kinds := [], alts := [], laidByText := true, laidKinds := [.data, .data, .data, .data], laidTests := true, laidLooks := .later }
def FindReplacesCardSaid : Prop := Claim7.holds Tryd.pinned (.plain (OpenSpec.ofChange findReplacesSpec)) findReplacesCard

/-- THE SECOND FORM's CARD OF 'galleylaw20.FindFolds'. -/
def findFoldsUptoCard : Claim7 := { stood := { row := findFoldsUptoRow, standIns := [], harness := (true, "0252f26dc32cd0a7ff9fdcd89272330c5361e76b527aaa9d3bb3cd31de560502"), looks := true }, kinds := [], alts := [], laidByText := true, laidKinds := [.data, .data, .data, .data], laidTests := true, laidLooks := .later }
def FindFoldsUptoCardSaid : Prop := Claim7.holds Tryd.pinned (.plain (OpenSpec.upto findFoldsSpec)) findFoldsUptoCard

/-- THE SECOND FORM's CARD OF 'galleylaw20.FindValid'. -/
def findValidUptoCard : Claim7 := { stood := { row := findValidUptoRow, standIns := [], harness := (true, "0252f26dc32cd0a7ff9fdcd89272330c5361e76b527aaa9d3bb3cd31de560502"), looks := true }, kinds := [], alts := [], laidByText := true, laidKinds := [.data, .data, .data, .data], laidTests := true, laidLooks := .later }
def FindValidUptoCardSaid : Prop := Claim7.holds Tryd.pinned (.plain (OpenSpec.upto findValidSpec)) findValidUptoCard

/-- THE SECOND FORM's CARD OF 'galleylaw20.FindHits'. -/
def findHitsUptoCard : Claim7 := { stood := { row := findHitsUptoRow, standIns := [], harness := (true, "0252f26dc32cd0a7ff9fdcd89272330c5361e76b527aaa9d3bb3cd31de560502"), looks := true }, kinds := [], alts := [], laidByText := true, laidKinds := [.data, .data, .data, .data], laidTests := true, laidLooks := .later }
def FindHitsUptoCardSaid : Prop := Claim7.holds Tryd.pinned (.plain (OpenSpec.upto findHitsSpec)) findHitsUptoCard

/-- THE SECOND FORM's CARD OF 'galleylaw20.FindLong'. -/
def findLongUptoCard : Claim7 := { stood := { row := findLongUptoRow, standIns := [], harness := (true, "0252f26dc32cd0a7ff9fdcd89272330c5361e76b527aaa9d3bb3cd31de560502"), looks := true }, kinds := [], alts := [], laidByText := true, laidKinds := [.data, .data, .data, .data], laidTests := true, laidLooks := .later }
def FindLongUptoCardSaid : Prop := Claim7.holds Tryd.pinned (.plain (OpenSpec.upto findLongSpec)) findLongUptoCard

/-- THE SECOND FORM's CARD OF 'galleylaw20.FindAnswers'. -/
def findAnswersUptoCard : Claim7 := { stood := { row := findAnswersUptoRow, standIns := [], harness := (true, "0252f26dc32cd0a7ff9fdcd89272330c5361e76b527aaa9d3bb3cd31de560502"), looks := true }, kinds := [], alts := [], laidByText := true, laidKinds := [.data, .data, .data, .data], laidTests := true, laidLooks := .later }
def FindAnswersUptoCardSaid : Prop := Claim7.holds Tryd.pinned (.plain (OpenSpec.upto findAnswersSpec)) findAnswersUptoCard

/-- THE SECOND FORM's CARD OF 'galleylaw20.FindNil'. -/
def findNilUptoCard : Claim7 := { stood := { row := findNilUptoRow, standIns := [], harness := (true, "0252f26dc32cd0a7ff9fdcd89272330c5361e76b527aaa9d3bb3cd31de560502"), looks := true }, kinds := [], alts := [], laidByText := true, laidKinds := [.data, .data, .data, .data], laidTests := true, laidLooks := .later }
def FindNilUptoCardSaid : Prop := Claim7.holds Tryd.pinned (.plain (OpenSpec.upto findNilSpec)) findNilUptoCard

/-- THE SECOND FORM's CARD OF 'galleylaw20.FindOwn'. -/
def findOwnUptoCard : Claim7 := { stood := { row := findOwnUptoRow, standIns := [], harness := (true, "0252f26dc32cd0a7ff9fdcd89272330c5361e76b527aaa9d3bb3cd31de560502"), looks := true }, kinds := [], alts := [], laidByText := true, laidKinds := [.data, .data, .data, .data], laidTests := true, laidLooks := .later }
def FindOwnUptoCardSaid : Prop := Claim7.holds Tryd.pinned (.plain (OpenSpec.upto findOwnSpec)) findOwnUptoCard

/-- THE SECOND FORM's CARD OF 'galleylaw20.FindReplaces'. -/
def findReplacesUptoCard : Claim7 := { stood := { row := findReplacesUptoRow, standIns := [], harness := (true, "0252f26dc32cd0a7ff9fdcd89272330c5361e76b527aaa9d3bb3cd31de560502"), looks := true }, kinds := [], alts := [], laidByText := true, laidKinds := [.data, .data, .data, .data], laidTests := true, laidLooks := .later }
def FindReplacesUptoCardSaid : Prop := Claim7.holds Tryd.pinned (.plain (OpenSpec.upto findReplacesSpec)) findReplacesUptoCard
end Rows
end Go.Proofs.YtcjplgcnjfinoaaDoor
