/-
  DERIVED. GIVEN WITH THE SEED: THE CARDS: each row of YtglfkihckkjniaaGreatDoorRows.lean that lists a variable, with what it lists TIED to the program's text (the seventh form; the later family's looks); each row that meets fmt, with fmt's text TOLD by the authors' own Lean function (tested against real Go, not proved from fmt's source: count such statements apart). THE CARD IS WHAT COUNTS. Prove the row's statement (the work); the ties are given (YtglfkihckkjniaaGreatDoorTie.lean); close each card by the builder's one call (the guide's Derived/Test/ToyasCard.lean, 'card_holds'). Laid BY PROGRAM, IN A SANDBOX (cutbox-door.mjs). By AI agents, Wed Nov 11 2026. No macro, syntax, notation, axiom, sorry.
-/
import Derived.Test.YtglfkihckkjniaaGreatDoorRows
import GoSem.ClaimSeven
namespace Go.Proofs.YtglfkihckkjniaaGreatDoor
namespace Rows

/-- THE TIED CARD OF 'figureheadlaw16.PatternCompiles'. -/
def patternCompilesCard : Claim7 := { stood := { row := patternCompilesRow, standIns := [], harness := (true, "efc9b9724901080112084f73a697328dd09578dd28719bb0ac9c248973d7dd84"), looks := true }, kinds := [], alts := [], laidByText := true, laidKinds := [.data, .data, .pinned], laidTests := true, laidLooks := .later }
def PatternCompilesCardSaid : Prop := Claim7.holds Tryz.pinned (.plain (OpenSpec.ofChange patternCompilesSpec)) patternCompilesCard

/-- THE TIED CARD OF 'figureheadlaw16.PatternFaults'. -/
def patternFaultsCard : Claim7 := { stood := { row := patternFaultsRow, standIns := [], harness := (true, "efc9b9724901080112084f73a697328dd09578dd28719bb0ac9c248973d7dd84"), looks := true }, kinds := [], alts := [], laidByText := true, laidKinds := [.data, .data, .pinned], laidTests := true, laidLooks := .later }
def PatternFaultsCardSaid : Prop := Claim7.holds Tryz.pinned (.plain (OpenSpec.ofChange patternFaultsSpec)) patternFaultsCard

/-- THE TIED CARD OF 'figureheadlaw16.PatternNegs'. -/
def patternNegsCard : Claim7 := { stood := { row := patternNegsRow, standIns := [], harness := (true, "efc9b9724901080112084f73a697328dd09578dd28719bb0ac9c248973d7dd84"), looks := true }, kinds := [], alts := [], laidByText := true, laidKinds := [.data, .data, .pinned], laidTests := true, laidLooks := .later }
def PatternNegsCardSaid : Prop := Claim7.holds Tryz.pinned (.plain (OpenSpec.ofChange patternNegsSpec)) patternNegsCard

/-- THE TIED CARD OF 'figureheadlaw16.PatternIgnored'. -/
def patternIgnoredCard : Claim7 := { stood := { row := patternIgnoredRow, standIns := [], harness := (true, "efc9b9724901080112084f73a697328dd09578dd28719bb0ac9c248973d7dd84"), looks := true }, kinds := [], alts := [], laidByText := true, laidKinds := [.data, .data, .pinned], laidTests := true, laidLooks := .later }
def PatternIgnoredCardSaid : Prop := Claim7.holds Tryz.pinned (.plain (OpenSpec.ofChange patternIgnoredSpec)) patternIgnoredCard

/-- THE TIED CARD OF 'figureheadlaw16.PatternPads'. -/
def patternPadsCard : Claim7 := { stood := { row := patternPadsRow, standIns := [], harness := (true, "efc9b9724901080112084f73a697328dd09578dd28719bb0ac9c248973d7dd84"), looks := true }, kinds := [], alts := [], laidByText := true, laidKinds := [.data, .data, .pinned], laidTests := true, laidLooks := .later }
def PatternPadsCardSaid : Prop := Claim7.holds Tryz.pinned (.plain (OpenSpec.ofChange patternPadsSpec)) patternPadsCard

/-- THE TIED CARD OF 'figureheadlaw17.PrintPrints'. -/
def printPrintsCard : Claim7 := { stood := { row := printPrintsRow, standIns := [], harness := (true, "efc9b9724901080112084f73a697328dd09578dd28719bb0ac9c248973d7dd84"), looks := true }, kinds := [], alts := [], laidByText := true, laidKinds := [.data, .data, .pinned], laidTests := true, laidLooks := .later }
def PrintPrintsCardSaid : Prop := Claim7.holds Tryz.pinned (.plain (OpenSpec.ofChange printPrintsSpec)) printPrintsCard

/-- THE TIED CARD OF 'figureheadlaw17.PrintFixed'. -/
def printFixedCard : Claim7 := { stood := { row := printFixedRow, standIns := [], harness := (true, "efc9b9724901080112084f73a697328dd09578dd28719bb0ac9c248973d7dd84"), looks := true }, kinds := [], alts := [], laidByText := true, laidKinds := [.data, .data, .pinned], laidTests := true, laidLooks := .later }
def PrintFixedCardSaid : Prop := Claim7.holds Tryz.pinned (.plain (OpenSpec.ofChange printFixedSpec)) printFixedCard

/-- THE TIED CARD OF 'figureheadlaw17.PrintGood'. -/
def printGoodCard : Claim7 := { stood := { row := printGoodRow, standIns := [], harness := (true, "efc9b9724901080112084f73a697328dd09578dd28719bb0ac9c248973d7dd84"), looks := true }, kinds := [], alts := [], laidByText := true, laidKinds := [.data, .data, .pinned], laidTests := true, laidLooks := .later }
def PrintGoodCardSaid : Prop := Claim7.holds Tryz.pinned (.plain (OpenSpec.ofChange printGoodSpec)) printGoodCard

/-- THE TIED CARD OF 'figureheadlaw17.PrintTurned'. -/
def printTurnedCard : Claim7 := { stood := { row := printTurnedRow, standIns := [], harness := (true, "efc9b9724901080112084f73a697328dd09578dd28719bb0ac9c248973d7dd84"), looks := true }, kinds := [], alts := [], laidByText := true, laidKinds := [.data, .data, .pinned], laidTests := true, laidLooks := .later }
def PrintTurnedCardSaid : Prop := Claim7.holds Tryz.pinned (.plain (OpenSpec.ofChange printTurnedSpec)) printTurnedCard

/-- THE TIED CARD OF 'figureheadlaw17.PrintShort'. -/
def printShortCard : Claim7 := { stood := { row := printShortRow, standIns := [], harness := (true, "efc9b9724901080112084f73a697328dd09578dd28719bb0ac9c248973d7dd84"), looks := true }, kinds := [], alts := [], laidByText := true, laidKinds := [.data, .data, .pinned], laidTests := true, laidLooks := .later }
def PrintShortCardSaid : Prop := Claim7.holds Tryz.pinned (.plain (OpenSpec.ofChange printShortSpec)) printShortCard

/-- THE SECOND FORM's CARD OF 'figureheadlaw16.PatternCompiles'. -/
def patternCompilesUptoCard : Claim7 := { stood := { row := patternCompilesUptoRow, standIns := [], harness := (true, "efc9b9724901080112084f73a697328dd09578dd28719bb0ac9c248973d7dd84"), looks := true }, kinds := [], alts := [], laidByText := true, laidKinds := [.data, .data, .pinned], laidTests := true, laidLooks := .later }
def PatternCompilesUptoCardSaid : Prop := Claim7.holds Tryz.pinned (.plain (OpenSpec.upto patternCompilesSpec)) patternCompilesUptoCard

/-- THE SECOND FORM's CARD OF 'figureheadlaw16.PatternFaults'. -/
def patternFaultsUptoCard : Claim7 := { stood := { row := patternFaultsUptoRow, standIns := [], harness := (true, "efc9b9724901080112084f73a697328dd09578dd28719bb0ac9c248973d7dd84"), looks := true }, kinds := [], alts := [], laidByText := true, laidKinds := [.data, .data, .pinned], laidTests := true, laidLooks := .later }
def PatternFaultsUptoCardSaid : Prop := Claim7.holds Tryz.pinned (.plain (OpenSpec.upto patternFaultsSpec)) patternFaultsUptoCard

/-- THE SECOND FORM's CARD OF 'figureheadlaw16.PatternNegs'. -/
def patternNegsUptoCard : Claim7 := { stood := { row := patternNegsUptoRow, standIns := [], harness := (true, "efc9b9724901080112084f73a697328dd09578dd28719bb0ac9c248973d7dd84"), looks := true }, kinds := [], alts := [], laidByText := true, laidKinds := [.data, .data, .pinned], laidTests := true, laidLooks := .later }
def PatternNegsUptoCardSaid : Prop := Claim7.holds Tryz.pinned (.plain (OpenSpec.upto patternNegsSpec)) patternNegsUptoCard

/-- THE SECOND FORM's CARD OF 'figureheadlaw16.PatternIgnored'. -/
def patternIgnoredUptoCard : Claim7 := { stood := { row := patternIgnoredUptoRow, standIns := [], harness := (true, "efc9b9724901080112084f73a697328dd09578dd28719bb0ac9c248973d7dd84"), looks := true }, kinds := [], alts := [], laidByText := true, laidKinds := [.data, .data, .pinned], laidTests := true, laidLooks := .later }
def PatternIgnoredUptoCardSaid : Prop := Claim7.holds Tryz.pinned (.plain (OpenSpec.upto patternIgnoredSpec)) patternIgnoredUptoCard

/-- THE SECOND FORM's CARD OF 'figureheadlaw16.PatternPads'. -/
def patternPadsUptoCard : Claim7 := { stood := { row := patternPadsUptoRow, standIns := [], harness := (true, "efc9b9724901080112084f73a697328dd09578dd28719bb0ac9c248973d7dd84"), looks := true }, kinds := [], alts := [], laidByText := true, laidKinds := [.data, .data, .pinned], laidTests := true, laidLooks := .later }
def PatternPadsUptoCardSaid : Prop := Claim7.holds Tryz.pinned (.plain (OpenSpec.upto patternPadsSpec)) patternPadsUptoCard

/-- THE SECOND FORM's CARD OF 'figureheadlaw17.PrintPrints'. -/
def printPrintsUptoCard : Claim7 := { stood := { row := printPrintsUptoRow, standIns := [], harness := (true, "efc9b9724901080112084f73a697328dd09578dd28719bb0ac9c248973d7dd84"), looks := true }, kinds := [], alts := [], laidByText := true, laidKinds := [.data, .data, .pinned], laidTests := true, laidLooks := .later }
def PrintPrintsUptoCardSaid : Prop := Claim7.holds Tryz.pinned (.plain (OpenSpec.upto printPrintsSpec)) printPrintsUptoCard

/-- THE SECOND FORM's CARD OF 'figureheadlaw17.PrintFixed'. -/
def printFixedUptoCard : Claim7 := { stood := { row := printFixedUptoRow, standIns := [], harness := (true, "efc9b9724901080112084f73a697328dd09578dd28719bb0ac9c248973d7dd84"), looks := true }, kinds := [], alts := [], laidByText := true, laidKinds := [.data, .data, .pinned], laidTests := true, laidLooks := .later }
def PrintFixedUptoCardSaid : Prop := Claim7.holds Tryz.pinned (.plain (OpenSpec.upto printFixedSpec)) printFixedUptoCard

/-- THE SECOND FORM's CARD OF 'figureheadlaw17.PrintGood'. -/
def printGoodUptoCard : Claim7 := { stood := { row := printGoodUptoRow, standIns := [], harness := (true, "efc9b9724901080112084f73a697328dd09578dd28719bb0ac9c248973d7dd84"), looks := true }, kinds := [], alts := [], laidByText := true, laidKinds := [.data, .data, .pinned], laidTests := true, laidLooks := .later }
def PrintGoodUptoCardSaid : Prop := Claim7.holds Tryz.pinned (.plain (OpenSpec.upto printGoodSpec)) printGoodUptoCard

/-- THE SECOND FORM's CARD OF 'figureheadlaw17.PrintTurned'. -/
def printTurnedUptoCard : Claim7 := { stood := { row := printTurnedUptoRow, standIns := [], harness := (true, "efc9b9724901080112084f73a697328dd09578dd28719bb0ac9c248973d7dd84"), looks := true }, kinds := [], alts := [], laidByText := true, laidKinds := [.data, .data, .pinned], laidTests := true, laidLooks := .later }
def PrintTurnedUptoCardSaid : Prop := Claim7.holds Tryz.pinned (.plain (OpenSpec.upto printTurnedSpec)) printTurnedUptoCard

/-- THE SECOND FORM's CARD OF 'figureheadlaw17.PrintShort'. -/
def printShortUptoCard : Claim7 := { stood := { row := printShortUptoRow, standIns := [], harness := (true, "efc9b9724901080112084f73a697328dd09578dd28719bb0ac9c248973d7dd84"), looks := true }, kinds := [], alts := [], laidByText := true, laidKinds := [.data, .data, .pinned], laidTests := true, laidLooks := .later }
def PrintShortUptoCardSaid : Prop := Claim7.holds Tryz.pinned (.plain (OpenSpec.upto printShortSpec)) printShortUptoCard
end Rows
end Go.Proofs.YtglfkihckkjniaaGreatDoor
