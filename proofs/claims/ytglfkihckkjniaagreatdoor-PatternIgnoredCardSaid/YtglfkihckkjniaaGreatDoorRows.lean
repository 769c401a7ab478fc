/-
  NARROWER THAN 'FOR EVERY INPUT', by the rows' own cells (each row's printed sentence says how): PatternCompiles: laid · PatternFaults: laid · PatternNegs: laid · PatternIgnored: laid · PatternPads: laid · PrintPrints: laid · PrintFixed: laid · PrintGood: laid · PrintTurned: laid · PrintShort: laid.
  DERIVED. THE GIVEN ROWS OF THIS SEAT. 10 by the template 'for every input the law returns true; each argument reads behind the call as it read before'; 0 by the template 'total and deterministic' (their statements: YtglfkihckkjniaaGreatDoorTotals.lean).
  GIVEN WITH THE SEED: the statements are not yours to turn. If you find one false, say at which input.
  Laid BY PROGRAM, IN A SANDBOX (cutbox-rows.mjs): the forced cells as the released guide's own fill.sh prints them over the translation 12b9328718540fc7… (all of the seat's roots in one cut). By AI agents, Wed Nov 11 2026. No macro, syntax, notation, axiom, sorry.
-/
import Derived.Test.YtglfkihckkjniaaGreatDoorChecked
import GoSem.PinnedTables
import GoSem.Claim
import GoSem.ClaimJoined
import GoSem.ClaimMapViews
import Derived.JoinedTies
import Derived.KernelRfl
namespace Go.Proofs.YtglfkihckkjniaaGreatDoor
/- THE CELL 'sum', in the pinned program and in every row, IS THE sha256 OF THE DUMP (.gsa) THAT YtglfkihckkjniaaGreatDoorProg.lean LOADS. Nothing in Lean hashes anything: it is a label: what it is worth is what the hold of that sum in a sandbox is worth. -/
noncomputable def Tryz.pinned : Pinned := { name := "ytglfkihckkjniaagreatdoor", sum := "12b9328718540fc7b7b5073c2d15fd8397ae17e8e1a7017344e3fffbbb103be1", checked := Tryz.checked }
namespace Rows
def none {H : Type} : Left H := { results := [], args := [] }

/- WHAT THE LISTED PACKAGE-LEVEL VARIABLES READ AS WHEN THE CALL BEGINS. Each datum BY PROGRAM (the guide's laid-datum.mjs) off the statement by which the dump's own 'gosem.cut.vars' lays the variable. In a bare row this is a premise. The card (YtglfkihckkjniaaGreatDoorCards.lean) ties it to the program's text. -/
def laid_unicode_utf8_acceptRanges {H : Type} : DataW H := .agg [.agg [.lit (.int .u8 128), .lit (.int .u8 191)], .agg [.lit (.int .u8 160), .lit (.int .u8 191)], .agg [.lit (.int .u8 128), .lit (.int .u8 159)], .agg [.lit (.int .u8 144), .lit (.int .u8 191)], .agg [.lit (.int .u8 128), .lit (.int .u8 143)], .agg [.lit (.int .u8 0), .lit (.int .u8 0)], .agg [.lit (.int .u8 0), .lit (.int .u8 0)], .agg [.lit (.int .u8 0), .lit (.int .u8 0)], .agg [.lit (.int .u8 0), .lit (.int .u8 0)], .agg [.lit (.int .u8 0), .lit (.int .u8 0)], .agg [.lit (.int .u8 0), .lit (.int .u8 0)], .agg [.lit (.int .u8 0), .lit (.int .u8 0)], .agg [.lit (.int .u8 0), .lit (.int .u8 0)], .agg [.lit (.int .u8 0), .lit (.int .u8 0)], .agg [.lit (.int .u8 0), .lit (.int .u8 0)], .agg [.lit (.int .u8 0), .lit (.int .u8 0)]]
def laid_figurehead_affix_signs {H : Type} : DataW H := .agg [.agg [.lit (.int .i64 2), .lit (.int .i32 45)], .agg [.lit (.int .i64 3), .lit (.int .i32 43)], .agg [.lit (.int .i64 4), .lit (.int .i32 37)], .agg [.lit (.int .i64 5), .lit (.int .i32 8240)], .agg [.lit (.int .i64 6), .lit (.int .i32 164)]]
/-- One of Go's own tables, pinned by name: the form's constant. -/
def laid_unicode_utf8_first : DataW Unit := Go.Pinned.utf8First

/-- 'figureheadlaw16.PatternCompiles': WHATEVER THE INPUT: true; the input reads as it did. -/
def patternCompilesSpec : ChangeSpec := { name := "patternCompiles", fn := fun _ => fun
  | [d] => { results := [.lit (.bool true)], args := [d] }
  | _ => none }
def patternCompilesRow : OpenClaim := { program := "ytglfkihckkjniaagreatdoor", sum := "12b9328718540fc7b7b5073c2d15fd8397ae17e8e1a7017344e3fffbbb103be1", func := "figurehead/figureheadlaw16.PatternCompiles", spec := "patternCompiles", inPlace := ["internal/abi.NoEscape", "internal/bytealg.IndexByteString", "internal/bytealg.IndexString", "internal/bytealg.CountString", "internal/bytealg.MakeNoZero"], unfollowed := true, recurses := true, named := ["unicode/utf8.first", "unicode/utf8.acceptRanges", "figurehead/affix.signs", "internal/bytealg.MaxLen"], apart := false, laid := [("unicode/utf8.acceptRanges", laid_unicode_utf8_acceptRanges), ("figurehead/affix.signs", laid_figurehead_affix_signs), ("unicode/utf8.first", laid_unicode_utf8_first)] }
def PatternCompilesSaid : Prop := patternCompilesRow.holds Tryz.pinned (OpenSpec.ofChange patternCompilesSpec)

/-- ITS FALSE NEIGHBOUR: 'it returns false'. Refute it at one input. -/
def patternCompilesWrong : ChangeSpec := { name := "patternCompiles", fn := fun _ => fun
  | [d] => { results := [.lit (.bool false)], args := [d] }
  | _ => none }
def PatternCompilesWrongFalsely : Prop := patternCompilesRow.holds Tryz.pinned (OpenSpec.ofChange patternCompilesWrong)

/-- 'figureheadlaw16.PatternFaults': WHATEVER THE INPUT: true; the input reads as it did. -/
def patternFaultsSpec : ChangeSpec := { name := "patternFaults", fn := fun _ => fun
  | [d] => { results := [.lit (.bool true)], args := [d] }
  | _ => none }
def patternFaultsRow : OpenClaim := { program := "ytglfkihckkjniaagreatdoor", sum := "12b9328718540fc7b7b5073c2d15fd8397ae17e8e1a7017344e3fffbbb103be1", func := "figurehead/figureheadlaw16.PatternFaults", spec := "patternFaults", inPlace := ["internal/abi.NoEscape", "internal/bytealg.IndexByteString", "internal/bytealg.IndexString", "internal/bytealg.CountString", "internal/bytealg.MakeNoZero"], unfollowed := true, recurses := true, named := ["unicode/utf8.first", "unicode/utf8.acceptRanges", "figurehead/affix.signs", "internal/bytealg.MaxLen"], apart := false, laid := [("unicode/utf8.acceptRanges", laid_unicode_utf8_acceptRanges), ("figurehead/affix.signs", laid_figurehead_affix_signs), ("unicode/utf8.first", laid_unicode_utf8_first)] }
def PatternFaultsSaid : Prop := patternFaultsRow.holds Tryz.pinned (OpenSpec.ofChange patternFaultsSpec)

/-- ITS FALSE NEIGHBOUR: 'it returns false'. Refute it at one input. -/
def patternFaultsWrong : ChangeSpec := { name := "patternFaults", fn := fun _ => fun
  | [d] => { results := [.lit (.bool false)], args := [d] }
  | _ => none }
def PatternFaultsWrongFalsely : Prop := patternFaultsRow.holds Tryz.pinned (OpenSpec.ofChange patternFaultsWrong)

/-- 'figureheadlaw16.PatternNegs': WHATEVER THE INPUT: true; the input reads as it did. -/
def patternNegsSpec : ChangeSpec := { name := "patternNegs", fn := fun _ => fun
  | [d1, d2, d3] => { results := [.lit (.bool true)], args := [d1, d2, d3] }
  | _ => none }
def patternNegsRow : OpenClaim := { program := "ytglfkihckkjniaagreatdoor", sum := "12b9328718540fc7b7b5073c2d15fd8397ae17e8e1a7017344e3fffbbb103be1", func := "figurehead/figureheadlaw16.PatternNegs", spec := "patternNegs", inPlace := ["internal/abi.NoEscape", "internal/bytealg.IndexByteString", "internal/bytealg.IndexString", "internal/bytealg.CountString", "internal/bytealg.MakeNoZero"], unfollowed := true, recurses := true, named := ["unicode/utf8.first", "unicode/utf8.acceptRanges", "figurehead/affix.signs", "internal/bytealg.MaxLen"], apart := false, laid := [("unicode/utf8.acceptRanges", laid_unicode_utf8_acceptRanges), ("figurehead/affix.signs", laid_figurehead_affix_signs), ("unicode/utf8.first", laid_unicode_utf8_first)] }
def PatternNegsSaid : Prop := patternNegsRow.holds Tryz.pinned (OpenSpec.ofChange patternNegsSpec)

/-- ITS FALSE NEIGHBOUR: 'it returns false'. Refute it at one input. -/
def patternNegsWrong : ChangeSpec := { name := "patternNegs", fn := fun _ => fun
  | [d1, d2, d3] => { results := [.lit (.bool false)], args := [d1, d2, d3] }
  | _ => none }
def PatternNegsWrongFalsely : Prop := patternNegsRow.holds Tryz.pinned (OpenSpec.ofChange patternNegsWrong)

/-- 'figureheadlaw16.PatternIgnored': WHATEVER THE INPUT: true; the input reads as it did. -/
def patternIgnoredSpec : ChangeSpec := { name := "patternIgnored", fn := fun _ => fun
  | [d1, d2, d3, d4] => { results := [.lit (.bool true)], args := [d1, d2, d3, d4] }
  | _ => none }
def patternIgnoredRow : OpenClaim := { program := "ytglfkihckkjniaagreatdoor", sum := "12b9328718540fc7b7b5073c2d15fd8397ae17e8e1a7017344e3fffbbb103be1", func := "figurehead/figureheadlaw16.PatternIgnored", spec := "patternIgnored", inPlace := ["internal/abi.NoEscape", "internal/bytealg.IndexByteString", "internal/bytealg.IndexString", "internal/bytealg.CountString", "internal/bytealg.MakeNoZero"], unfollowed := true, recurses := true, named := ["unicode/utf8.first", "unicode/utf8.acceptRanges", "figurehead/affix.signs", "internal/bytealg.MaxLen"], apart := false, laid := [("unicode/utf8.acceptRanges", laid_unicode_utf8_acceptRanges), ("figurehead/affix.signs", laid_figurehead_affix_signs), ("unicode/utf8.first", laid_unicode_utf8_first)] }
def PatternIgnoredSaid : Prop := patternIgnoredRow.holds Tryz.pinned (OpenSpec.ofChange patternIgnoredSpec)

/-- ITS FALSE NEIGHBOUR: 'it returns false'. Refute it at one input. -/
def patternIgnoredWrong : ChangeSpec := { name := "patternIgnored", fn := fun _ => fun
  | [d1, d2, d3, d4] => { results := [.lit (.bool false)], args := [d1, d2, d3, d4] }
  | _ => none }
def PatternIgnoredWrongFalsely : Prop := patternIgnoredRow.holds Tryz.pinned (OpenSpec.ofChange patternIgnoredWrong)

/-- 'figureheadlaw16.PatternPads': WHATEVER THE INPUT: true; the input reads as it did. -/
def patternPadsSpec : ChangeSpec := { name := "patternPads", fn := fun _ => fun
  | [d1, d2, d3, d4] => { results := [.lit (.bool true)], args := [d1, d2, d3, d4] }
  | _ => none }
def patternPadsRow : OpenClaim := { program := "ytglfkihckkjniaagreatdoor", sum := "12b9328718540fc7b7b5073c2d15fd8397ae17e8e1a7017344e3fffbbb103be1", func := "figurehead/figureheadlaw16.PatternPads", spec := "patternPads", inPlace := ["internal/abi.NoEscape", "internal/bytealg.IndexByteString", "internal/bytealg.IndexString", "internal/bytealg.CountString", "internal/bytealg.MakeNoZero"], unfollowed := true, recurses := true, named := ["unicode/utf8.first", "unicode/utf8.acceptRanges", "figurehead/affix.signs", "internal/bytealg.MaxLen"], apart := false, laid := [("unicode/utf8.acceptRanges", laid_unicode_utf8_acceptRanges), ("figurehead/affix.signs", laid_figurehead_affix_signs), ("unicode/utf8.first", laid_unicode_utf8_first)] }
def PatternPadsSaid : Prop := patternPadsRow.holds Tryz.pinned (OpenSpec.ofChange patternPadsSpec)

/-- ITS FALSE NEIGHBOUR: 'it returns false'. Refute it at one input. -/
def patternPadsWrong : ChangeSpec := { name := "patternPads", fn := fun _ => fun
  | [d1, d2, d3, d4] => { results := [.lit (.bool false)], args := [d1, d2, d3, d4] }
  | _ => none }
def PatternPadsWrongFalsely : Prop := patternPadsRow.holds Tryz.pinned (OpenSpec.ofChange patternPadsWrong)

/-- 'figureheadlaw17.PrintPrints': WHATEVER THE INPUT: true; the input reads as it did. -/
def printPrintsSpec : ChangeSpec := { name := "printPrints", fn := fun _ => fun
  | [d] => { results := [.lit (.bool true)], args := [d] }
  | _ => none }
def printPrintsRow : OpenClaim := { program := "ytglfkihckkjniaagreatdoor", sum := "12b9328718540fc7b7b5073c2d15fd8397ae17e8e1a7017344e3fffbbb103be1", func := "figurehead/figureheadlaw17.PrintPrints", spec := "printPrints", inPlace := ["internal/abi.NoEscape", "internal/bytealg.IndexByteString", "internal/bytealg.IndexString", "internal/bytealg.CountString", "internal/bytealg.MakeNoZero"], unfollowed := true, recurses := true, named := ["unicode/utf8.first", "unicode/utf8.acceptRanges", "figurehead/affix.signs", "internal/bytealg.MaxLen"], apart := false, laid := [("unicode/utf8.acceptRanges", laid_unicode_utf8_acceptRanges), ("figurehead/affix.signs", laid_figurehead_affix_signs), ("unicode/utf8.first", laid_unicode_utf8_first)] }
def PrintPrintsSaid : Prop := printPrintsRow.holds Tryz.pinned (OpenSpec.ofChange printPrintsSpec)

/-- ITS FALSE NEIGHBOUR: 'it returns false'. Refute it at one input. -/
def printPrintsWrong : ChangeSpec := { name := "printPrints", fn := fun _ => fun
  | [d] => { results := [.lit (.bool false)], args := [d] }
  | _ => none }
def PrintPrintsWrongFalsely : Prop := printPrintsRow.holds Tryz.pinned (OpenSpec.ofChange printPrintsWrong)

/-- 'figureheadlaw17.PrintFixed': WHATEVER THE INPUT: true; the input reads as it did. -/
def printFixedSpec : ChangeSpec := { name := "printFixed", fn := fun _ => fun
  | [d] => { results := [.lit (.bool true)], args := [d] }
  | _ => none }
def printFixedRow : OpenClaim := { program := "ytglfkihckkjniaagreatdoor", sum := "12b9328718540fc7b7b5073c2d15fd8397ae17e8e1a7017344e3fffbbb103be1", func := "figurehead/figureheadlaw17.PrintFixed", spec := "printFixed", inPlace := ["internal/abi.NoEscape", "internal/bytealg.IndexByteString", "internal/bytealg.IndexString", "internal/bytealg.CountString", "internal/bytealg.MakeNoZero"], unfollowed := true, recurses := true, named := ["unicode/utf8.first", "unicode/utf8.acceptRanges", "figurehead/affix.signs", "internal/bytealg.MaxLen"], apart := false, laid := [("unicode/utf8.acceptRanges", laid_unicode_utf8_acceptRanges), ("figurehead/affix.signs", laid_figurehead_affix_signs), ("unicode/utf8.first", laid_unicode_utf8_first)] }
def PrintFixedSaid : Prop := printFixedRow.holds Tryz.pinned (OpenSpec.ofChange printFixedSpec)

/-- ITS FALSE NEIGHBOUR: 'it returns false'. Refute it at one input. -/
def printFixedWrong : ChangeSpec := { name := "printFixed", fn := fun _ => fun
  | [d] => { results := [.lit (.bool false)], args := [d] }
  | _ => none }
def PrintFixedWrongFalsely : Prop := printFixedRow.holds Tryz.pinned (OpenSpec.ofChange printFixedWrong)

/-- 'figureheadlaw17.PrintGood': WHATEVER THE INPUT: true; the input reads as it did. -/
def printGoodSpec : ChangeSpec := { name := "printGood", fn := fun _ => fun
  | [d] => { results := [.lit (.bool true)], args := [d] }
  | _ => none }
def printGoodRow : OpenClaim := { program := "ytglfkihckkjniaagreatdoor", sum := "12b9328718540fc7b7b5073c2d15fd8397ae17e8e1a7017344e3fffbbb103be1", func := "figurehead/figureheadlaw17.PrintGood", spec := "printGood", inPlace := ["internal/abi.NoEscape", "internal/bytealg.IndexByteString", "internal/bytealg.IndexString", "internal/bytealg.CountString", "internal/bytealg.MakeNoZero"], unfollowed := true, recurses := true, named := ["unicode/utf8.first", "unicode/utf8.acceptRanges", "figurehead/affix.signs", "internal/bytealg.MaxLen"], apart := false, laid := [("unicode/utf8.acceptRanges", laid_unicode_utf8_acceptRanges), ("figurehead/affix.signs", laid_figurehead_affix_signs), ("unicode/utf8.first", laid_unicode_utf8_first)] }
def PrintGoodSaid : Prop := printGoodRow.holds Tryz.pinned (OpenSpec.ofChange printGoodSpec)

/-- ITS FALSE NEIGHBOUR: 'it returns false'. Refute it at one input. -/
def printGoodWrong : ChangeSpec := { name := "printGood", fn := fun _ => fun
  | [d] => { results := [.lit (.bool false)], args := [d] }
  | _ => none }
def PrintGoodWrongFalsely : Prop := printGoodRow.holds Tryz.pinned (OpenSpec.ofChange printGoodWrong)

/-- 'figureheadlaw17.PrintTurned': WHATEVER THE INPUT: true; the input reads as it did. -/
def printTurnedSpec : ChangeSpec := { name := "printTurned", fn := fun _ => fun
  | [d1, d2, d3] => { results := [.lit (.bool true)], args := [d1, d2, d3] }
  | _ => none }
def printTurnedRow : OpenClaim := { program := "ytglfkihckkjniaagreatdoor", sum := "12b9328718540fc7b7b5073c2d15fd8397ae17e8e1a7017344e3fffbbb103be1", func := "figurehead/figureheadlaw17.PrintTurned", spec := "printTurned", inPlace := ["internal/abi.NoEscape", "internal/bytealg.IndexByteString", "internal/bytealg.IndexString", "internal/bytealg.CountString", "internal/bytealg.MakeNoZero"], unfollowed := true, recurses := true, named := ["unicode/utf8.first", "unicode/utf8.acceptRanges", "figurehead/affix.signs", "internal/bytealg.MaxLen"], apart := false, laid := [("unicode/utf8.acceptRanges", laid_unicode_utf8_acceptRanges), ("figurehead/affix.signs", laid_figurehead_affix_signs), ("unicode/utf8.first", laid_unicode_utf8_first)] }
def PrintTurnedSaid : Prop := printTurnedRow.holds Tryz.pinned (OpenSpec.ofChange printTurnedSpec)

/-- ITS FALSE NEIGHBOUR: 'it returns false'. Refute it at one input. -/
def printTurnedWrong : ChangeSpec := { name := "printTurned", fn := fun _ => fun
  | [d1, d2, d3] => { results := [.lit (.bool false)], args := [d1, d2, d3] }
  | _ => none }
def PrintTurnedWrongFalsely : Prop := printTurnedRow.holds Tryz.pinned (OpenSpec.ofChange printTurnedWrong)

/-- 'figureheadlaw17.PrintShort': WHATEVER THE INPUT: true; the input reads as it did. -/
def printShortSpec : ChangeSpec := { name := "printShort", fn := fun _ => fun
  | [d] => { results := [.lit (.bool true)], args := [d] }
  | _ => none }
def printShortRow : OpenClaim := { program := "ytglfkihckkjniaagreatdoor", sum := "12b9328718540fc7b7b5073c2d15fd8397ae17e8e1a7017344e3fffbbb103be1", func := "figurehead/figureheadlaw17.PrintShort", spec := "printShort", inPlace := ["internal/abi.NoEscape", "internal/bytealg.IndexByteString", "internal/bytealg.IndexString", "internal/bytealg.CountString", "internal/bytealg.MakeNoZero"], unfollowed := true, recurses := true, named := ["unicode/utf8.first", "unicode/utf8.acceptRanges", "figurehead/affix.signs", "internal/bytealg.MaxLen"], apart := false, laid := [("unicode/utf8.acceptRanges", laid_unicode_utf8_acceptRanges), ("figurehead/affix.signs", laid_figurehead_affix_signs), ("unicode/utf8.first", laid_unicode_utf8_first)] }
def PrintShortSaid : Prop := printShortRow.holds Tryz.pinned (OpenSpec.ofChange printShortSpec)

/-- ITS FALSE NEIGHBOUR: 'it returns false'. Refute it at one input. -/
def printShortWrong : ChangeSpec := { name := "printShort", fn := fun _ => fun
  | [d] => { results := [.lit (.bool false)], args := [d] }
  | _ => none }
def PrintShortWrongFalsely : Prop := printShortRow.holds Tryz.pinned (OpenSpec.ofChange printShortWrong)

/- THE SECOND FORM. 'bulk': how many values and letters a reading holds, each counted each time it is reached (what is shared counts as often as it is met; a slice's spare places count too). A statement '..UptoSaid' is the law's where the arguments, and the package variables that the reading takes, are together of bulk at most 1048576: NARROWER than '..Said'. Prove '..Said' where nothing that the law and all that it calls make is longer than what came in: it says more and counts as full. Else prove '..UptoSaid'. A law counts once. -/
mutual
def uptoBulk {H : Type} : DataW H → Nat
  | .lit (.string bytes) => bytes.length + 1
  | .lit _ => 1
  | .nil => 1
  | .ptr d => uptoBulk d + 1
  | .slice elems spare => uptoBulkAll elems + uptoBulkAll spare + 1
  | .agg parts => uptoBulkAll parts + 1
  | .iface _ d => uptoBulk d + 1
  | .map entries => uptoBulkEntries entries + 1
  | .held _ => 1
def uptoBulkAll {H : Type} : List (DataW H) → Nat
  | [] => 0
  | d :: r => uptoBulk d + uptoBulkAll r
def uptoBulkEntries {H : Type} : List (Lit × DataW H) → Nat
  | [] => 0
  | x :: r => uptoBulkEntry x + uptoBulkEntries r
def uptoBulkEntry {H : Type} : Lit × DataW H → Nat
  | (.string bytes, d) => bytes.length + uptoBulk d + 1
  | (_, d) => uptoBulk d + 1
 end
def uptoSmall : (H : Type) → List (DataW H) → Bool := fun _ ds => decide (uptoBulkAll ds ≤ 1048576)
def OpenSpec.upto (s : _root_.Go.ChangeSpec) : _root_.Go.OpenSpec := { _root_.Go.OpenSpec.ofChange s with cond := some uptoSmall }

/-- 'figureheadlaw16.PatternCompiles', WHERE WHAT IT READS IS OF BULK AT MOST 1048576: true; the input reads as it did. -/
def patternCompilesUptoRow : OpenClaim := { program := "ytglfkihckkjniaagreatdoor", sum := "12b9328718540fc7b7b5073c2d15fd8397ae17e8e1a7017344e3fffbbb103be1", func := "figurehead/figureheadlaw16.PatternCompiles", spec := "patternCompiles", inPlace := ["internal/abi.NoEscape", "internal/bytealg.IndexByteString", "internal/bytealg.IndexString", "internal/bytealg.CountString", "internal/bytealg.MakeNoZero"], unfollowed := true, recurses := true, named := ["unicode/utf8.first", "unicode/utf8.acceptRanges", "figurehead/affix.signs", "internal/bytealg.MaxLen"], apart := false, laid := [("unicode/utf8.acceptRanges", laid_unicode_utf8_acceptRanges), ("figurehead/affix.signs", laid_figurehead_affix_signs), ("unicode/utf8.first", laid_unicode_utf8_first)], narrowed := true }
def PatternCompilesUptoSaid : Prop := patternCompilesUptoRow.holds Tryz.pinned (OpenSpec.upto patternCompilesSpec)

/-- 'figureheadlaw16.PatternFaults', WHERE WHAT IT READS IS OF BULK AT MOST 1048576: true; the input reads as it did. -/
def patternFaultsUptoRow : OpenClaim := { program := "ytglfkihckkjniaagreatdoor", sum := "12b9328718540fc7b7b5073c2d15fd8397ae17e8e1a7017344e3fffbbb103be1", func := "figurehead/figureheadlaw16.PatternFaults", spec := "patternFaults", inPlace := ["internal/abi.NoEscape", "internal/bytealg.IndexByteString", "internal/bytealg.IndexString", "internal/bytealg.CountString", "internal/bytealg.MakeNoZero"], unfollowed := true, recurses := true, named := ["unicode/utf8.first", "unicode/utf8.acceptRanges", "figurehead/affix.signs", "internal/bytealg.MaxLen"], apart := false, laid := [("unicode/utf8.acceptRanges", laid_unicode_utf8_acceptRanges), ("figurehead/affix.signs", laid_figurehead_affix_signs), ("unicode/utf8.first", laid_unicode_utf8_first)], narrowed := true }
def PatternFaultsUptoSaid : Prop := patternFaultsUptoRow.holds Tryz.pinned (OpenSpec.upto patternFaultsSpec)

/-- 'figureheadlaw16.PatternNegs', WHERE WHAT IT READS IS OF BULK AT MOST 1048576: true; the input reads as it did. -/
def patternNegsUptoRow : OpenClaim := { program := "ytglfkihckkjniaagreatdoor", sum := "12b9328718540fc7b7b5073c2d15fd8397ae17e8e1a7017344e3fffbbb103be1", func := "figurehead/figureheadlaw16.PatternNegs", spec := "patternNegs", inPlace := ["internal/abi.NoEscape", "internal/bytealg.IndexByteString", "internal/bytealg.IndexString", "internal/bytealg.CountString", "internal/bytealg.MakeNoZero"], unfollowed := true, recurses := true, named := ["unicode/utf8.first", "unicode/utf8.acceptRanges", "figurehead/affix.signs", "internal/bytealg.MaxLen"], apart := false, laid := [("unicode/utf8.acceptRanges", laid_unicode_utf8_acceptRanges), ("figurehead/affix.signs", laid_figurehead_affix_signs), ("unicode/utf8.first", laid_unicode_utf8_first)], narrowed := true }
def PatternNegsUptoSaid : Prop := patternNegsUptoRow.holds Tryz.pinned (OpenSpec.upto patternNegsSpec)

/-- 'figureheadlaw16.PatternIgnored', WHERE WHAT IT READS IS OF BULK AT MOST 1048576: true; the input reads as it did. -/
def patternIgnoredUptoRow : OpenClaim := { program := "ytglfkihckkjniaagreatdoor", sum := "12b9328718540fc7b7b5073c2d15fd8397ae17e8e1a7017344e3fffbbb103be1", func := "figurehead/figureheadlaw16.PatternIgnored", spec := "patternIgnored", inPlace := ["internal/abi.NoEscape", "internal/bytealg.IndexByteString", "internal/bytealg.IndexString", "internal/bytealg.CountString", "internal/bytealg.MakeNoZero"], unfollowed := true, recurses := true, named := ["unicode/utf8.first", "unicode/utf8.acceptRanges", "figurehead/affix.signs", "internal/bytealg.MaxLen"], apart := false, laid := [("unicode/utf8.acceptRanges", laid_unicode_utf8_acceptRanges), ("figurehead/affix.signs", laid_figurehead_affix_signs), ("unicode/utf8.first", laid_unicode_utf8_first)], narrowed := true }
def PatternIgnoredUptoSaid : Prop := patternIgnoredUptoRow.holds Tryz.pinned (OpenSpec.upto patternIgnoredSpec)

/-- 'figureheadlaw16.PatternPads', WHERE WHAT IT READS IS OF BULK AT MOST 1048576: true; the input reads as it did. -/
def patternPadsUptoRow : OpenClaim := { program := "ytglfkihckkjniaagreatdoor", sum := "12b9328718540fc7b7b5073c2d15fd8397ae17e8e1a7017344e3fffbbb103be1", func := "figurehead/figureheadlaw16.PatternPads", spec := "patternPads", inPlace := ["internal/abi.NoEscape", "internal/bytealg.IndexByteString", "internal/bytealg.IndexString", "internal/bytealg.CountString", "internal/bytealg.MakeNoZero"], unfollowed := true, recurses := true, named := ["unicode/utf8.first", "unicode/utf8.acceptRanges", "figurehead/affix.signs", "internal/bytealg.MaxLen"], apart := false, laid := [("unicode/utf8.acceptRanges", laid_unicode_utf8_acceptRanges), ("figurehead/affix.signs", laid_figurehead_affix_signs), ("unicode/utf8.first", laid_unicode_utf8_first)], narrowed := true }
def PatternPadsUptoSaid : Prop := patternPadsUptoRow.holds Tryz.pinned (OpenSpec.upto patternPadsSpec)

/-- 'figureheadlaw17.PrintPrints', WHERE WHAT IT READS IS OF BULK AT MOST 1048576: true; the input reads as it did. -/
def printPrintsUptoRow : OpenClaim := { program := "ytglfkihckkjniaagreatdoor", sum := "12b9328718540fc7b7b5073c2d15fd8397ae17e8e1a7017344e3fffbbb103be1", func := "figurehead/figureheadlaw17.PrintPrints", spec := "printPrints", inPlace := ["internal/abi.NoEscape", "internal/bytealg.IndexByteString", "internal/bytealg.IndexString", "internal/bytealg.CountString", "internal/bytealg.MakeNoZero"], unfollowed := true, recurses := true, named := ["unicode/utf8.first", "unicode/utf8.acceptRanges", "figurehead/affix.signs", "internal/bytealg.MaxLen"], apart := false, laid := [("unicode/utf8.acceptRanges", laid_unicode_utf8_acceptRanges), ("figurehead/affix.signs", laid_figurehead_affix_signs), ("unicode/utf8.first", laid_unicode_utf8_first)], narrowed := true }
def PrintPrintsUptoSaid : Prop := printPrintsUptoRow.holds Tryz.pinned (OpenSpec.upto printPrintsSpec)

/-- 'figureheadlaw17.PrintFixed', WHERE WHAT IT READS IS OF BULK AT MOST 1048576: true; the input reads as it did. -/
def printFixedUptoRow : OpenClaim := { program := "ytglfkihckkjniaagreatdoor", sum := "12b9328718540fc7b7b5073c2d15fd8397ae17e8e1a7017344e3fffbbb103be1", func := "figurehead/figureheadlaw17.PrintFixed", spec := "printFixed", inPlace := ["internal/abi.NoEscape", "internal/bytealg.IndexByteString", "internal/bytealg.IndexString", "internal/bytealg.CountString", "internal/bytealg.MakeNoZero"], unfollowed := true, recurses := true, named := ["unicode/utf8.first", "unicode/utf8.acceptRanges", "figurehead/affix.signs", "internal/bytealg.MaxLen"], apart := false, laid := [("unicode/utf8.acceptRanges", laid_unicode_utf8_acceptRanges), ("figurehead/affix.signs", laid_figurehead_affix_signs), ("unicode/utf8.first", laid_unicode_utf8_first)], narrowed := true }
def PrintFixedUptoSaid : Prop := printFixedUptoRow.holds Tryz.pinned (OpenSpec.upto printFixedSpec)

/-- 'figureheadlaw17.PrintGood', WHERE WHAT IT READS IS OF BULK AT MOST 1048576: true; the input reads as it did. -/
def printGoodUptoRow : OpenClaim := { program := "ytglfkihckkjniaagreatdoor", sum := "12b9328718540fc7b7b5073c2d15fd8397ae17e8e1a7017344e3fffbbb103be1", func := "figurehead/figureheadlaw17.PrintGood", spec := "printGood", inPlace := ["internal/abi.NoEscape", "internal/bytealg.IndexByteString", "internal/bytealg.IndexString", "internal/bytealg.CountString", "internal/bytealg.MakeNoZero"], unfollowed := true, recurses := true, named := ["unicode/utf8.first", "unicode/utf8.acceptRanges", "figurehead/affix.signs", "internal/bytealg.MaxLen"], apart := false, laid := [("unicode/utf8.acceptRanges", laid_unicode_utf8_acceptRanges), ("figurehead/affix.signs", laid_figurehead_affix_signs), ("unicode/utf8.first", laid_unicode_utf8_first)], narrowed := true }
def PrintGoodUptoSaid : Prop := printGoodUptoRow.holds Tryz.pinned (OpenSpec.upto printGoodSpec)

/-- 'figureheadlaw17.PrintTurned', WHERE WHAT IT READS IS OF BULK AT MOST 1048576: true; the input reads as it did. -/
def printTurnedUptoRow : OpenClaim := { program := "ytglfkihckkjniaagreatdoor", sum := "12b9328718540fc7b7b5073c2d15fd8397ae17e8e1a7017344e3fffbbb103be1", func := "figurehead/figureheadlaw17.PrintTurned", spec := "printTurned", inPlace := ["internal/abi.NoEscape", "internal/bytealg.IndexByteString", "internal/bytealg.IndexString", "internal/bytealg.CountString", "internal/bytealg.MakeNoZero"], unfollowed := true, recurses := true, named := ["unicode/utf8.first", "unicode/utf8.acceptRanges", "figurehead/affix.signs", "internal/bytealg.MaxLen"], apart := false, laid := [("unicode/utf8.acceptRanges", laid_unicode_utf8_acceptRanges), ("figurehead/affix.signs", laid_figurehead_affix_signs), ("unicode/utf8.first", laid_unicode_utf8_first)], narrowed := true }
def PrintTurnedUptoSaid : Prop := printTurnedUptoRow.holds Tryz.pinned (OpenSpec.upto printTurnedSpec)

/-- 'figureheadlaw17.PrintShort', WHERE WHAT IT READS IS OF BULK AT MOST 1048576: true; the input reads as it did. -/
def printShortUptoRow : OpenClaim := { program := "ytglfkihckkjniaagreatdoor", sum := "12b9328718540fc7b7b5073c2d15fd8397ae17e8e1a7017344e3fffbbb103be1", func := "figurehead/figureheadlaw17.PrintShort", spec := "printShort", inPlace := ["internal/abi.NoEscape", "internal/bytealg.IndexByteString", "internal/bytealg.IndexString", "internal/bytealg.CountString", "internal/bytealg.MakeNoZero"], unfollowed := true, recurses := true, named := ["unicode/utf8.first", "unicode/utf8.acceptRanges", "figurehead/affix.signs", "internal/bytealg.MaxLen"], apart := false, laid := [("unicode/utf8.acceptRanges", laid_unicode_utf8_acceptRanges), ("figurehead/affix.signs", laid_figurehead_affix_signs), ("unicode/utf8.first", laid_unicode_utf8_first)], narrowed := true }
def PrintShortUptoSaid : Prop := printShortUptoRow.holds Tryz.pinned (OpenSpec.upto printShortSpec)

end Rows
end Go.Proofs.YtglfkihckkjniaaGreatDoor
