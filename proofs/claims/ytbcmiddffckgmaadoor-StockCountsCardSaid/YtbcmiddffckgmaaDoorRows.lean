/-
  NARROWER THAN 'FOR EVERY INPUT', by the rows' own cells (each row's printed sentence says how): StockChecks: laid · StockNew: laid · StockTakes: laid · StockCalibrates: laid · StockHolds: laid · StockReturns: laid · StockRetires: laid · StockRuns: laid · StockCounts: laid.
  DERIVED. THE GIVEN ROWS OF THIS SEAT. 9 by the template 'for every input the law returns true; each argument reads behind the call as it read before'; 0 by the template 'total and deterministic' (their statements: YtbcmiddffckgmaaDoorTotals.lean).
  GIVEN WITH THE SEED: the statements are not yours to turn. If you find one false, say at which input.
  Laid BY PROGRAM, IN A SANDBOX (cutbox-rows.mjs): the forced cells as the released guide's own fill.sh prints them over the translation 1140bd81255f1e08… (all of the seat's roots in one cut). By AI agents, Wed Nov 11 2026. No macro, syntax, notation, axiom, sorry.
-/
import Derived.Test.YtbcmiddffckgmaaDoorChecked
import GoSem.PinnedTables
import GoSem.Claim
import GoSem.ClaimJoined
import GoSem.ClaimMapViews
import Derived.JoinedTies
import Derived.KernelRfl
namespace Go.Proofs.YtbcmiddffckgmaaDoor
/- THE CELL 'sum', in the pinned program and in every row, IS THE sha256 OF THE DUMP (.gsa) THAT YtbcmiddffckgmaaDoorProg.lean LOADS. Nothing in Lean hashes anything: it is a label: what it is worth is what the hold of that sum in a sandbox is worth. -/
noncomputable def Tryd.pinned : Pinned := { name := "ytbcmiddffckgmaadoor", sum := "1140bd81255f1e08206fb1178362e907461da4b34cfc0a4ce0764987b55f5cb1", checked := Tryd.checked }
namespace Rows
def none {H : Type} : Left H := { results := [], args := [] }

/- WHAT THE LISTED PACKAGE-LEVEL VARIABLES READ AS WHEN THE CALL BEGINS. Each datum BY PROGRAM (the guide's laid-datum.mjs) off the statement by which the dump's own 'gosem.cut.vars' lays the variable. In a bare row this is a premise. The card (YtbcmiddffckgmaaDoorCards.lean) ties it to the program's text. -/
def laid_unicode_utf8_acceptRanges {H : Type} : DataW H := .agg [.agg [.lit (.int .u8 128), .lit (.int .u8 191)], .agg [.lit (.int .u8 160), .lit (.int .u8 191)], .agg [.lit (.int .u8 128), .lit (.int .u8 159)], .agg [.lit (.int .u8 144), .lit (.int .u8 191)], .agg [.lit (.int .u8 128), .lit (.int .u8 143)], .agg [.lit (.int .u8 0), .lit (.int .u8 0)], .agg [.lit (.int .u8 0), .lit (.int .u8 0)], .agg [.lit (.int .u8 0), .lit (.int .u8 0)], .agg [.lit (.int .u8 0), .lit (.int .u8 0)], .agg [.lit (.int .u8 0), .lit (.int .u8 0)], .agg [.lit (.int .u8 0), .lit (.int .u8 0)], .agg [.lit (.int .u8 0), .lit (.int .u8 0)], .agg [.lit (.int .u8 0), .lit (.int .u8 0)], .agg [.lit (.int .u8 0), .lit (.int .u8 0)], .agg [.lit (.int .u8 0), .lit (.int .u8 0)], .agg [.lit (.int .u8 0), .lit (.int .u8 0)]]
/-- One of Go's own tables, pinned by name: the form's constant. -/
def laid_unicode_utf8_first : DataW Unit := Go.Pinned.utf8First

/-- 'metrolablaw51.StockChecks': WHATEVER THE INPUT: true; the input reads as it did. -/
def stockChecksSpec : ChangeSpec := { name := "stockChecks", fn := fun _ => fun
  | [d1, d2] => { results := [.lit (.bool true)], args := [d1, d2] }
  | _ => none }
def stockChecksRow : OpenClaim := { program := "ytbcmiddffckgmaadoor", sum := "1140bd81255f1e08206fb1178362e907461da4b34cfc0a4ce0764987b55f5cb1", func := "metrolab/metrolablaw51.StockChecks", spec := "stockChecks", inPlace := ["internal/bytealg.IndexByteString", "internal/bytealg.IndexString"], unfollowed := true, recurses := true, named := ["unicode/utf8.first", "unicode/utf8.acceptRanges", "internal/bytealg.MaxLen"], apart := false, laid := [("unicode/utf8.acceptRanges", laid_unicode_utf8_acceptRanges), ("unicode/utf8.first", laid_unicode_utf8_first)] }
def StockChecksSaid : Prop := stockChecksRow.holds Tryd.pinned (OpenSpec.ofChange stockChecksSpec)

/-- ITS FALSE NEIGHBOUR: 'it returns false'. Refute it at one input. -/
def stockChecksWrong : ChangeSpec := { name := "stockChecks", fn := fun _ => fun
  | [d1, d2] => { results := [.lit (.bool false)], args := [d1, d2] }
  | _ => none }
def StockChecksWrongFalsely : Prop := stockChecksRow.holds Tryd.pinned (OpenSpec.ofChange stockChecksWrong)

/-- 'metrolablaw51.StockNew': WHATEVER THE INPUT: true; the input reads as it did. -/
def stockNewSpec : ChangeSpec := { name := "stockNew", fn := fun _ => fun
  | [d1, d2] => { results := [.lit (.bool true)], args := [d1, d2] }
  | _ => none }
def stockNewRow : OpenClaim := { program := "ytbcmiddffckgmaadoor", sum := "1140bd81255f1e08206fb1178362e907461da4b34cfc0a4ce0764987b55f5cb1", func := "metrolab/metrolablaw51.StockNew", spec := "stockNew", inPlace := ["internal/bytealg.IndexByteString", "internal/bytealg.IndexString"], unfollowed := true, recurses := true, named := ["unicode/utf8.first", "unicode/utf8.acceptRanges", "internal/bytealg.MaxLen"], apart := false, laid := [("unicode/utf8.acceptRanges", laid_unicode_utf8_acceptRanges), ("unicode/utf8.first", laid_unicode_utf8_first)] }
def StockNewSaid : Prop := stockNewRow.holds Tryd.pinned (OpenSpec.ofChange stockNewSpec)

/-- ITS FALSE NEIGHBOUR: 'it returns false'. Refute it at one input. -/
def stockNewWrong : ChangeSpec := { name := "stockNew", fn := fun _ => fun
  | [d1, d2] => { results := [.lit (.bool false)], args := [d1, d2] }
  | _ => none }
def StockNewWrongFalsely : Prop := stockNewRow.holds Tryd.pinned (OpenSpec.ofChange stockNewWrong)

/-- 'metrolablaw51.StockTakes': WHATEVER THE INPUT: true; the input reads as it did. -/
def stockTakesSpec : ChangeSpec := { name := "stockTakes", fn := fun _ => fun
  | [d1, d2, d3] => { results := [.lit (.bool true)], args := [d1, d2, d3] }
  | _ => none }
def stockTakesRow : OpenClaim := { program := "ytbcmiddffckgmaadoor", sum := "1140bd81255f1e08206fb1178362e907461da4b34cfc0a4ce0764987b55f5cb1", func := "metrolab/metrolablaw51.StockTakes", spec := "stockTakes", inPlace := ["internal/bytealg.IndexByteString", "internal/bytealg.IndexString"], unfollowed := true, recurses := true, named := ["unicode/utf8.first", "unicode/utf8.acceptRanges", "internal/bytealg.MaxLen"], apart := false, laid := [("unicode/utf8.acceptRanges", laid_unicode_utf8_acceptRanges), ("unicode/utf8.first", laid_unicode_utf8_first)] }
def StockTakesSaid : Prop := stockTakesRow.holds Tryd.pinned (OpenSpec.ofChange stockTakesSpec)

/-- ITS FALSE NEIGHBOUR: 'it returns false'. Refute it at one input. -/
def stockTakesWrong : ChangeSpec := { name := "stockTakes", fn := fun _ => fun
  | [d1, d2, d3] => { results := [.lit (.bool false)], args := [d1, d2, d3] }
  | _ => none }
def StockTakesWrongFalsely : Prop := stockTakesRow.holds Tryd.pinned (OpenSpec.ofChange stockTakesWrong)

/-- 'metrolablaw51.StockCalibrates': WHATEVER THE INPUT: true; the input reads as it did. -/
def stockCalibratesSpec : ChangeSpec := { name := "stockCalibrates", fn := fun _ => fun
  | [d1, d2, d3] => { results := [.lit (.bool true)], args := [d1, d2, d3] }
  | _ => none }
def stockCalibratesRow : OpenClaim := { program := "ytbcmiddffckgmaadoor", sum := "1140bd81255f1e08206fb1178362e907461da4b34cfc0a4ce0764987b55f5cb1", func := "metrolab/metrolablaw51.StockCalibrates", spec := "stockCalibrates", inPlace := ["internal/bytealg.IndexByteString", "internal/bytealg.IndexString"], unfollowed := true, recurses := true, named := ["unicode/utf8.first", "unicode/utf8.acceptRanges", "internal/bytealg.MaxLen"], apart := false, laid := [("unicode/utf8.acceptRanges", laid_unicode_utf8_acceptRanges), ("unicode/utf8.first", laid_unicode_utf8_first)] }
def StockCalibratesSaid : Prop := stockCalibratesRow.holds Tryd.pinned (OpenSpec.ofChange stockCalibratesSpec)

/-- ITS FALSE NEIGHBOUR: 'it returns false'. Refute it at one input. -/
def stockCalibratesWrong : ChangeSpec := { name := "stockCalibrates", fn := fun _ => fun
  | [d1, d2, d3] => { results := [.lit (.bool false)], args := [d1, d2, d3] }
  | _ => none }
def StockCalibratesWrongFalsely : Prop := stockCalibratesRow.holds Tryd.pinned (OpenSpec.ofChange stockCalibratesWrong)

/-- 'metrolablaw51.StockHolds': WHATEVER THE INPUT: true; the input reads as it did. -/
def stockHoldsSpec : ChangeSpec := { name := "stockHolds", fn := fun _ => fun
  | [d1, d2, d3] => { results := [.lit (.bool true)], args := [d1, d2, d3] }
  | _ => none }
def stockHoldsRow : OpenClaim := { program := "ytbcmiddffckgmaadoor", sum := "1140bd81255f1e08206fb1178362e907461da4b34cfc0a4ce0764987b55f5cb1", func := "metrolab/metrolablaw51.StockHolds", spec := "stockHolds", inPlace := ["internal/bytealg.IndexByteString", "internal/bytealg.IndexString"], unfollowed := true, recurses := true, named := ["unicode/utf8.first", "unicode/utf8.acceptRanges", "internal/bytealg.MaxLen"], apart := false, laid := [("unicode/utf8.acceptRanges", laid_unicode_utf8_acceptRanges), ("unicode/utf8.first", laid_unicode_utf8_first)] }
def StockHoldsSaid : Prop := stockHoldsRow.holds Tryd.pinned (OpenSpec.ofChange stockHoldsSpec)

/-- ITS FALSE NEIGHBOUR: 'it returns false'. Refute it at one input. -/
def stockHoldsWrong : ChangeSpec := { name := "stockHolds", fn := fun _ => fun
  | [d1, d2, d3] => { results := [.lit (.bool false)], args := [d1, d2, d3] }
  | _ => none }
def StockHoldsWrongFalsely : Prop := stockHoldsRow.holds Tryd.pinned (OpenSpec.ofChange stockHoldsWrong)

/-- 'metrolablaw51.StockReturns': WHATEVER THE INPUT: true; the input reads as it did. -/
def stockReturnsSpec : ChangeSpec := { name := "stockReturns", fn := fun _ => fun
  | [d1, d2, d3] => { results := [.lit (.bool true)], args := [d1, d2, d3] }
  | _ => none }
def stockReturnsRow : OpenClaim := { program := "ytbcmiddffckgmaadoor", sum := "1140bd81255f1e08206fb1178362e907461da4b34cfc0a4ce0764987b55f5cb1", func := "metrolab/metrolablaw51.StockReturns", spec := "stockReturns", inPlace := ["internal/bytealg.IndexByteString", "internal/bytealg.IndexString"], unfollowed := true, recurses := true, named := ["unicode/utf8.first", "unicode/utf8.acceptRanges", "internal/bytealg.MaxLen"], apart := false, laid := [("unicode/utf8.acceptRanges", laid_unicode_utf8_acceptRanges), ("unicode/utf8.first", laid_unicode_utf8_first)] }
def StockReturnsSaid : Prop := stockReturnsRow.holds Tryd.pinned (OpenSpec.ofChange stockReturnsSpec)

/-- ITS FALSE NEIGHBOUR: 'it returns false'. Refute it at one input. -/
def stockReturnsWrong : ChangeSpec := { name := "stockReturns", fn := fun _ => fun
  | [d1, d2, d3] => { results := [.lit (.bool false)], args := [d1, d2, d3] }
  | _ => none }
def StockReturnsWrongFalsely : Prop := stockReturnsRow.holds Tryd.pinned (OpenSpec.ofChange stockReturnsWrong)

/-- 'metrolablaw51.StockRetires': WHATEVER THE INPUT: true; the input reads as it did. -/
def stockRetiresSpec : ChangeSpec := { name := "stockRetires", fn := fun _ => fun
  | [d1, d2, d3] => { results := [.lit (.bool true)], args := [d1, d2, d3] }
  | _ => none }
def stockRetiresRow : OpenClaim := { program := "ytbcmiddffckgmaadoor", sum := "1140bd81255f1e08206fb1178362e907461da4b34cfc0a4ce0764987b55f5cb1", func := "metrolab/metrolablaw51.StockRetires", spec := "stockRetires", inPlace := ["internal/bytealg.IndexByteString", "internal/bytealg.IndexString"], unfollowed := true, recurses := true, named := ["unicode/utf8.first", "unicode/utf8.acceptRanges", "internal/bytealg.MaxLen"], apart := false, laid := [("unicode/utf8.acceptRanges", laid_unicode_utf8_acceptRanges), ("unicode/utf8.first", laid_unicode_utf8_first)] }
def StockRetiresSaid : Prop := stockRetiresRow.holds Tryd.pinned (OpenSpec.ofChange stockRetiresSpec)

/-- ITS FALSE NEIGHBOUR: 'it returns false'. Refute it at one input. -/
def stockRetiresWrong : ChangeSpec := { name := "stockRetires", fn := fun _ => fun
  | [d1, d2, d3] => { results := [.lit (.bool false)], args := [d1, d2, d3] }
  | _ => none }
def StockRetiresWrongFalsely : Prop := stockRetiresRow.holds Tryd.pinned (OpenSpec.ofChange stockRetiresWrong)

/-- 'metrolablaw51.StockRuns': WHATEVER THE INPUT: true; the input reads as it did. -/
def stockRunsSpec : ChangeSpec := { name := "stockRuns", fn := fun _ => fun
  | [d1, d2] => { results := [.lit (.bool true)], args := [d1, d2] }
  | _ => none }
def stockRunsRow : OpenClaim := { program := "ytbcmiddffckgmaadoor", sum := "1140bd81255f1e08206fb1178362e907461da4b34cfc0a4ce0764987b55f5cb1", func := "metrolab/metrolablaw51.StockRuns", spec := "stockRuns", inPlace := ["internal/bytealg.IndexByteString", "internal/bytealg.IndexString"], unfollowed := true, recurses := true, named := ["unicode/utf8.first", "unicode/utf8.acceptRanges", "internal/bytealg.MaxLen"], apart := false, laid := [("unicode/utf8.acceptRanges", laid_unicode_utf8_acceptRanges), ("unicode/utf8.first", laid_unicode_utf8_first)] }
def StockRunsSaid : Prop := stockRunsRow.holds Tryd.pinned (OpenSpec.ofChange stockRunsSpec)

/-- ITS FALSE NEIGHBOUR: 'it returns false'. Refute it at one input. -/
def stockRunsWrong : ChangeSpec := { name := "stockRuns", fn := fun _ => fun
  | [d1, d2] => { results := [.lit (.bool false)], args := [d1, d2] }
  | _ => none }
def StockRunsWrongFalsely : Prop := stockRunsRow.holds Tryd.pinned (OpenSpec.ofChange stockRunsWrong)

/-- 'metrolablaw51.StockCounts': WHATEVER THE INPUT: true; the input reads as it did. -/
def stockCountsSpec : ChangeSpec := { name := "stockCounts", fn := fun _ => fun
  | [d1, d2] => { results := [.lit (.bool true)], args := [d1, d2] }
  | _ => none }
def stockCountsRow : OpenClaim := { program := "ytbcmiddffckgmaadoor", sum := "1140bd81255f1e08206fb1178362e907461da4b34cfc0a4ce0764987b55f5cb1", func := "metrolab/metrolablaw51.StockCounts", spec := "stockCounts", inPlace := ["internal/bytealg.IndexByteString", "internal/bytealg.IndexString"], unfollowed := true, recurses := true, named := ["unicode/utf8.first", "unicode/utf8.acceptRanges", "internal/bytealg.MaxLen"], apart := false, laid := [("unicode/utf8.acceptRanges", laid_unicode_utf8_acceptRanges), ("unicode/utf8.first", laid_unicode_utf8_first)] }
def StockCountsSaid : Prop := stockCountsRow.holds Tryd.pinned (OpenSpec.ofChange stockCountsSpec)

/-- ITS FALSE NEIGHBOUR: 'it returns false'. Refute it at one input. -/
def stockCountsWrong : ChangeSpec := { name := "stockCounts", fn := fun _ => fun
  | [d1, d2] => { results := [.lit (.bool false)], args := [d1, d2] }
  | _ => none }
def StockCountsWrongFalsely : Prop := stockCountsRow.holds Tryd.pinned (OpenSpec.ofChange stockCountsWrong)

/- THE SECOND FORM. 'bulk': how many values and letters a reading holds, each counted each time it is reached (what is shared counts as often as it is met; a slice's spare places count too). A statement '..UptoSaid' is the law's where the arguments, and the package variables that the reading takes, are together of bulk at most 1048576: NARROWER than '..Said'. Prove '..Said' where nothing that the law and all that it calls make is longer than what came in: it says more and counts as full. Else prove '..UptoSaid'. A law counts once. -/
mutual
def uptoBulk {H : Type} : DataW H → Nat
  | .lit (.string bytes) => bytes.length + 1
  | .lit _ => 1
  | .nil => 1
  | .ptr d => uptoBulk d + 1
  | .slice elems spare => uptoBulkAll elems + uptoBulkAll spare + 1
  | .agg parts => uptoBulkAll parts + 1
  | .iface _ d => uptoBulk d + 1
  | .map entries => uptoBulkEntries entries + 1
  | .held _ => 1
def uptoBulkAll {H : Type} : List (DataW H) → Nat
  | [] => 0
  | d :: r => uptoBulk d + uptoBulkAll r
def uptoBulkEntries {H : Type} : List (Lit × DataW H) → Nat
  | [] => 0
  | x :: r => uptoBulkEntry x + uptoBulkEntries r
def uptoBulkEntry {H : Type} : Lit × DataW H → Nat
  | (.string bytes, d) => bytes.length + uptoBulk d + 1
  | (_, d) => uptoBulk d + 1
 end
def uptoSmall : (H : Type) → List (DataW H) → Bool := fun _ ds => decide (uptoBulkAll ds ≤ 1048576)
def OpenSpec.upto (s : _root_.Go.ChangeSpec) : _root_.Go.OpenSpec := { _root_.Go.OpenSpec.ofChange s with cond := some uptoSmall }

/-- 'metrolablaw51.StockChecks', WHERE WHAT IT READS IS OF BULK AT MOST 1048576: true; the input reads as it did. -/
def stockChecksUptoRow : OpenClaim := { program := "ytbcmiddffckgmaadoor", sum := "1140bd81255f1e08206fb1178362e907461da4b34cfc0a4ce0764987b55f5cb1", func := "metrolab/metrolablaw51.StockChecks", spec := "stockChecks", inPlace := ["internal/bytealg.IndexByteString", "internal/bytealg.IndexString"], unfollowed := true, recurses := true, named := ["unicode/utf8.first", "unicode/utf8.acceptRanges", "internal/bytealg.MaxLen"], apart := false, laid := [("unicode/utf8.acceptRanges", laid_unicode_utf8_acceptRanges), ("unicode/utf8.first", laid_unicode_utf8_first)], narrowed := true }
def StockChecksUptoSaid : Prop := stockChecksUptoRow.holds Tryd.pinned (OpenSpec.upto stockChecksSpec)

/-- 'metrolablaw51.StockNew', WHERE WHAT IT READS IS OF BULK AT MOST 1048576: true; the input reads as it did. -/
def stockNewUptoRow : OpenClaim := { program := "ytbcmiddffckgmaadoor", sum := "1140bd81255f1e08206fb1178362e907461da4b34cfc0a4ce0764987b55f5cb1", func := "metrolab/metrolablaw51.StockNew", spec := "stockNew", inPlace := ["internal/bytealg.IndexByteString", "internal/bytealg.IndexString"], unfollowed := true, recurses := true, named := ["unicode/utf8.first", "unicode/utf8.acceptRanges", "internal/bytealg.MaxLen"], apart := false, laid := [("unicode/utf8.acceptRanges", laid_unicode_utf8_acceptRanges), ("unicode/utf8.first", laid_unicode_utf8_first)], narrowed := true }
def StockNewUptoSaid : Prop := stockNewUptoRow.holds Tryd.pinned (OpenSpec.upto stockNewSpec)

/-- 'metrolablaw51.StockTakes', WHERE WHAT IT READS IS OF BULK AT MOST 1048576: true; the input reads as it did. -/
def stockTakesUptoRow : OpenClaim := { program := "ytbcmiddffckgmaadoor", sum := "1140bd81255f1e08206fb1178362e907461da4b34cfc0a4ce0764987b55f5cb1", func := "metrolab/metrolablaw51.StockTakes", spec := "stockTakes", inPlace := ["internal/bytealg.IndexByteString", "internal/bytealg.IndexString"], unfollowed := true, recurses := true, named := ["unicode/utf8.first", "unicode/utf8.acceptRanges", "internal/bytealg.MaxLen"], apart := false, laid := [("unicode/utf8.acceptRanges", laid_unicode_utf8_acceptRanges), ("unicode/utf8.first", laid_unicode_utf8_first)], narrowed := true }
def StockTakesUptoSaid : Prop := stockTakesUptoRow.holds Tryd.pinned (OpenSpec.upto stockTakesSpec)

/-- 'metrolablaw51.StockCalibrates', WHERE WHAT IT READS IS OF BULK AT MOST 1048576: true; the input reads as it did. -/
def stockCalibratesUptoRow : OpenClaim := { program := "ytbcmiddffckgmaadoor", sum := "1140bd81255f1e08206fb1178362e907461da4b34cfc0a4ce0764987b55f5cb1", func := "metrolab/metrolablaw51.StockCalibrates", spec := "stockCalibrates", inPlace := ["internal/bytealg.IndexByteString", "internal/bytealg.IndexString"], unfollowed := true, recurses := true, named := ["unicode/utf8.first", "unicode/utf8.acceptRanges", "internal/bytealg.MaxLen"], apart := false, laid := [("unicode/utf8.acceptRanges", laid_unicode_utf8_acceptRanges), ("unicode/utf8.first", laid_unicode_utf8_first)], narrowed := true }
def StockCalibratesUptoSaid : Prop := stockCalibratesUptoRow.holds Tryd.pinned (OpenSpec.upto stockCalibratesSpec)

/-- 'metrolablaw51.StockHolds', WHERE WHAT IT READS IS OF BULK AT MOST 1048576: true; the input reads as it did. -/
def stockHoldsUptoRow : OpenClaim := { program := "ytbcmiddffckgmaadoor", sum := "1140bd81255f1e08206fb1178362e907461da4b34cfc0a4ce0764987b55f5cb1", func := "metrolab/metrolablaw51.StockHolds", spec := "stockHolds", inPlace := ["internal/bytealg.IndexByteString", "internal/bytealg.IndexString"], unfollowed := true, recurses := true, named := ["unicode/utf8.first", "unicode/utf8.acceptRanges", "internal/bytealg.MaxLen"], apart := false, laid := [("unicode/utf8.acceptRanges", laid_unicode_utf8_acceptRanges), ("unicode/utf8.first", laid_unicode_utf8_first)], narrowed := true }
def StockHoldsUptoSaid : Prop := stockHoldsUptoRow.holds Tryd.pinned (OpenSpec.upto stockHoldsSpec)

/-- 'metrolablaw51.StockReturns', WHERE WHAT IT READS IS OF BULK AT MOST 1048576: true; the input reads as it did. -/
def stockReturnsUptoRow : OpenClaim := { program := "ytbcmiddffckgmaadoor", sum := "1140bd81255f1e08206fb1178362e907461da4b34cfc0a4ce0764987b55f5cb1", func := "metrolab/metrolablaw51.StockReturns", spec := "stockReturns", inPlace := ["internal/bytealg.IndexByteString", "internal/bytealg.IndexString"], unfollowed := true, recurses := true, named := ["unicode/utf8.first", "unicode/utf8.acceptRanges", "internal/bytealg.MaxLen"], apart := false, laid := [("unicode/utf8.acceptRanges", laid_unicode_utf8_acceptRanges), ("unicode/utf8.first", laid_unicode_utf8_first)], narrowed := true }
def StockReturnsUptoSaid : Prop := stockReturnsUptoRow.holds Tryd.pinned (OpenSpec.upto stockReturnsSpec)

/-- 'metrolablaw51.StockRetires', WHERE WHAT IT READS IS OF BULK AT MOST 1048576: true; the input reads as it did. -/
def stockRetiresUptoRow : OpenClaim := { program := "ytbcmiddffckgmaadoor", sum := "1140bd81255f1e08206fb1178362e907461da4b34cfc0a4ce0764987b55f5cb1", func := "metrolab/metrolablaw51.StockRetires", spec := "stockRetires", inPlace := ["internal/bytealg.IndexByteString", "internal/bytealg.IndexString"], unfollowed := true, recurses := true, named := ["unicode/utf8.first", "unicode/utf8.acceptRanges", "internal/bytealg.MaxLen"], apart := false, laid := [("unicode/utf8.acceptRanges", laid_unicode_utf8_acceptRanges), ("unicode/utf8.first", laid_unicode_utf8_first)], narrowed := true }
def StockRetiresUptoSaid : Prop := stockRetiresUptoRow.holds Tryd.pinned (OpenSpec.upto stockRetiresSpec)

/-- 'metrolablaw51.StockRuns', WHERE WHAT IT READS IS OF BULK AT MOST 1048576: true; the input reads as it did. -/
def stockRunsUptoRow : OpenClaim := { program := "ytbcmiddffckgmaadoor", sum := "1140bd81255f1e08206fb1178362e907461da4b34cfc0a4ce0764987b55f5cb1", func := "metrolab/metrolablaw51.StockRuns", spec := "stockRuns", inPlace := ["internal/bytealg.IndexByteString", "internal/bytealg.IndexString"], unfollowed := true, recurses := true, named := ["unicode/utf8.first", "unicode/utf8.acceptRanges", "internal/bytealg.MaxLen"], apart := false, laid := [("unicode/utf8.acceptRanges", laid_unicode_utf8_acceptRanges), ("unicode/utf8.first", laid_unicode_utf8_first)], narrowed := true }
def StockRunsUptoSaid : Prop := stockRunsUptoRow.holds Tryd.pinned (OpenSpec.upto stockRunsSpec)

/-- 'metrolablaw51.StockCounts', WHERE WHAT IT READS IS OF BULK AT MOST 1048576: true; the input reads as it did. -/
def stockCountsUptoRow : OpenClaim := { program := "ytbcmiddffckgmaadoor", sum := "1140bd81255f1e08206fb1178362e907461da4b34cfc0a4ce0764987b55f5cb1", func := "metrolab/metrolablaw51.StockCounts", spec := "stockCounts", inPlace := ["internal/bytealg.IndexByteString", "internal/bytealg.IndexString"], unfollowed := true, recurses := true, named := ["unicode/utf8.first", "unicode/utf8.acceptRanges", "internal/bytealg.MaxLen"], apart := false, laid := [("unicode/utf8.acceptRanges", laid_unicode_utf8_acceptRanges), ("unicode/utf8.first", laid_unicode_utf8_first)], narrowed := true }
def StockCountsUptoSaid : Prop := stockCountsUptoRow.holds Tryd.pinned (OpenSpec.upto stockCountsSpec)

end Rows
end Go.Proofs.YtbcmiddffckgmaaDoor
