/-
  NARROWER THAN 'FOR EVERY INPUT', by the rows' own cells (each row's printed sentence says how): HistoryChecks: loops, laid · HistoryPurges: loops, laid · HistorySwaps: loops, laid · HistoryErases: loops, laid · HistoryCuts: loops, laid · HistoryShows: loops, laid · HistoryRows: loops, laid.
  DERIVED. THE GIVEN ROWS OF THIS SEAT. 7 by the template 'for every input the law returns true; each argument reads behind the call as it read before'; 0 by the template 'total and deterministic' (their statements: YtojgbkiejjingaaGreatDoorTotals.lean).
  GIVEN WITH THE SEED: the statements are not yours to turn. If you find one false, say at which input.
  Laid BY PROGRAM, IN A SANDBOX (cutbox-rows.mjs): the forced cells as the released guide's own fill.sh prints them over the translation 9f04dff6915819bc… (all of the seat's roots in one cut). By AI agents, Wed Nov 11 2026. No macro, syntax, notation, axiom, sorry.
-/
import Derived.Test.YtojgbkiejjingaaGreatDoorChecked
import GoSem.Claim
import GoSem.ClaimJoined
import GoSem.ClaimMapViews
import Derived.JoinedTies
import Derived.KernelRfl
namespace Go.Proofs.YtojgbkiejjingaaGreatDoor
/- THE CELL 'sum', in the pinned program and in every row, IS THE sha256 OF THE DUMP (.gsa) THAT YtojgbkiejjingaaGreatDoorProg.lean LOADS. Nothing in Lean hashes anything: it is a label: what it is worth is what the hold of that sum in a sandbox is worth. -/
noncomputable def Tryz.pinned : Pinned := { name := "ytojgbkiejjingaagreatdoor", sum := "9f04dff6915819bcaaea7eacfb4f4576feec4ce2de340decfb233a002425d266", checked := Tryz.checked }
namespace Rows
def none {H : Type} : Left H := { results := [], args := [] }

/- WHAT THE LISTED PACKAGE-LEVEL VARIABLES READ AS WHEN THE CALL BEGINS. Each datum BY PROGRAM (the guide's laid-datum.mjs) off the statement by which the dump's own 'gosem.cut.vars' lays the variable. In a bare row this is a premise. The card (YtojgbkiejjingaaGreatDoorCards.lean) ties it to the program's text. -/
def laid_asof_checker_aggregates {H : Type} : DataW H := .slice [.lit (.string [99, 111, 117, 110, 116]), .lit (.string [115, 117, 109]), .lit (.string [109, 101, 97, 110]), .lit (.string [109, 105, 110]), .lit (.string [109, 97, 120]), .lit (.string [102, 105, 114, 115, 116]), .lit (.string [108, 97, 115, 116]), .lit (.string [100, 105, 115, 116, 105, 110, 99, 116]), .lit (.string [113, 117, 97, 110, 116, 105, 108, 101]), .lit (.string [100, 101, 99, 97, 121])] []
def laid_asof_checker_unary {H : Type} : DataW H := .slice [.lit (.string [45]), .lit (.string [110, 111, 116]), .lit (.string [110, 117, 108, 108])] []
def laid_asof_checker_binary {H : Type} : DataW H := .slice [.lit (.string [43]), .lit (.string [45]), .lit (.string [42]), .lit (.string [47]), .lit (.string [61, 61]), .lit (.string [33, 61]), .lit (.string [60]), .lit (.string [60, 61]), .lit (.string [97, 110, 100]), .lit (.string [111, 114])] []

/-- 'asoflaw15.HistoryChecks': WHATEVER THE INPUT: true; the input reads as it did. -/
def historyChecksSpec : ChangeSpec := { name := "historyChecks", fn := fun _ => fun
  | [d] => { results := [.lit (.bool true)], args := [d] }
  | _ => none }
def historyChecksRow : OpenClaim := { program := "ytojgbkiejjingaagreatdoor", sum := "9f04dff6915819bcaaea7eacfb4f4576feec4ce2de340decfb233a002425d266", func := "asof/asoflaw15.HistoryChecks", spec := "historyChecks", inPlace := ["internal/bytealg.IndexByteString", "internal/bytealg.IndexString", "slices.overlaps[asof/api.Table]", "math/bits.Add64", "math/bits.Sub64", "slices.overlaps[asof/api.Feature]"], unfollowed := true, recurses := true, named := ["internal/bytealg.MaxLen", "asof/checker.aggregates", "asof/checker.unary", "asof/checker.binary", "math/bits.divideError", "math/bits.overflowError"], loops := true, plainKeys := false, apart := false, laid := [("asof/checker.aggregates", laid_asof_checker_aggregates), ("asof/checker.unary", laid_asof_checker_unary), ("asof/checker.binary", laid_asof_checker_binary)] }
def HistoryChecksSaid : Prop := historyChecksRow.holds Tryz.pinned (OpenSpec.ofChange historyChecksSpec)

/-- ITS FALSE NEIGHBOUR: 'it returns false'. Refute it at one input. -/
def historyChecksWrong : ChangeSpec := { name := "historyChecks", fn := fun _ => fun
  | [d] => { results := [.lit (.bool false)], args := [d] }
  | _ => none }
def HistoryChecksWrongFalsely : Prop := historyChecksRow.holds Tryz.pinned (OpenSpec.ofChange historyChecksWrong)

/-- 'asoflaw15.HistoryPurges': WHATEVER THE INPUT: true; the input reads as it did. -/
def historyPurgesSpec : ChangeSpec := { name := "historyPurges", fn := fun _ => fun
  | [d] => { results := [.lit (.bool true)], args := [d] }
  | _ => none }
def historyPurgesRow : OpenClaim := { program := "ytojgbkiejjingaagreatdoor", sum := "9f04dff6915819bcaaea7eacfb4f4576feec4ce2de340decfb233a002425d266", func := "asof/asoflaw15.HistoryPurges", spec := "historyPurges", inPlace := ["internal/bytealg.IndexByteString", "internal/bytealg.IndexString", "slices.overlaps[asof/api.Table]", "math/bits.Add64", "math/bits.Sub64", "slices.overlaps[asof/api.Feature]"], unfollowed := true, recurses := true, named := ["internal/bytealg.MaxLen", "asof/checker.aggregates", "asof/checker.unary", "asof/checker.binary", "math/bits.divideError", "math/bits.overflowError"], loops := true, plainKeys := false, apart := false, laid := [("asof/checker.aggregates", laid_asof_checker_aggregates), ("asof/checker.unary", laid_asof_checker_unary), ("asof/checker.binary", laid_asof_checker_binary)] }
def HistoryPurgesSaid : Prop := historyPurgesRow.holds Tryz.pinned (OpenSpec.ofChange historyPurgesSpec)

/-- ITS FALSE NEIGHBOUR: 'it returns false'. Refute it at one input. -/
def historyPurgesWrong : ChangeSpec := { name := "historyPurges", fn := fun _ => fun
  | [d] => { results := [.lit (.bool false)], args := [d] }
  | _ => none }
def HistoryPurgesWrongFalsely : Prop := historyPurgesRow.holds Tryz.pinned (OpenSpec.ofChange historyPurgesWrong)

/-- 'asoflaw15.HistorySwaps': WHATEVER THE INPUT: true; the input reads as it did. -/
def historySwapsSpec : ChangeSpec := { name := "historySwaps", fn := fun _ => fun
  | [d1, d2, d3] => { results := [.lit (.bool true)], args := [d1, d2, d3] }
  | _ => none }
def historySwapsRow : OpenClaim := { program := "ytojgbkiejjingaagreatdoor", sum := "9f04dff6915819bcaaea7eacfb4f4576feec4ce2de340decfb233a002425d266", func := "asof/asoflaw15.HistorySwaps", spec := "historySwaps", inPlace := ["internal/bytealg.IndexByteString", "internal/bytealg.IndexString", "slices.overlaps[asof/api.Table]", "math/bits.Add64", "math/bits.Sub64", "slices.overlaps[asof/api.Feature]"], unfollowed := true, recurses := true, named := ["internal/bytealg.MaxLen", "asof/checker.aggregates", "asof/checker.unary", "asof/checker.binary", "math/bits.divideError", "math/bits.overflowError"], loops := true, plainKeys := false, apart := false, laid := [("asof/checker.aggregates", laid_asof_checker_aggregates), ("asof/checker.unary", laid_asof_checker_unary), ("asof/checker.binary", laid_asof_checker_binary)] }
def HistorySwapsSaid : Prop := historySwapsRow.holds Tryz.pinned (OpenSpec.ofChange historySwapsSpec)

/-- ITS FALSE NEIGHBOUR: 'it returns false'. Refute it at one input. -/
def historySwapsWrong : ChangeSpec := { name := "historySwaps", fn := fun _ => fun
  | [d1, d2, d3] => { results := [.lit (.bool false)], args := [d1, d2, d3] }
  | _ => none }
def HistorySwapsWrongFalsely : Prop := historySwapsRow.holds Tryz.pinned (OpenSpec.ofChange historySwapsWrong)

/-- 'asoflaw15.HistoryErases': WHATEVER THE INPUT: true; the input reads as it did. -/
def historyErasesSpec : ChangeSpec := { name := "historyErases", fn := fun _ => fun
  | [d1, d2, d3] => { results := [.lit (.bool true)], args := [d1, d2, d3] }
  | _ => none }
def historyErasesRow : OpenClaim := { program := "ytojgbkiejjingaagreatdoor", sum := "9f04dff6915819bcaaea7eacfb4f4576feec4ce2de340decfb233a002425d266", func := "asof/asoflaw15.HistoryErases", spec := "historyErases", inPlace := ["internal/bytealg.IndexByteString", "internal/bytealg.IndexString", "slices.overlaps[asof/api.Table]", "math/bits.Add64", "math/bits.Sub64", "slices.overlaps[asof/api.Feature]"], unfollowed := true, recurses := true, named := ["internal/bytealg.MaxLen", "asof/checker.aggregates", "asof/checker.unary", "asof/checker.binary", "math/bits.divideError", "math/bits.overflowError"], loops := true, plainKeys := false, apart := false, laid := [("asof/checker.aggregates", laid_asof_checker_aggregates), ("asof/checker.unary", laid_asof_checker_unary), ("asof/checker.binary", laid_asof_checker_binary)] }
def HistoryErasesSaid : Prop := historyErasesRow.holds Tryz.pinned (OpenSpec.ofChange historyErasesSpec)

/-- ITS FALSE NEIGHBOUR: 'it returns false'. Refute it at one input. -/
def historyErasesWrong : ChangeSpec := { name := "historyErases", fn := fun _ => fun
  | [d1, d2, d3] => { results := [.lit (.bool false)], args := [d1, d2, d3] }
  | _ => none }
def HistoryErasesWrongFalsely : Prop := historyErasesRow.holds Tryz.pinned (OpenSpec.ofChange historyErasesWrong)

/-- 'asoflaw15.HistoryCuts': WHATEVER THE INPUT: true; the input reads as it did. -/
def historyCutsSpec : ChangeSpec := { name := "historyCuts", fn := fun _ => fun
  | [d1, d2, d3] => { results := [.lit (.bool true)], args := [d1, d2, d3] }
  | _ => none }
def historyCutsRow : OpenClaim := { program := "ytojgbkiejjingaagreatdoor", sum := "9f04dff6915819bcaaea7eacfb4f4576feec4ce2de340decfb233a002425d266", func := "asof/asoflaw15.HistoryCuts", spec := "historyCuts", inPlace := ["internal/bytealg.IndexByteString", "internal/bytealg.IndexString", "slices.overlaps[asof/api.Table]", "math/bits.Add64", "math/bits.Sub64", "slices.overlaps[asof/api.Feature]"], unfollowed := true, recurses := true, named := ["internal/bytealg.MaxLen", "asof/checker.aggregates", "asof/checker.unary", "asof/checker.binary", "math/bits.divideError", "math/bits.overflowError"], loops := true, plainKeys := false, apart := false, laid := [("asof/checker.aggregates", laid_asof_checker_aggregates), ("asof/checker.unary", laid_asof_checker_unary), ("asof/checker.binary", laid_asof_checker_binary)] }
def HistoryCutsSaid : Prop := historyCutsRow.holds Tryz.pinned (OpenSpec.ofChange historyCutsSpec)

/-- ITS FALSE NEIGHBOUR: 'it returns false'. Refute it at one input. -/
def historyCutsWrong : ChangeSpec := { name := "historyCuts", fn := fun _ => fun
  | [d1, d2, d3] => { results := [.lit (.bool false)], args := [d1, d2, d3] }
  | _ => none }
def HistoryCutsWrongFalsely : Prop := historyCutsRow.holds Tryz.pinned (OpenSpec.ofChange historyCutsWrong)

/-- 'asoflaw15.HistoryShows': WHATEVER THE INPUT: true; the input reads as it did. -/
def historyShowsSpec : ChangeSpec := { name := "historyShows", fn := fun _ => fun
  | [d1, d2, d3] => { results := [.lit (.bool true)], args := [d1, d2, d3] }
  | _ => none }
def historyShowsRow : OpenClaim := { program := "ytojgbkiejjingaagreatdoor", sum := "9f04dff6915819bcaaea7eacfb4f4576feec4ce2de340decfb233a002425d266", func := "asof/asoflaw15.HistoryShows", spec := "historyShows", inPlace := ["slices.overlaps[asof/api.Table]", "internal/bytealg.IndexByteString", "internal/bytealg.IndexString", "math/bits.Add64", "math/bits.Sub64", "slices.overlaps[asof/api.Feature]"], unfollowed := true, recurses := true, named := ["internal/bytealg.MaxLen", "asof/checker.aggregates", "asof/checker.unary", "asof/checker.binary", "math/bits.divideError", "math/bits.overflowError"], loops := true, plainKeys := false, apart := false, laid := [("asof/checker.aggregates", laid_asof_checker_aggregates), ("asof/checker.unary", laid_asof_checker_unary), ("asof/checker.binary", laid_asof_checker_binary)] }
def HistoryShowsSaid : Prop := historyShowsRow.holds Tryz.pinned (OpenSpec.ofChange historyShowsSpec)

/-- ITS FALSE NEIGHBOUR: 'it returns false'. Refute it at one input. -/
def historyShowsWrong : ChangeSpec := { name := "historyShows", fn := fun _ => fun
  | [d1, d2, d3] => { results := [.lit (.bool false)], args := [d1, d2, d3] }
  | _ => none }
def HistoryShowsWrongFalsely : Prop := historyShowsRow.holds Tryz.pinned (OpenSpec.ofChange historyShowsWrong)

/-- 'asoflaw15.HistoryRows': WHATEVER THE INPUT: true; the input reads as it did. -/
def historyRowsSpec : ChangeSpec := { name := "historyRows", fn := fun _ => fun
  | [d1, d2] => { results := [.lit (.bool true)], args := [d1, d2] }
  | _ => none }
def historyRowsRow : OpenClaim := { program := "ytojgbkiejjingaagreatdoor", sum := "9f04dff6915819bcaaea7eacfb4f4576feec4ce2de340decfb233a002425d266", func := "asof/asoflaw15.HistoryRows", spec := "historyRows", inPlace := ["slices.overlaps[asof/api.Table]", "internal/bytealg.IndexByteString", "internal/bytealg.IndexString", "math/bits.Add64", "math/bits.Sub64", "slices.overlaps[asof/api.Feature]"], unfollowed := true, recurses := true, named := ["internal/bytealg.MaxLen", "asof/checker.aggregates", "asof/checker.unary", "asof/checker.binary", "math/bits.divideError", "math/bits.overflowError"], loops := true, plainKeys := false, apart := false, laid := [("asof/checker.aggregates", laid_asof_checker_aggregates), ("asof/checker.unary", laid_asof_checker_unary), ("asof/checker.binary", laid_asof_checker_binary)] }
def HistoryRowsSaid : Prop := historyRowsRow.holds Tryz.pinned (OpenSpec.ofChange historyRowsSpec)

/-- ITS FALSE NEIGHBOUR: 'it returns false'. Refute it at one input. -/
def historyRowsWrong : ChangeSpec := { name := "historyRows", fn := fun _ => fun
  | [d1, d2] => { results := [.lit (.bool false)], args := [d1, d2] }
  | _ => none }
def HistoryRowsWrongFalsely : Prop := historyRowsRow.holds Tryz.pinned (OpenSpec.ofChange historyRowsWrong)

/- THE SECOND FORM. 'bulk': how many values and letters a reading holds, each counted each time it is reached (what is shared counts as often as it is met; a slice's spare places count too). A statement '..UptoSaid' is the law's where the arguments, and the package variables that the reading takes, are together of bulk at most 1048576: NARROWER than '..Said'. Prove '..Said' where nothing that the law and all that it calls make is longer than what came in: it says more and counts as full. Else prove '..UptoSaid'. A law counts once. -/
mutual
def uptoBulk {H : Type} : DataW H → Nat
  | .lit (.string bytes) => bytes.length + 1
  | .lit _ => 1
  | .nil => 1
  | .ptr d => uptoBulk d + 1
  | .slice elems spare => uptoBulkAll elems + uptoBulkAll spare + 1
  | .agg parts => uptoBulkAll parts + 1
  | .iface _ d => uptoBulk d + 1
  | .map entries => uptoBulkEntries entries + 1
  | .held _ => 1
def uptoBulkAll {H : Type} : List (DataW H) → Nat
  | [] => 0
  | d :: r => uptoBulk d + uptoBulkAll r
def uptoBulkEntries {H : Type} : List (Lit × DataW H) → Nat
  | [] => 0
  | x :: r => uptoBulkEntry x + uptoBulkEntries r
def uptoBulkEntry {H : Type} : Lit × DataW H → Nat
  | (.string bytes, d) => bytes.length + uptoBulk d + 1
  | (_, d) => uptoBulk d + 1
 end
def uptoSmall : (H : Type) → List (DataW H) → Bool := fun _ ds => decide (uptoBulkAll ds ≤ 1048576)
def OpenSpec.upto (s : _root_.Go.ChangeSpec) : _root_.Go.OpenSpec := { _root_.Go.OpenSpec.ofChange s with cond := some uptoSmall }

/-- 'asoflaw15.HistoryChecks', WHERE WHAT IT READS IS OF BULK AT MOST 1048576: true; the input reads as it did. -/
def historyChecksUptoRow : OpenClaim := { program := "ytojgbkiejjingaagreatdoor", sum := "9f04dff6915819bcaaea7eacfb4f4576feec4ce2de340decfb233a002425d266", func := "asof/asoflaw15.HistoryChecks", spec := "historyChecks", inPlace := ["internal/bytealg.IndexByteString", "internal/bytealg.IndexString", "slices.overlaps[asof/api.Table]", "math/bits.Add64", "math/bits.Sub64", "slices.overlaps[asof/api.Feature]"], unfollowed := true, recurses := true, named := ["internal/bytealg.MaxLen", "asof/checker.aggregates", "asof/checker.unary", "asof/checker.binary", "math/bits.divideError", "math/bits.overflowError"], loops := true, plainKeys := false, apart := false, laid := [("asof/checker.aggregates", laid_asof_checker_aggregates), ("asof/checker.unary", laid_asof_checker_unary), ("asof/checker.binary", laid_asof_checker_binary)], narrowed := true }
def HistoryChecksUptoSaid : Prop := historyChecksUptoRow.holds Tryz.pinned (OpenSpec.upto historyChecksSpec)

/-- 'asoflaw15.HistoryPurges', WHERE WHAT IT READS IS OF BULK AT MOST 1048576: true; the input reads as it did. -/
def historyPurgesUptoRow : OpenClaim := { program := "ytojgbkiejjingaagreatdoor", sum := "9f04dff6915819bcaaea7eacfb4f4576feec4ce2de340decfb233a002425d266", func := "asof/asoflaw15.HistoryPurges", spec := "historyPurges", inPlace := ["internal/bytealg.IndexByteString", "internal/bytealg.IndexString", "slices.overlaps[asof/api.Table]", "math/bits.Add64", "math/bits.Sub64", "slices.overlaps[asof/api.Feature]"], unfollowed := true, recurses := true, named := ["internal/bytealg.MaxLen", "asof/checker.aggregates", "asof/checker.unary", "asof/checker.binary", "math/bits.divideError", "math/bits.overflowError"], loops := true, plainKeys := false, apart := false, laid := [("asof/checker.aggregates", laid_asof_checker_aggregates), ("asof/checker.unary", laid_asof_checker_unary), ("asof/checker.binary", laid_asof_checker_binary)], narrowed := true }
def HistoryPurgesUptoSaid : Prop := historyPurgesUptoRow.holds Tryz.pinned (OpenSpec.upto historyPurgesSpec)

/-- 'asoflaw15.HistorySwaps', WHERE WHAT IT READS IS OF BULK AT MOST 1048576: true; the input reads as it did. -/
def historySwapsUptoRow : OpenClaim := { program := "ytojgbkiejjingaagreatdoor", sum := "9f04dff6915819bcaaea7eacfb4f4576feec4ce2de340decfb233a002425d266", func := "asof/asoflaw15.HistorySwaps", spec := "historySwaps", inPlace := ["internal/bytealg.IndexByteString", "internal/bytealg.IndexString", "slices.overlaps[asof/api.Table]", "math/bits.Add64", "math/bits.Sub64", "slices.overlaps[asof/api.Feature]"], unfollowed := true, recurses := true, named := ["internal/bytealg.MaxLen", "asof/checker.aggregates", "asof/checker.unary", "asof/checker.binary", "math/bits.divideError", "math/bits.overflowError"], loops := true, plainKeys := false, apart := false, laid := [("asof/checker.aggregates", laid_asof_checker_aggregates), ("asof/checker.unary", laid_asof_checker_unary), ("asof/checker.binary", laid_asof_checker_binary)], narrowed := true }
def HistorySwapsUptoSaid : Prop := historySwapsUptoRow.holds Tryz.pinned (OpenSpec.upto historySwapsSpec)

/-- 'asoflaw15.HistoryErases', WHERE WHAT IT READS IS OF BULK AT MOST 1048576: true; the input reads as it did. -/
def historyErasesUptoRow : OpenClaim := { program := "ytojgbkiejjingaagreatdoor", sum := "9f04dff6915819bcaaea7eacfb4f4576feec4ce2de340decfb233a002425d266", func := "asof/asoflaw15.HistoryErases", spec := "historyErases", inPlace := ["internal/bytealg.IndexByteString", "internal/bytealg.IndexString", "slices.overlaps[asof/api.Table]", "math/bits.Add64", "math/bits.Sub64", "slices.overlaps[asof/api.Feature]"], unfollowed := true, recurses := true, named := ["internal/bytealg.MaxLen", "asof/checker.aggregates", "asof/checker.unary", "asof/checker.binary", "math/bits.divideError", "math/bits.overflowError"], loops := true, plainKeys := false, apart := false, laid := [("asof/checker.aggregates", laid_asof_checker_aggregates), ("asof/checker.unary", laid_asof_checker_unary), ("asof/checker.binary", laid_asof_checker_binary)], narrowed := true }
def HistoryErasesUptoSaid : Prop := historyErasesUptoRow.holds Tryz.pinned (OpenSpec.upto historyErasesSpec)

/-- 'asoflaw15.HistoryCuts', WHERE WHAT IT READS IS OF BULK AT MOST 1048576: true; the input reads as it did. -/
def historyCutsUptoRow : OpenClaim := { program := "ytojgbkiejjingaagreatdoor", sum := "9f04dff6915819bcaaea7eacfb4f4576feec4ce2de340decfb233a002425d266", func := "asof/asoflaw15.HistoryCuts", spec := "historyCuts", inPlace := ["internal/bytealg.IndexByteString", "internal/bytealg.IndexString", "slices.overlaps[asof/api.Table]", "math/bits.Add64", "math/bits.Sub64", "slices.overlaps[asof/api.Feature]"], unfollowed := true, recurses := true, named := ["internal/bytealg.MaxLen", "asof/checker.aggregates", "asof/checker.unary", "asof/checker.binary", "math/bits.divideError", "math/bits.overflowError"], loops := true, plainKeys := false, apart := false, laid := [("asof/checker.aggregates", laid_asof_checker_aggregates), ("asof/checker.unary", laid_asof_checker_unary), ("asof/checker.binary", laid_asof_checker_binary)], narrowed := true }
def HistoryCutsUptoSaid : Prop := historyCutsUptoRow.holds Tryz.pinned (OpenSpec.upto historyCutsSpec)

/-- 'asoflaw15.HistoryShows', WHERE WHAT IT READS IS OF BULK AT MOST 1048576: true; the input reads as it did. -/
def historyShowsUptoRow : OpenClaim := { program := "ytojgbkiejjingaagreatdoor", sum := "9f04dff6915819bcaaea7eacfb4f4576feec4ce2de340decfb233a002425d266", func := "asof/asoflaw15.HistoryShows", spec := "historyShows", inPlace := ["slices.overlaps[asof/api.Table]", "internal/bytealg.IndexByteString", "internal/bytealg.IndexString", "math/bits.Add64", "math/bits.Sub64", "slices.overlaps[asof/api.Feature]"], unfollowed := true, recurses := true, named := ["internal/bytealg.MaxLen", "asof/checker.aggregates", "asof/checker.unary", "asof/checker.binary", "math/bits.divideError", "math/bits.overflowError"], loops := true, plainKeys := false, apart := false, laid := [("asof/checker.aggregates", laid_asof_checker_aggregates), ("asof/checker.unary", laid_asof_checker_unary), ("asof/checker.binary", laid_asof_checker_binary)], narrowed := true }
def HistoryShowsUptoSaid : Prop := historyShowsUptoRow.holds Tryz.pinned (OpenSpec.upto historyShowsSpec)

/-- 'asoflaw15.HistoryRows', WHERE WHAT IT READS IS OF BULK AT MOST 1048576: true; the input reads as it did. -/
def historyRowsUptoRow : OpenClaim := { program := "ytojgbkiejjingaagreatdoor", sum := "9f04dff6915819bcaaea7eacfb4f4576feec4ce2de340decfb233a002425d266", func := "asof/asoflaw15.HistoryRows", spec := "historyRows", inPlace := ["slices.overlaps[asof/api.Table]", "internal/bytealg.IndexByteString", "internal/bytealg.IndexString", "math/bits.Add64", "math/bits.Sub64", "slices.overlaps[asof/api.Feature]"], unfollowed := true, recurses := true, named := ["internal/bytealg.MaxLen", "asof/checker.aggregates", "asof/checker.unary", "asof/checker.binary", "math/bits.divideError", "math/bits.overflowError"], loops := true, plainKeys := false, apart := false, laid := [("asof/checker.aggregates", laid_asof_checker_aggregates), ("asof/checker.unary", laid_asof_checker_unary), ("asof/checker.binary", laid_asof_checker_binary)], narrowed := true }
def HistoryRowsUptoSaid : Prop := historyRowsUptoRow.holds Tryz.pinned (OpenSpec.upto historyRowsSpec)

end Rows
end Go.Proofs.YtojgbkiejjingaaGreatDoor
