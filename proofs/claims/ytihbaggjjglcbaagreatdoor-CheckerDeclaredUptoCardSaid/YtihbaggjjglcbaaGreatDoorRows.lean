/-
  NARROWER THAN 'FOR EVERY INPUT', by the rows' own cells (each row's printed sentence says how): CheckerUnits: loops, laid · CheckerLiterals: laid · CheckerWeakening: loops, laid · CheckerDeclared: loops, laid · CheckerMatchesTables: laid.
  DERIVED. THE GIVEN ROWS OF THIS SEAT. 5 by the template 'for every input the law returns true; each argument reads behind the call as it read before'; 0 by the template 'total and deterministic' (their statements: YtihbaggjjglcbaaGreatDoorTotals.lean).
  GIVEN WITH THE SEED: the statements are not yours to turn. If you find one false, say at which input.
  Laid BY PROGRAM, IN A SANDBOX (cutbox-rows.mjs): the forced cells as the released guide's own fill.sh prints them over the translation 1f7790bc586031e6… (all of the seat's roots in one cut). By AI agents, Wed Nov 11 2026. No macro, syntax, notation, axiom, sorry.
-/
import Derived.Test.YtihbaggjjglcbaaGreatDoorChecked
import GoSem.Claim
import GoSem.ClaimJoined
import GoSem.ClaimMapViews
import Derived.JoinedTies
import Derived.KernelRfl
namespace Go.Proofs.YtihbaggjjglcbaaGreatDoor
/- THE CELL 'sum', in the pinned program and in every row, IS THE sha256 OF THE DUMP (.gsa) THAT YtihbaggjjglcbaaGreatDoorProg.lean LOADS. Nothing in Lean hashes anything: it is a label: what it is worth is what the hold of that sum in a sandbox is worth. -/
noncomputable def Tryz.pinned : Pinned := { name := "ytihbaggjjglcbaagreatdoor", sum := "1f7790bc586031e6e474bb714d8bb476433cccffb8ceebdd0e9f19ed6cf59a14", checked := Tryz.checked }
namespace Rows
def none {H : Type} : Left H := { results := [], args := [] }

/- WHAT THE LISTED PACKAGE-LEVEL VARIABLES READ AS WHEN THE CALL BEGINS. Each datum BY PROGRAM (the guide's laid-datum.mjs) off the statement by which the dump's own 'gosem.cut.vars' lays the variable. In a bare row this is a premise. The card (YtihbaggjjglcbaaGreatDoorCards.lean) ties it to the program's text. -/
def laid_asof_checker_aggregates {H : Type} : DataW H := .slice [.lit (.string [99, 111, 117, 110, 116]), .lit (.string [115, 117, 109]), .lit (.string [109, 101, 97, 110]), .lit (.string [109, 105, 110]), .lit (.string [109, 97, 120]), .lit (.string [102, 105, 114, 115, 116]), .lit (.string [108, 97, 115, 116]), .lit (.string [100, 105, 115, 116, 105, 110, 99, 116]), .lit (.string [113, 117, 97, 110, 116, 105, 108, 101]), .lit (.string [100, 101, 99, 97, 121])] []
def laid_asof_checker_unary {H : Type} : DataW H := .slice [.lit (.string [45]), .lit (.string [110, 111, 116]), .lit (.string [110, 117, 108, 108])] []
def laid_asof_checker_binary {H : Type} : DataW H := .slice [.lit (.string [43]), .lit (.string [45]), .lit (.string [42]), .lit (.string [47]), .lit (.string [61, 61]), .lit (.string [33, 61]), .lit (.string [60]), .lit (.string [60, 61]), .lit (.string [97, 110, 100]), .lit (.string [111, 114])] []

/-- 'asoflaw10.CheckerUnits': WHATEVER THE INPUT: true; the input reads as it did. -/
def checkerUnitsSpec : ChangeSpec := { name := "checkerUnits", fn := fun _ => fun
  | [d1, d2, d3, d4] => { results := [.lit (.bool true)], args := [d1, d2, d3, d4] }
  | _ => none }
def checkerUnitsRow : OpenClaim := { program := "ytihbaggjjglcbaagreatdoor", sum := "1f7790bc586031e6e474bb714d8bb476433cccffb8ceebdd0e9f19ed6cf59a14", func := "asof/asoflaw10.CheckerUnits", spec := "checkerUnits", inPlace := ["internal/bytealg.IndexByteString", "internal/bytealg.IndexString", "math/bits.Add64", "math/bits.Sub64"], unfollowed := true, recurses := true, named := ["asof/checker.aggregates", "asof/checker.unary", "asof/checker.binary", "internal/bytealg.MaxLen", "math/bits.divideError", "math/bits.overflowError"], loops := true, apart := false, laid := [("asof/checker.aggregates", laid_asof_checker_aggregates), ("asof/checker.unary", laid_asof_checker_unary), ("asof/checker.binary", laid_asof_checker_binary)] }
def CheckerUnitsSaid : Prop := checkerUnitsRow.holds Tryz.pinned (OpenSpec.ofChange checkerUnitsSpec)

/-- ITS FALSE NEIGHBOUR: 'it returns false'. Refute it at one input. -/
def checkerUnitsWrong : ChangeSpec := { name := "checkerUnits", fn := fun _ => fun
  | [d1, d2, d3, d4] => { results := [.lit (.bool false)], args := [d1, d2, d3, d4] }
  | _ => none }
def CheckerUnitsWrongFalsely : Prop := checkerUnitsRow.holds Tryz.pinned (OpenSpec.ofChange checkerUnitsWrong)

/-- 'asoflaw10.CheckerLiterals': WHATEVER THE INPUT: true; the input reads as it did. -/
def checkerLiteralsSpec : ChangeSpec := { name := "checkerLiterals", fn := fun _ => fun
  | [d1, d2, d3] => { results := [.lit (.bool true)], args := [d1, d2, d3] }
  | _ => none }
def checkerLiteralsRow : OpenClaim := { program := "ytihbaggjjglcbaagreatdoor", sum := "1f7790bc586031e6e474bb714d8bb476433cccffb8ceebdd0e9f19ed6cf59a14", func := "asof/asoflaw10.CheckerLiterals", spec := "checkerLiterals", inPlace := ["internal/bytealg.IndexByteString", "internal/bytealg.IndexString", "math/bits.Add64", "math/bits.Sub64"], unfollowed := true, recurses := true, named := ["asof/checker.aggregates", "asof/checker.unary", "asof/checker.binary", "internal/bytealg.MaxLen", "math/bits.divideError", "math/bits.overflowError"], apart := false, laid := [("asof/checker.aggregates", laid_asof_checker_aggregates), ("asof/checker.unary", laid_asof_checker_unary), ("asof/checker.binary", laid_asof_checker_binary)] }
def CheckerLiteralsSaid : Prop := checkerLiteralsRow.holds Tryz.pinned (OpenSpec.ofChange checkerLiteralsSpec)

/-- ITS FALSE NEIGHBOUR: 'it returns false'. Refute it at one input. -/
def checkerLiteralsWrong : ChangeSpec := { name := "checkerLiterals", fn := fun _ => fun
  | [d1, d2, d3] => { results := [.lit (.bool false)], args := [d1, d2, d3] }
  | _ => none }
def CheckerLiteralsWrongFalsely : Prop := checkerLiteralsRow.holds Tryz.pinned (OpenSpec.ofChange checkerLiteralsWrong)

/-- 'asoflaw10.CheckerWeakening': WHATEVER THE INPUT: true; the input reads as it did. -/
def checkerWeakeningSpec : ChangeSpec := { name := "checkerWeakening", fn := fun _ => fun
  | [d1, d2, d3, d4, d5] => { results := [.lit (.bool true)], args := [d1, d2, d3, d4, d5] }
  | _ => none }
def checkerWeakeningRow : OpenClaim := { program := "ytihbaggjjglcbaagreatdoor", sum := "1f7790bc586031e6e474bb714d8bb476433cccffb8ceebdd0e9f19ed6cf59a14", func := "asof/asoflaw10.CheckerWeakening", spec := "checkerWeakening", inPlace := ["internal/bytealg.IndexByteString", "internal/bytealg.IndexString", "math/bits.Add64", "math/bits.Sub64"], unfollowed := true, recurses := true, named := ["asof/checker.aggregates", "asof/checker.unary", "asof/checker.binary", "internal/bytealg.MaxLen", "math/bits.divideError", "math/bits.overflowError"], loops := true, apart := false, laid := [("asof/checker.aggregates", laid_asof_checker_aggregates), ("asof/checker.unary", laid_asof_checker_unary), ("asof/checker.binary", laid_asof_checker_binary)] }
def CheckerWeakeningSaid : Prop := checkerWeakeningRow.holds Tryz.pinned (OpenSpec.ofChange checkerWeakeningSpec)

/-- ITS FALSE NEIGHBOUR: 'it returns false'. Refute it at one input. -/
def checkerWeakeningWrong : ChangeSpec := { name := "checkerWeakening", fn := fun _ => fun
  | [d1, d2, d3, d4, d5] => { results := [.lit (.bool false)], args := [d1, d2, d3, d4, d5] }
  | _ => none }
def CheckerWeakeningWrongFalsely : Prop := checkerWeakeningRow.holds Tryz.pinned (OpenSpec.ofChange checkerWeakeningWrong)

/-- 'asoflaw10.CheckerDeclared': WHATEVER THE INPUT: true; the input reads as it did. -/
def checkerDeclaredSpec : ChangeSpec := { name := "checkerDeclared", fn := fun _ => fun
  | [d1, d2] => { results := [.lit (.bool true)], args := [d1, d2] }
  | _ => none }
def checkerDeclaredRow : OpenClaim := { program := "ytihbaggjjglcbaagreatdoor", sum := "1f7790bc586031e6e474bb714d8bb476433cccffb8ceebdd0e9f19ed6cf59a14", func := "asof/asoflaw10.CheckerDeclared", spec := "checkerDeclared", inPlace := ["internal/bytealg.IndexByteString", "internal/bytealg.IndexString", "math/bits.Add64", "math/bits.Sub64"], unfollowed := true, recurses := true, named := ["asof/checker.aggregates", "asof/checker.unary", "asof/checker.binary", "internal/bytealg.MaxLen", "math/bits.divideError", "math/bits.overflowError"], loops := true, apart := false, laid := [("asof/checker.aggregates", laid_asof_checker_aggregates), ("asof/checker.unary", laid_asof_checker_unary), ("asof/checker.binary", laid_asof_checker_binary)] }
def CheckerDeclaredSaid : Prop := checkerDeclaredRow.holds Tryz.pinned (OpenSpec.ofChange checkerDeclaredSpec)

/-- ITS FALSE NEIGHBOUR: 'it returns false'. Refute it at one input. -/
def checkerDeclaredWrong : ChangeSpec := { name := "checkerDeclared", fn := fun _ => fun
  | [d1, d2] => { results := [.lit (.bool false)], args := [d1, d2] }
  | _ => none }
def CheckerDeclaredWrongFalsely : Prop := checkerDeclaredRow.holds Tryz.pinned (OpenSpec.ofChange checkerDeclaredWrong)

/-- 'asoflaw10.CheckerMatchesTables': WHATEVER THE INPUT: true; the input reads as it did. -/
def checkerMatchesTablesSpec : ChangeSpec := { name := "checkerMatchesTables", fn := fun _ => fun
  | [d1, d2] => { results := [.lit (.bool true)], args := [d1, d2] }
  | _ => none }
def checkerMatchesTablesRow : OpenClaim := { program := "ytihbaggjjglcbaagreatdoor", sum := "1f7790bc586031e6e474bb714d8bb476433cccffb8ceebdd0e9f19ed6cf59a14", func := "asof/asoflaw10.CheckerMatchesTables", spec := "checkerMatchesTables", inPlace := ["internal/bytealg.IndexByteString", "internal/bytealg.IndexString", "math/bits.Add64", "math/bits.Sub64"], unfollowed := true, recurses := true, named := ["asof/checker.aggregates", "asof/checker.unary", "asof/checker.binary", "internal/bytealg.MaxLen", "math/bits.divideError", "math/bits.overflowError"], apart := false, laid := [("asof/checker.aggregates", laid_asof_checker_aggregates), ("asof/checker.unary", laid_asof_checker_unary), ("asof/checker.binary", laid_asof_checker_binary)] }
def CheckerMatchesTablesSaid : Prop := checkerMatchesTablesRow.holds Tryz.pinned (OpenSpec.ofChange checkerMatchesTablesSpec)

/-- ITS FALSE NEIGHBOUR: 'it returns false'. Refute it at one input. -/
def checkerMatchesTablesWrong : ChangeSpec := { name := "checkerMatchesTables", fn := fun _ => fun
  | [d1, d2] => { results := [.lit (.bool false)], args := [d1, d2] }
  | _ => none }
def CheckerMatchesTablesWrongFalsely : Prop := checkerMatchesTablesRow.holds Tryz.pinned (OpenSpec.ofChange checkerMatchesTablesWrong)

/- THE SECOND FORM. 'bulk': how many values and letters a reading holds, each counted each time it is reached (what is shared counts as often as it is met; a slice's spare places count too). A statement '..UptoSaid' is the law's where the arguments, and the package variables that the reading takes, are together of bulk at most 1048576: NARROWER than '..Said'. Prove '..Said' where nothing that the law and all that it calls make is longer than what came in: it says more and counts as full. Else prove '..UptoSaid'. A law counts once. -/
mutual
def uptoBulk {H : Type} : DataW H → Nat
  | .lit (.string bytes) => bytes.length + 1
  | .lit _ => 1
  | .nil => 1
  | .ptr d => uptoBulk d + 1
  | .slice elems spare => uptoBulkAll elems + uptoBulkAll spare + 1
  | .agg parts => uptoBulkAll parts + 1
  | .iface _ d => uptoBulk d + 1
  | .map entries => uptoBulkEntries entries + 1
  | .held _ => 1
def uptoBulkAll {H : Type} : List (DataW H) → Nat
  | [] => 0
  | d :: r => uptoBulk d + uptoBulkAll r
def uptoBulkEntries {H : Type} : List (Lit × DataW H) → Nat
  | [] => 0
  | x :: r => uptoBulkEntry x + uptoBulkEntries r
def uptoBulkEntry {H : Type} : Lit × DataW H → Nat
  | (.string bytes, d) => bytes.length + uptoBulk d + 1
  | (_, d) => uptoBulk d + 1
 end
def uptoSmall : (H : Type) → List (DataW H) → Bool := fun _ ds => decide (uptoBulkAll ds ≤ 1048576)
def OpenSpec.upto (s : _root_.Go.ChangeSpec) : _root_.Go.OpenSpec := { _root_.Go.OpenSpec.ofChange s with cond := some uptoSmall }

/-- 'asoflaw10.CheckerUnits', WHERE WHAT IT READS IS OF BULK AT MOST 1048576: true; the input reads as it did. -/
def checkerUnitsUptoRow : OpenClaim := { program := "ytihbaggjjglcbaagreatdoor", sum := "1f7790bc586031e6e474bb714d8bb476433cccffb8ceebdd0e9f19ed6cf59a14", func := "asof/asoflaw10.CheckerUnits", spec := "checkerUnits", inPlace := ["internal/bytealg.IndexByteString", "internal/bytealg.IndexString", "math/bits.Add64", "math/bits.Sub64"], unfollowed := true, recurses := true, named := ["asof/checker.aggregates", "asof/checker.unary", "asof/checker.binary", "internal/bytealg.MaxLen", "math/bits.divideError", "math/bits.overflowError"], loops := true, apart := false, laid := [("asof/checker.aggregates", laid_asof_checker_aggregates), ("asof/checker.unary", laid_asof_checker_unary), ("asof/checker.binary", laid_asof_checker_binary)], narrowed := true }
def CheckerUnitsUptoSaid : Prop := checkerUnitsUptoRow.holds Tryz.pinned (OpenSpec.upto checkerUnitsSpec)

/-- 'asoflaw10.CheckerLiterals', WHERE WHAT IT READS IS OF BULK AT MOST 1048576: true; the input reads as it did. -/
def checkerLiteralsUptoRow : OpenClaim := { program := "ytihbaggjjglcbaagreatdoor", sum := "1f7790bc586031e6e474bb714d8bb476433cccffb8ceebdd0e9f19ed6cf59a14", func := "asof/asoflaw10.CheckerLiterals", spec := "checkerLiterals", inPlace := ["internal/bytealg.IndexByteString", "internal/bytealg.IndexString", "math/bits.Add64", "math/bits.Sub64"], unfollowed := true, recurses := true, named := ["asof/checker.aggregates", "asof/checker.unary", "asof/checker.binary", "internal/bytealg.MaxLen", "math/bits.divideError", "math/bits.overflowError"], apart := false, laid := [("asof/checker.aggregates", laid_asof_checker_aggregates), ("asof/checker.unary", laid_asof_checker_unary), ("asof/checker.binary", laid_asof_checker_binary)], narrowed := true }
def CheckerLiteralsUptoSaid : Prop := checkerLiteralsUptoRow.holds Tryz.pinned (OpenSpec.upto checkerLiteralsSpec)

/-- 'asoflaw10.CheckerWeakening', WHERE WHAT IT READS IS OF BULK AT MOST 1048576: true; the input reads as it did. -/
def checkerWeakeningUptoRow : OpenClaim := { program := "ytihbaggjjglcbaagreatdoor", sum := "1f7790bc586031e6e474bb714d8bb476433cccffb8ceebdd0e9f19ed6cf59a14", func := "asof/asoflaw10.CheckerWeakening", spec := "checkerWeakening", inPlace := ["internal/bytealg.IndexByteString", "internal/bytealg.IndexString", "math/bits.Add64", "math/bits.Sub64"], unfollowed := true, recurses := true, named := ["asof/checker.aggregates", "asof/checker.unary", "asof/checker.binary", "internal/bytealg.MaxLen", "math/bits.divideError", "math/bits.overflowError"], loops := true, apart := false, laid := [("asof/checker.aggregates", laid_asof_checker_aggregates), ("asof/checker.unary", laid_asof_checker_unary), ("asof/checker.binary", laid_asof_checker_binary)], narrowed := true }
def CheckerWeakeningUptoSaid : Prop := checkerWeakeningUptoRow.holds Tryz.pinned (OpenSpec.upto checkerWeakeningSpec)

/-- 'asoflaw10.CheckerDeclared', WHERE WHAT IT READS IS OF BULK AT MOST 1048576: true; the input reads as it did. -/
def checkerDeclaredUptoRow : OpenClaim := { program := "ytihbaggjjglcbaagreatdoor", sum := "1f7790bc586031e6e474bb714d8bb476433cccffb8ceebdd0e9f19ed6cf59a14", func := "asof/asoflaw10.CheckerDeclared", spec := "checkerDeclared", inPlace := ["internal/bytealg.IndexByteString", "internal/bytealg.IndexString", "math/bits.Add64", "math/bits.Sub64"], unfollowed := true, recurses := true, named := ["asof/checker.aggregates", "asof/checker.unary", "asof/checker.binary", "internal/bytealg.MaxLen", "math/bits.divideError", "math/bits.overflowError"], loops := true, apart := false, laid := [("asof/checker.aggregates", laid_asof_checker_aggregates), ("asof/checker.unary", laid_asof_checker_unary), ("asof/checker.binary", laid_asof_checker_binary)], narrowed := true }
def CheckerDeclaredUptoSaid : Prop := checkerDeclaredUptoRow.holds Tryz.pinned (OpenSpec.upto checkerDeclaredSpec)

/-- 'asoflaw10.CheckerMatchesTables', WHERE WHAT IT READS IS OF BULK AT MOST 1048576: true; the input reads as it did. -/
def checkerMatchesTablesUptoRow : OpenClaim := { program := "ytihbaggjjglcbaagreatdoor", sum := "1f7790bc586031e6e474bb714d8bb476433cccffb8ceebdd0e9f19ed6cf59a14", func := "asof/asoflaw10.CheckerMatchesTables", spec := "checkerMatchesTables", inPlace := ["internal/bytealg.IndexByteString", "internal/bytealg.IndexString", "math/bits.Add64", "math/bits.Sub64"], unfollowed := true, recurses := true, named := ["asof/checker.aggregates", "asof/checker.unary", "asof/checker.binary", "internal/bytealg.MaxLen", "math/bits.divideError", "math/bits.overflowError"], apart := false, laid := [("asof/checker.aggregates", laid_asof_checker_aggregates), ("asof/checker.unary", laid_asof_checker_unary), ("asof/checker.binary", laid_asof_checker_binary)], narrowed := true }
def CheckerMatchesTablesUptoSaid : Prop := checkerMatchesTablesUptoRow.holds Tryz.pinned (OpenSpec.upto checkerMatchesTablesSpec)

end Rows
end Go.Proofs.YtihbaggjjglcbaaGreatDoor
