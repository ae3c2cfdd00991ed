/-
  NARROWER THAN 'FOR EVERY INPUT', by the rows' own cells (each row's printed sentence says how): AdmissionChecks: loops, laid · AdmissionFacts: loops, laid · AdmissionOnce: loops, laid · AdmissionBounds: loops, laid · AdmissionOthers: loops, laid · AdmissionPurged: loops, laid · AdmissionValid: loops, laid.
  DERIVED. THE GIVEN ROWS OF THIS SEAT. 7 by the template 'for every input the law returns true; each argument reads behind the call as it read before'; 0 by the template 'total and deterministic' (their statements: YtkhlddbmhehbbaaGreatDoorTotals.lean).
  GIVEN WITH THE SEED: the statements are not yours to turn. If you find one false, say at which input.
  Laid BY PROGRAM, IN A SANDBOX (cutbox-rows.mjs): the forced cells as the released guide's own fill.sh prints them over the translation bc5df7a994d6de1a… (all of the seat's roots in one cut). By AI agents, Wed Nov 11 2026. No macro, syntax, notation, axiom, sorry.
-/
import Derived.Test.YtkhlddbmhehbbaaGreatDoorChecked
import GoSem.Claim
import GoSem.ClaimJoined
import GoSem.ClaimMapViews
import Derived.JoinedTies
import Derived.KernelRfl
namespace Go.Proofs.YtkhlddbmhehbbaaGreatDoor
/- THE CELL 'sum', in the pinned program and in every row, IS THE sha256 OF THE DUMP (.gsa) THAT YtkhlddbmhehbbaaGreatDoorProg.lean LOADS. Nothing in Lean hashes anything: it is a label: what it is worth is what the hold of that sum in a sandbox is worth. -/
noncomputable def Tryz.pinned : Pinned := { name := "ytkhlddbmhehbbaagreatdoor", sum := "bc5df7a994d6de1a447189050c3f20423c640a1fa6e4d9fb910e059477168789", checked := Tryz.checked }
namespace Rows
def none {H : Type} : Left H := { results := [], args := [] }

/- WHAT THE LISTED PACKAGE-LEVEL VARIABLES READ AS WHEN THE CALL BEGINS. Each datum BY PROGRAM (the guide's laid-datum.mjs) off the statement by which the dump's own 'gosem.cut.vars' lays the variable. In a bare row this is a premise. The card (YtkhlddbmhehbbaaGreatDoorCards.lean) ties it to the program's text. -/
def laid_asof_checker_aggregates {H : Type} : DataW H := .slice [.lit (.string [99, 111, 117, 110, 116]), .lit (.string [115, 117, 109]), .lit (.string [109, 101, 97, 110]), .lit (.string [109, 105, 110]), .lit (.string [109, 97, 120]), .lit (.string [102, 105, 114, 115, 116]), .lit (.string [108, 97, 115, 116]), .lit (.string [100, 105, 115, 116, 105, 110, 99, 116]), .lit (.string [113, 117, 97, 110, 116, 105, 108, 101]), .lit (.string [100, 101, 99, 97, 121])] []
def laid_asof_checker_unary {H : Type} : DataW H := .slice [.lit (.string [45]), .lit (.string [110, 111, 116]), .lit (.string [110, 117, 108, 108])] []
def laid_asof_checker_binary {H : Type} : DataW H := .slice [.lit (.string [43]), .lit (.string [45]), .lit (.string [42]), .lit (.string [47]), .lit (.string [61, 61]), .lit (.string [33, 61]), .lit (.string [60]), .lit (.string [60, 61]), .lit (.string [97, 110, 100]), .lit (.string [111, 114])] []

/-- 'asoflaw33.AdmissionChecks': WHATEVER THE INPUT: true; the input reads as it did. -/
def admissionChecksSpec : ChangeSpec := { name := "admissionChecks", fn := fun _ => fun
  | [d1, d2, d3] => { results := [.lit (.bool true)], args := [d1, d2, d3] }
  | _ => none }
def admissionChecksRow : OpenClaim := { program := "ytkhlddbmhehbbaagreatdoor", sum := "bc5df7a994d6de1a447189050c3f20423c640a1fa6e4d9fb910e059477168789", func := "asof/asoflaw33.AdmissionChecks", spec := "admissionChecks", inPlace := ["slices.overlaps[asof/api.Table]", "internal/bytealg.IndexByteString", "internal/bytealg.IndexString", "math/bits.Add64", "math/bits.Sub64", "slices.overlaps[asof/api.Feature]"], unfollowed := true, recurses := true, named := ["internal/bytealg.MaxLen", "asof/checker.aggregates", "asof/checker.unary", "asof/checker.binary", "math/bits.divideError", "math/bits.overflowError"], loops := true, plainKeys := false, apart := false, laid := [("asof/checker.aggregates", laid_asof_checker_aggregates), ("asof/checker.unary", laid_asof_checker_unary), ("asof/checker.binary", laid_asof_checker_binary)] }
def AdmissionChecksSaid : Prop := admissionChecksRow.holds Tryz.pinned (OpenSpec.ofChange admissionChecksSpec)

/-- ITS FALSE NEIGHBOUR: 'it returns false'. Refute it at one input. -/
def admissionChecksWrong : ChangeSpec := { name := "admissionChecks", fn := fun _ => fun
  | [d1, d2, d3] => { results := [.lit (.bool false)], args := [d1, d2, d3] }
  | _ => none }
def AdmissionChecksWrongFalsely : Prop := admissionChecksRow.holds Tryz.pinned (OpenSpec.ofChange admissionChecksWrong)

/-- 'asoflaw33.AdmissionFacts': WHATEVER THE INPUT: true; the input reads as it did. -/
def admissionFactsSpec : ChangeSpec := { name := "admissionFacts", fn := fun _ => fun
  | [d1, d2, d3, d4] => { results := [.lit (.bool true)], args := [d1, d2, d3, d4] }
  | _ => none }
def admissionFactsRow : OpenClaim := { program := "ytkhlddbmhehbbaagreatdoor", sum := "bc5df7a994d6de1a447189050c3f20423c640a1fa6e4d9fb910e059477168789", func := "asof/asoflaw33.AdmissionFacts", spec := "admissionFacts", inPlace := ["slices.overlaps[asof/api.Table]", "internal/bytealg.IndexByteString", "internal/bytealg.IndexString", "math/bits.Add64", "math/bits.Sub64", "slices.overlaps[asof/api.Feature]"], unfollowed := true, recurses := true, named := ["internal/bytealg.MaxLen", "asof/checker.aggregates", "asof/checker.unary", "asof/checker.binary", "math/bits.divideError", "math/bits.overflowError"], loops := true, plainKeys := false, apart := false, laid := [("asof/checker.aggregates", laid_asof_checker_aggregates), ("asof/checker.unary", laid_asof_checker_unary), ("asof/checker.binary", laid_asof_checker_binary)] }
def AdmissionFactsSaid : Prop := admissionFactsRow.holds Tryz.pinned (OpenSpec.ofChange admissionFactsSpec)

/-- ITS FALSE NEIGHBOUR: 'it returns false'. Refute it at one input. -/
def admissionFactsWrong : ChangeSpec := { name := "admissionFacts", fn := fun _ => fun
  | [d1, d2, d3, d4] => { results := [.lit (.bool false)], args := [d1, d2, d3, d4] }
  | _ => none }
def AdmissionFactsWrongFalsely : Prop := admissionFactsRow.holds Tryz.pinned (OpenSpec.ofChange admissionFactsWrong)

/-- 'asoflaw33.AdmissionOnce': WHATEVER THE INPUT: true; the input reads as it did. -/
def admissionOnceSpec : ChangeSpec := { name := "admissionOnce", fn := fun _ => fun
  | [d1, d2, d3, d4, d5, d6] => { results := [.lit (.bool true)], args := [d1, d2, d3, d4, d5, d6] }
  | _ => none }
def admissionOnceRow : OpenClaim := { program := "ytkhlddbmhehbbaagreatdoor", sum := "bc5df7a994d6de1a447189050c3f20423c640a1fa6e4d9fb910e059477168789", func := "asof/asoflaw33.AdmissionOnce", spec := "admissionOnce", inPlace := ["slices.overlaps[asof/api.Table]", "internal/bytealg.IndexByteString", "internal/bytealg.IndexString", "math/bits.Add64", "math/bits.Sub64", "slices.overlaps[asof/api.Feature]"], unfollowed := true, recurses := true, named := ["internal/bytealg.MaxLen", "asof/checker.aggregates", "asof/checker.unary", "asof/checker.binary", "math/bits.divideError", "math/bits.overflowError"], loops := true, plainKeys := false, apart := false, laid := [("asof/checker.aggregates", laid_asof_checker_aggregates), ("asof/checker.unary", laid_asof_checker_unary), ("asof/checker.binary", laid_asof_checker_binary)] }
def AdmissionOnceSaid : Prop := admissionOnceRow.holds Tryz.pinned (OpenSpec.ofChange admissionOnceSpec)

/-- ITS FALSE NEIGHBOUR: 'it returns false'. Refute it at one input. -/
def admissionOnceWrong : ChangeSpec := { name := "admissionOnce", fn := fun _ => fun
  | [d1, d2, d3, d4, d5, d6] => { results := [.lit (.bool false)], args := [d1, d2, d3, d4, d5, d6] }
  | _ => none }
def AdmissionOnceWrongFalsely : Prop := admissionOnceRow.holds Tryz.pinned (OpenSpec.ofChange admissionOnceWrong)

/-- 'asoflaw33.AdmissionBounds': WHATEVER THE INPUT: true; the input reads as it did. -/
def admissionBoundsSpec : ChangeSpec := { name := "admissionBounds", fn := fun _ => fun
  | [d1, d2, d3] => { results := [.lit (.bool true)], args := [d1, d2, d3] }
  | _ => none }
def admissionBoundsRow : OpenClaim := { program := "ytkhlddbmhehbbaagreatdoor", sum := "bc5df7a994d6de1a447189050c3f20423c640a1fa6e4d9fb910e059477168789", func := "asof/asoflaw33.AdmissionBounds", spec := "admissionBounds", inPlace := ["slices.overlaps[asof/api.Table]", "internal/bytealg.IndexByteString", "internal/bytealg.IndexString", "math/bits.Add64", "math/bits.Sub64", "slices.overlaps[asof/api.Feature]"], unfollowed := true, recurses := true, named := ["internal/bytealg.MaxLen", "asof/checker.aggregates", "asof/checker.unary", "asof/checker.binary", "math/bits.divideError", "math/bits.overflowError"], loops := true, plainKeys := false, apart := false, laid := [("asof/checker.aggregates", laid_asof_checker_aggregates), ("asof/checker.unary", laid_asof_checker_unary), ("asof/checker.binary", laid_asof_checker_binary)] }
def AdmissionBoundsSaid : Prop := admissionBoundsRow.holds Tryz.pinned (OpenSpec.ofChange admissionBoundsSpec)

/-- ITS FALSE NEIGHBOUR: 'it returns false'. Refute it at one input. -/
def admissionBoundsWrong : ChangeSpec := { name := "admissionBounds", fn := fun _ => fun
  | [d1, d2, d3] => { results := [.lit (.bool false)], args := [d1, d2, d3] }
  | _ => none }
def AdmissionBoundsWrongFalsely : Prop := admissionBoundsRow.holds Tryz.pinned (OpenSpec.ofChange admissionBoundsWrong)

/-- 'asoflaw33.AdmissionOthers': WHATEVER THE INPUT: true; the input reads as it did. -/
def admissionOthersSpec : ChangeSpec := { name := "admissionOthers", fn := fun _ => fun
  | [d1, d2, d3, d4] => { results := [.lit (.bool true)], args := [d1, d2, d3, d4] }
  | _ => none }
def admissionOthersRow : OpenClaim := { program := "ytkhlddbmhehbbaagreatdoor", sum := "bc5df7a994d6de1a447189050c3f20423c640a1fa6e4d9fb910e059477168789", func := "asof/asoflaw33.AdmissionOthers", spec := "admissionOthers", inPlace := ["internal/bytealg.IndexByteString", "internal/bytealg.IndexString", "slices.overlaps[asof/api.Table]", "math/bits.Add64", "math/bits.Sub64", "slices.overlaps[asof/api.Feature]"], unfollowed := true, recurses := true, named := ["internal/bytealg.MaxLen", "asof/checker.aggregates", "asof/checker.unary", "asof/checker.binary", "math/bits.divideError", "math/bits.overflowError"], loops := true, plainKeys := false, apart := false, laid := [("asof/checker.aggregates", laid_asof_checker_aggregates), ("asof/checker.unary", laid_asof_checker_unary), ("asof/checker.binary", laid_asof_checker_binary)] }
def AdmissionOthersSaid : Prop := admissionOthersRow.holds Tryz.pinned (OpenSpec.ofChange admissionOthersSpec)

/-- ITS FALSE NEIGHBOUR: 'it returns false'. Refute it at one input. -/
def admissionOthersWrong : ChangeSpec := { name := "admissionOthers", fn := fun _ => fun
  | [d1, d2, d3, d4] => { results := [.lit (.bool false)], args := [d1, d2, d3, d4] }
  | _ => none }
def AdmissionOthersWrongFalsely : Prop := admissionOthersRow.holds Tryz.pinned (OpenSpec.ofChange admissionOthersWrong)

/-- 'asoflaw33.AdmissionPurged': WHATEVER THE INPUT: true; the input reads as it did. -/
def admissionPurgedSpec : ChangeSpec := { name := "admissionPurged", fn := fun _ => fun
  | [d1, d2, d3, d4, d5] => { results := [.lit (.bool true)], args := [d1, d2, d3, d4, d5] }
  | _ => none }
def admissionPurgedRow : OpenClaim := { program := "ytkhlddbmhehbbaagreatdoor", sum := "bc5df7a994d6de1a447189050c3f20423c640a1fa6e4d9fb910e059477168789", func := "asof/asoflaw33.AdmissionPurged", spec := "admissionPurged", inPlace := ["slices.overlaps[asof/api.Table]", "internal/bytealg.IndexByteString", "internal/bytealg.IndexString", "math/bits.Add64", "math/bits.Sub64", "slices.overlaps[asof/api.Feature]"], unfollowed := true, recurses := true, named := ["internal/bytealg.MaxLen", "asof/checker.aggregates", "asof/checker.unary", "asof/checker.binary", "math/bits.divideError", "math/bits.overflowError"], loops := true, plainKeys := false, apart := false, laid := [("asof/checker.aggregates", laid_asof_checker_aggregates), ("asof/checker.unary", laid_asof_checker_unary), ("asof/checker.binary", laid_asof_checker_binary)] }
def AdmissionPurgedSaid : Prop := admissionPurgedRow.holds Tryz.pinned (OpenSpec.ofChange admissionPurgedSpec)

/-- ITS FALSE NEIGHBOUR: 'it returns false'. Refute it at one input. -/
def admissionPurgedWrong : ChangeSpec := { name := "admissionPurged", fn := fun _ => fun
  | [d1, d2, d3, d4, d5] => { results := [.lit (.bool false)], args := [d1, d2, d3, d4, d5] }
  | _ => none }
def AdmissionPurgedWrongFalsely : Prop := admissionPurgedRow.holds Tryz.pinned (OpenSpec.ofChange admissionPurgedWrong)

/-- 'asoflaw33.AdmissionValid': WHATEVER THE INPUT: true; the input reads as it did. -/
def admissionValidSpec : ChangeSpec := { name := "admissionValid", fn := fun _ => fun
  | [d1, d2, d3, d4, d5] => { results := [.lit (.bool true)], args := [d1, d2, d3, d4, d5] }
  | _ => none }
def admissionValidRow : OpenClaim := { program := "ytkhlddbmhehbbaagreatdoor", sum := "bc5df7a994d6de1a447189050c3f20423c640a1fa6e4d9fb910e059477168789", func := "asof/asoflaw33.AdmissionValid", spec := "admissionValid", inPlace := ["slices.overlaps[asof/api.Table]", "internal/bytealg.IndexByteString", "internal/bytealg.IndexString", "math/bits.Add64", "math/bits.Sub64", "slices.overlaps[asof/api.Feature]"], unfollowed := true, recurses := true, named := ["internal/bytealg.MaxLen", "asof/checker.aggregates", "asof/checker.unary", "asof/checker.binary", "math/bits.divideError", "math/bits.overflowError"], loops := true, plainKeys := false, apart := false, laid := [("asof/checker.aggregates", laid_asof_checker_aggregates), ("asof/checker.unary", laid_asof_checker_unary), ("asof/checker.binary", laid_asof_checker_binary)] }
def AdmissionValidSaid : Prop := admissionValidRow.holds Tryz.pinned (OpenSpec.ofChange admissionValidSpec)

/-- ITS FALSE NEIGHBOUR: 'it returns false'. Refute it at one input. -/
def admissionValidWrong : ChangeSpec := { name := "admissionValid", fn := fun _ => fun
  | [d1, d2, d3, d4, d5] => { results := [.lit (.bool false)], args := [d1, d2, d3, d4, d5] }
  | _ => none }
def AdmissionValidWrongFalsely : Prop := admissionValidRow.holds Tryz.pinned (OpenSpec.ofChange admissionValidWrong)

/- THE SECOND FORM. 'bulk': how many values and letters a reading holds, each counted each time it is reached (what is shared counts as often as it is met; a slice's spare places count too). A statement '..UptoSaid' is the law's where the arguments, and the package variables that the reading takes, are together of bulk at most 1048576: NARROWER than '..Said'. Prove '..Said' where nothing that the law and all that it calls make is longer than what came in: it says more and counts as full. Else prove '..UptoSaid'. A law counts once. -/
mutual
def uptoBulk {H : Type} : DataW H → Nat
  | .lit (.string bytes) => bytes.length + 1
  | .lit _ => 1
  | .nil => 1
  | .ptr d => uptoBulk d + 1
  | .slice elems spare => uptoBulkAll elems + uptoBulkAll spare + 1
  | .agg parts => uptoBulkAll parts + 1
  | .iface _ d => uptoBulk d + 1
  | .map entries => uptoBulkEntries entries + 1
  | .held _ => 1
def uptoBulkAll {H : Type} : List (DataW H) → Nat
  | [] => 0
  | d :: r => uptoBulk d + uptoBulkAll r
def uptoBulkEntries {H : Type} : List (Lit × DataW H) → Nat
  | [] => 0
  | x :: r => uptoBulkEntry x + uptoBulkEntries r
def uptoBulkEntry {H : Type} : Lit × DataW H → Nat
  | (.string bytes, d) => bytes.length + uptoBulk d + 1
  | (_, d) => uptoBulk d + 1
 end
def uptoSmall : (H : Type) → List (DataW H) → Bool := fun _ ds => decide (uptoBulkAll ds ≤ 1048576)
def OpenSpec.upto (s : _root_.Go.ChangeSpec) : _root_.Go.OpenSpec := { _root_.Go.OpenSpec.ofChange s with cond := some uptoSmall }

/-- 'asoflaw33.AdmissionChecks', WHERE WHAT IT READS IS OF BULK AT MOST 1048576: true; the input reads as it did. -/
def admissionChecksUptoRow : OpenClaim := { program := "ytkhlddbmhehbbaagreatdoor", sum := "bc5df7a994d6de1a447189050c3f20423c640a1fa6e4d9fb910e059477168789", func := "asof/asoflaw33.AdmissionChecks", spec := "admissionChecks", inPlace := ["slices.overlaps[asof/api.Table]", "internal/bytealg.IndexByteString", "internal/bytealg.IndexString", "math/bits.Add64", "math/bits.Sub64", "slices.overlaps[asof/api.Feature]"], unfollowed := true, recurses := true, named := ["internal/bytealg.MaxLen", "asof/checker.aggregates", "asof/checker.unary", "asof/checker.binary", "math/bits.divideError", "math/bits.overflowError"], loops := true, plainKeys := false, apart := false, laid := [("asof/checker.aggregates", laid_asof_checker_aggregates), ("asof/checker.unary", laid_asof_checker_unary), ("asof/checker.binary", laid_asof_checker_binary)], narrowed := true }
def AdmissionChecksUptoSaid : Prop := admissionChecksUptoRow.holds Tryz.pinned (OpenSpec.upto admissionChecksSpec)

/-- 'asoflaw33.AdmissionFacts', WHERE WHAT IT READS IS OF BULK AT MOST 1048576: true; the input reads as it did. -/
def admissionFactsUptoRow : OpenClaim := { program := "ytkhlddbmhehbbaagreatdoor", sum := "bc5df7a994d6de1a447189050c3f20423c640a1fa6e4d9fb910e059477168789", func := "asof/asoflaw33.AdmissionFacts", spec := "admissionFacts", inPlace := ["slices.overlaps[asof/api.Table]", "internal/bytealg.IndexByteString", "internal/bytealg.IndexString", "math/bits.Add64", "math/bits.Sub64", "slices.overlaps[asof/api.Feature]"], unfollowed := true, recurses := true, named := ["internal/bytealg.MaxLen", "asof/checker.aggregates", "asof/checker.unary", "asof/checker.binary", "math/bits.divideError", "math/bits.overflowError"], loops := true, plainKeys := false, apart := false, laid := [("asof/checker.aggregates", laid_asof_checker_aggregates), ("asof/checker.unary", laid_asof_checker_unary), ("asof/checker.binary", laid_asof_checker_binary)], narrowed := true }
def AdmissionFactsUptoSaid : Prop := admissionFactsUptoRow.holds Tryz.pinned (OpenSpec.upto admissionFactsSpec)

/-- 'asoflaw33.AdmissionOnce', WHERE WHAT IT READS IS OF BULK AT MOST 1048576: true; the input reads as it did. -/
def admissionOnceUptoRow : OpenClaim := { program := "ytkhlddbmhehbbaagreatdoor", sum := "bc5df7a994d6de1a447189050c3f20423c640a1fa6e4d9fb910e059477168789", func := "asof/asoflaw33.AdmissionOnce", spec := "admissionOnce", inPlace := ["slices.overlaps[asof/api.Table]", "internal/bytealg.IndexByteString", "internal/bytealg.IndexString", "math/bits.Add64", "math/bits.Sub64", "slices.overlaps[asof/api.Feature]"], unfollowed := true, recurses := true, named := ["internal/bytealg.MaxLen", "asof/checker.aggregates", "asof/checker.unary", "asof/checker.binary", "math/bits.divideError", "math/bits.overflowError"], loops := true, plainKeys := false, apart := false, laid := [("asof/checker.aggregates", laid_asof_checker_aggregates), ("asof/checker.unary", laid_asof_checker_unary), ("asof/checker.binary", laid_asof_checker_binary)], narrowed := true }
def AdmissionOnceUptoSaid : Prop := admissionOnceUptoRow.holds Tryz.pinned (OpenSpec.upto admissionOnceSpec)

/-- 'asoflaw33.AdmissionBounds', WHERE WHAT IT READS IS OF BULK AT MOST 1048576: true; the input reads as it did. -/
def admissionBoundsUptoRow : OpenClaim := { program := "ytkhlddbmhehbbaagreatdoor", sum := "bc5df7a994d6de1a447189050c3f20423c640a1fa6e4d9fb910e059477168789", func := "asof/asoflaw33.AdmissionBounds", spec := "admissionBounds", inPlace := ["slices.overlaps[asof/api.Table]", "internal/bytealg.IndexByteString", "internal/bytealg.IndexString", "math/bits.Add64", "math/bits.Sub64", "slices.overlaps[asof/api.Feature]"], unfollowed := true, recurses := true, named := ["internal/bytealg.MaxLen", "asof/checker.aggregates", "asof/checker.unary", "asof/checker.binary", "math/bits.divideError", "math/bits.overflowError"], loops := true, plainKeys := false, apart := false, laid := [("asof/checker.aggregates", laid_asof_checker_aggregates), ("asof/checker.unary", laid_asof_checker_unary), ("asof/checker.binary", laid_asof_checker_binary)], narrowed := true }
def AdmissionBoundsUptoSaid : Prop := admissionBoundsUptoRow.holds Tryz.pinned (OpenSpec.upto admissionBoundsSpec)

/-- 'asoflaw33.AdmissionOthers', WHERE WHAT IT READS IS OF BULK AT MOST 1048576: true; the input reads as it did. -/
def admissionOthersUptoRow : OpenClaim := { program := "ytkhlddbmhehbbaagreatdoor", sum := "bc5df7a994d6de1a447189050c3f20423c640a1fa6e4d9fb910e059477168789", func := "asof/asoflaw33.AdmissionOthers", spec := "admissionOthers", inPlace := ["internal/bytealg.IndexByteString", "internal/bytealg.IndexString", "slices.overlaps[asof/api.Table]", "math/bits.Add64", "math/bits.Sub64", "slices.overlaps[asof/api.Feature]"], unfollowed := true, recurses := true, named := ["internal/bytealg.MaxLen", "asof/checker.aggregates", "asof/checker.unary", "asof/checker.binary", "math/bits.divideError", "math/bits.overflowError"], loops := true, plainKeys := false, apart := false, laid := [("asof/checker.aggregates", laid_asof_checker_aggregates), ("asof/checker.unary", laid_asof_checker_unary), ("asof/checker.binary", laid_asof_checker_binary)], narrowed := true }
def AdmissionOthersUptoSaid : Prop := admissionOthersUptoRow.holds Tryz.pinned (OpenSpec.upto admissionOthersSpec)

/-- 'asoflaw33.AdmissionPurged', WHERE WHAT IT READS IS OF BULK AT MOST 1048576: true; the input reads as it did. -/
def admissionPurgedUptoRow : OpenClaim := { program := "ytkhlddbmhehbbaagreatdoor", sum := "bc5df7a994d6de1a447189050c3f20423c640a1fa6e4d9fb910e059477168789", func := "asof/asoflaw33.AdmissionPurged", spec := "admissionPurged", inPlace := ["slices.overlaps[asof/api.Table]", "internal/bytealg.IndexByteString", "internal/bytealg.IndexString", "math/bits.Add64", "math/bits.Sub64", "slices.overlaps[asof/api.Feature]"], unfollowed := true, recurses := true, named := ["internal/bytealg.MaxLen", "asof/checker.aggregates", "asof/checker.unary", "asof/checker.binary", "math/bits.divideError", "math/bits.overflowError"], loops := true, plainKeys := false, apart := false, laid := [("asof/checker.aggregates", laid_asof_checker_aggregates), ("asof/checker.unary", laid_asof_checker_unary), ("asof/checker.binary", laid_asof_checker_binary)], narrowed := true }
def AdmissionPurgedUptoSaid : Prop := admissionPurgedUptoRow.holds Tryz.pinned (OpenSpec.upto admissionPurgedSpec)

/-- 'asoflaw33.AdmissionValid', WHERE WHAT IT READS IS OF BULK AT MOST 1048576: true; the input reads as it did. -/
def admissionValidUptoRow : OpenClaim := { program := "ytkhlddbmhehbbaagreatdoor", sum := "bc5df7a994d6de1a447189050c3f20423c640a1fa6e4d9fb910e059477168789", func := "asof/asoflaw33.AdmissionValid", spec := "admissionValid", inPlace := ["slices.overlaps[asof/api.Table]", "internal/bytealg.IndexByteString", "internal/bytealg.IndexString", "math/bits.Add64", "math/bits.Sub64", "slices.overlaps[asof/api.Feature]"], unfollowed := true, recurses := true, named := ["internal/bytealg.MaxLen", "asof/checker.aggregates", "asof/checker.unary", "asof/checker.binary", "math/bits.divideError", "math/bits.overflowError"], loops := true, plainKeys := false, apart := false, laid := [("asof/checker.aggregates", laid_asof_checker_aggregates), ("asof/checker.unary", laid_asof_checker_unary), ("asof/checker.binary", laid_asof_checker_binary)], narrowed := true }
def AdmissionValidUptoSaid : Prop := admissionValidUptoRow.holds Tryz.pinned (OpenSpec.upto admissionValidSpec)

end Rows
end Go.Proofs.YtkhlddbmhehbbaaGreatDoor
