/- The tie of the seat's rows, fact by fact: what the given text of the ties says, each of its closed facts a theorem of its own, so that the kernel's memory is enough. -/
import Derived.Test.YtcgjldimifeffaaGreatDoorRows
import Derived.LaidByTextLater
import Derived.SevenTiedAt
import Derived.KernelRfl
namespace Go.Proofs.YtcgjldimifeffaaGreatDoor
open Go
abbrev LL : List (String × DataW Unit) := [("errors.errorType", Rows.laid_errors_errorType), ("internal/strconv.uint64pow10", Rows.laid_internal_strconv_uint64pow10), ("math/bits.deBruijn32tab", Rows.laid_math_bits_deBruijn32tab), ("math/bits.deBruijn64tab", Rows.laid_math_bits_deBruijn64tab)]
abbrev KK : List LaidKind := [.handle, .data, .data, .data]
theorem tie_hw : Tryz.prog.worded (varsWordLater true) = true := by kernel_rfl
theorem tie_hw2 : Tryz.prog.worded (varsWordLater !true) = false := by kernel_rfl
theorem tie_hroot : Tryz.prog.worded rootWordLater = true := by kernel_rfl
theorem tie_hk : LL.map (fun x => Tryz.prog.kindOfLater x.1) = KK.map some := by kernel_rfl
theorem tie_hg : (Tryz.prog.funcNamed "gosem.cut.vars").isSome = true := by kernel_rfl
theorem tie_hn : varsNamedLaterB Tryz.prog (varsId Tryz.prog) LL = true := by kernel_rfl
theorem tie_hd : ∀ os tape, varsDone Tryz.prog 400 (varsId Tryz.prog) os tape = true := fun _ _ => by kernel_rfl
theorem tie_h1 : ∀ os tape, (DataW.laidRun Tryz.prog (varsWorld Tryz.prog 400 (varsId Tryz.prog) os tape).memory 8 ((LL.filter fun x => x.2.handleName?.isNone).map (·.1))).map (·.1) = some (LL.filter fun x => x.2.handleName?.isNone) := fun _ _ => by kernel_rfl
theorem tie_h2 : ∀ os tape, (DataW.laidRun Tryz.prog (varsWorld Tryz.prog 400 (varsId Tryz.prog) os tape).memory 8 ((LL.filter fun x => x.2.handleName?.isNone).map (·.1))).map (fun x => decide x.2.Nodup && laidRowsB Tryz.prog (varsWorld Tryz.prog 400 (varsId Tryz.prog) os tape).memory x.2) = some true := fun _ _ => by kernel_rfl
theorem tie_h3 : ∀ os tape, (LL.filter fun x => x.2.handleName?.isSome).all (handleAtB Tryz.prog (varsWorld Tryz.prog 400 (varsId Tryz.prog) os tape).memory) = true := fun _ _ => by kernel_rfl
theorem tieA : Tryz.prog.laidByTextLater LL KK true :=
  Program.laidByTextLater_by_run_h 400 8 tie_hw tie_hw2 tie_hroot tie_hk tie_hg tie_hn tie_hd tie_h1 tie_h2 tie_h3
theorem noOwnUnsafe : Tryz.prog.headLifts.contains "ownunsafe" = false := by kernel_rfl
theorem workersMatchesStepsUpto_row_tie : Rows.workersMatchesStepsUptoRow.laidByTextAt .later Tryz.pinned [.handle, .data, .data, .data] true :=
  OpenClaim.laidByTextAt_later rfl rfl tieA noOwnUnsafe
theorem workersExclude_row_tie : Rows.workersExcludeRow.laidByTextAt .later Tryz.pinned [.handle, .data, .data, .data] true :=
  OpenClaim.laidByTextAt_later rfl rfl tieA noOwnUnsafe
theorem workersMatchesSteps_row_tie : Rows.workersMatchesStepsRow.laidByTextAt .later Tryz.pinned [.handle, .data, .data, .data] true :=
  OpenClaim.laidByTextAt_later rfl rfl tieA noOwnUnsafe
end Go.Proofs.YtcgjldimifeffaaGreatDoor
