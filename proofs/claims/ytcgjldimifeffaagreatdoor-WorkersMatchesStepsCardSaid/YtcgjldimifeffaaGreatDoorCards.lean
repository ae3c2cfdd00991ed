/-
  DERIVED. GIVEN WITH THE SEED: THE CARDS: each row of YtcgjldimifeffaaGreatDoorRows.lean that lists a variable, with what it lists TIED to the program's text (the seventh form; the later family's looks); each row that meets fmt, with fmt's text TOLD by the authors' own Lean function (tested against real Go, not proved from fmt's source: count such statements apart). THE CARD IS WHAT COUNTS. Prove the row's statement (the work); the ties are given (YtcgjldimifeffaaGreatDoorTie.lean); close each card by the builder's one call (the guide's Derived/Test/ToyasCard.lean, 'card_holds'). Laid BY PROGRAM, IN A SANDBOX (cutbox-door.mjs). By AI agents, Wed Nov 11 2026. No macro, syntax, notation, axiom, sorry.
-/
import Derived.Test.YtcgjldimifeffaaGreatDoorRows
import GoSem.ClaimSeven
namespace Go.Proofs.YtcgjldimifeffaaGreatDoor
namespace Rows

/-- THE TIED CARD OF 'asoflaw43.WorkersMatchesSteps'. -/
def workersMatchesStepsCard : Claim7 := { stood := { row := workersMatchesStepsRow, standIns := [], harness := (true, "c6c88a3701eb622d2e6ffaaa4fd08ece5e3d093dfadc3b53daa226e6dd95f02a"), looks := true }, kinds := [], alts := [], laidByText := true, laidKinds := [.handle, .data, .data, .data], laidTests := true, laidLooks := .later }
def WorkersMatchesStepsCardSaid : Prop := Claim7.holds Tryz.pinned (.plain (OpenSpec.ofChange workersMatchesStepsSpec)) workersMatchesStepsCard

/-- THE TIED CARD OF 'asoflaw43.WorkersExclude'. -/
def workersExcludeCard : Claim7 := { stood := { row := workersExcludeRow, standIns := [], harness := (true, "c6c88a3701eb622d2e6ffaaa4fd08ece5e3d093dfadc3b53daa226e6dd95f02a"), looks := true }, kinds := [], alts := [], laidByText := true, laidKinds := [.handle, .data, .data, .data], laidTests := true, laidLooks := .later }
def WorkersExcludeCardSaid : Prop := Claim7.holds Tryz.pinned (.plain (OpenSpec.ofChange workersExcludeSpec)) workersExcludeCard

/-- THE SECOND FORM's CARD OF 'asoflaw43.WorkersMatchesSteps'. -/
def workersMatchesStepsUptoCard : Claim7 := { stood := { row := workersMatchesStepsUptoRow, standIns := [], harness := (true, "c6c88a3701eb622d2e6ffaaa4fd08ece5e3d093dfadc3b53daa226e6dd95f02a"), looks := true }, kinds := [], alts := [], laidByText := true, laidKinds := [.handle, .data, .data, .data], laidTests := true, laidLooks := .later }
def WorkersMatchesStepsUptoCardSaid : Prop := Claim7.holds Tryz.pinned (.plain (OpenSpec.upto workersMatchesStepsSpec)) workersMatchesStepsUptoCard
end Rows
end Go.Proofs.YtcgjldimifeffaaGreatDoor
