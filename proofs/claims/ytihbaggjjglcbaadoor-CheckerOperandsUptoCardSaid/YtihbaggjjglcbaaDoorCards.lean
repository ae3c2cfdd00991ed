/-
  DERIVED. GIVEN WITH THE SEED: THE CARDS: each row of YtihbaggjjglcbaaDoorRows.lean that lists a variable, with what it lists TIED to the program's text (the seventh form; the later family's looks); each row that meets fmt, with fmt's text TOLD by the authors' own Lean function (tested against real Go, not proved from fmt's source: count such statements apart). THE CARD IS WHAT COUNTS. Prove the row's statement (the work); the ties are given (YtihbaggjjglcbaaDoorTie.lean); close each card by the builder's one call (the guide's Derived/Test/ToyasCard.lean, 'card_holds'). Laid BY PROGRAM, IN A SANDBOX (cutbox-door.mjs). By AI agents, Wed Nov 11 2026. No macro, syntax, notation, axiom, sorry.
-/
import Derived.Test.YtihbaggjjglcbaaDoorRows
import GoSem.ClaimSeven
namespace Go.Proofs.YtihbaggjjglcbaaDoor
namespace Rows

/-- THE TIED CARD OF 'asoflaw10.CheckerOperands'. -/
def checkerOperandsCard : Claim7 := { stood := { row := checkerOperandsRow, standIns := [], harness := (true, "bc52d9ae136cdd1f8dea2ba87927c85440feb2022fcafef2d9411b83c3852159"), looks := false }, kinds := [], alts := [], laidByText := true, laidKinds := [.widerDeep, .widerDeep, .widerDeep], laidTests := true, laidLooks := .later }
def CheckerOperandsCardSaid : Prop := Claim7.holds Tryd.pinned (.plain (OpenSpec.ofChange checkerOperandsSpec)) checkerOperandsCard

/-- THE TIED CARD OF 'asoflaw10.CheckerReplaced'. -/
def checkerReplacedCard : Claim7 := { stood := { row := checkerReplacedRow, standIns := [], harness := (true, "bc52d9ae136cdd1f8dea2ba87927c85440feb2022fcafef2d9411b83c3852159"), looks := false }, kinds := [], alts := [], laidByText := true, laidKinds := [.widerDeep, .widerDeep, .widerDeep], laidTests := true, laidLooks := .later }
def CheckerReplacedCardSaid : Prop := Claim7.holds Tryd.pinned (.plain (OpenSpec.ofChange checkerReplacedSpec)) checkerReplacedCard

/-- THE SECOND FORM's CARD OF 'asoflaw10.CheckerOperands'. -/
def checkerOperandsUptoCard : Claim7 := { stood := { row := checkerOperandsUptoRow, standIns := [], harness := (true, "bc52d9ae136cdd1f8dea2ba87927c85440feb2022fcafef2d9411b83c3852159"), looks := false }, kinds := [], alts := [], laidByText := true, laidKinds := [.widerDeep, .widerDeep, .widerDeep], laidTests := true, laidLooks := .later }
def CheckerOperandsUptoCardSaid : Prop := Claim7.holds Tryd.pinned (.plain (OpenSpec.upto checkerOperandsSpec)) checkerOperandsUptoCard

/-- THE SECOND FORM's CARD OF 'asoflaw10.CheckerReplaced'. -/
def checkerReplacedUptoCard : Claim7 := { stood := { row := checkerReplacedUptoRow, standIns := [], harness := (true, "bc52d9ae136cdd1f8dea2ba87927c85440feb2022fcafef2d9411b83c3852159"), looks := false }, kinds := [], alts := [], laidByText := true, laidKinds := [.widerDeep, .widerDeep, .widerDeep], laidTests := true, laidLooks := .later }
def CheckerReplacedUptoCardSaid : Prop := Claim7.holds Tryd.pinned (.plain (OpenSpec.upto checkerReplacedSpec)) checkerReplacedUptoCard
end Rows
end Go.Proofs.YtihbaggjjglcbaaDoor
