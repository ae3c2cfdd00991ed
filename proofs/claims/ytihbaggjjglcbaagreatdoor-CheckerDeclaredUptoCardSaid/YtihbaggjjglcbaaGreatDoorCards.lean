/-
  DERIVED. GIVEN WITH THE SEED: THE CARDS: each row of YtihbaggjjglcbaaGreatDoorRows.lean that lists a variable, with what it lists TIED to the program's text (the seventh form; the later family's looks); each row that meets fmt, with fmt's text TOLD by the authors' own Lean function (tested against real Go, not proved from fmt's source: count such statements apart). THE CARD IS WHAT COUNTS. Prove the row's statement (the work); the ties are given (YtihbaggjjglcbaaGreatDoorTie.lean); close each card by the builder's one call (the guide's Derived/Test/ToyasCard.lean, 'card_holds'). Laid BY PROGRAM, IN A SANDBOX (cutbox-door.mjs). By AI agents, Wed Nov 11 2026. No macro, syntax, notation, axiom, sorry.
-/
import Derived.Test.YtihbaggjjglcbaaGreatDoorRows
import GoSem.ClaimSeven
namespace Go.Proofs.YtihbaggjjglcbaaGreatDoor
namespace Rows

/-- THE TIED CARD OF 'asoflaw10.CheckerUnits'. -/
def checkerUnitsCard : Claim7 := { stood := { row := checkerUnitsRow, standIns := [], harness := (true, "8a66585013ec27c1884912332565ad3becd26d5d621d3468fb18a154589935be"), looks := false }, kinds := [], alts := [], laidByText := true, laidKinds := [.widerDeep, .widerDeep, .widerDeep], laidTests := true, laidLooks := .later }
def CheckerUnitsCardSaid : Prop := Claim7.holds Tryz.pinned (.plain (OpenSpec.ofChange checkerUnitsSpec)) checkerUnitsCard

/-- THE TIED CARD OF 'asoflaw10.CheckerLiterals'. -/
def checkerLiteralsCard : Claim7 := { stood := { row := checkerLiteralsRow, standIns := [], harness := (true, "8a66585013ec27c1884912332565ad3becd26d5d621d3468fb18a154589935be"), looks := false }, kinds := [], alts := [], laidByText := true, laidKinds := [.widerDeep, .widerDeep, .widerDeep], laidTests := true, laidLooks := .later }
def CheckerLiteralsCardSaid : Prop := Claim7.holds Tryz.pinned (.plain (OpenSpec.ofChange checkerLiteralsSpec)) checkerLiteralsCard

/-- THE TIED CARD OF 'asoflaw10.CheckerWeakening'. -/
def checkerWeakeningCard : Claim7 := { stood := { row := checkerWeakeningRow, standIns := [], harness := (true, "8a66585013ec27c1884912332565ad3becd26d5d621d3468fb18a154589935be"), looks := false }, kinds := [], alts := [], laidByText := true, laidKinds := [.widerDeep, .widerDeep, .widerDeep], laidTests := true, laidLooks := .later }
def CheckerWeakeningCardSaid : Prop := Claim7.holds Tryz.pinned (.plain (OpenSpec.ofChange checkerWeakeningSpec)) checkerWeakeningCard

/-- THE TIED CARD OF 'asoflaw10.CheckerDeclared'. -/
def checkerDeclaredCard : Claim7 := { stood := { row := checkerDeclaredRow, standIns := [], harness := (true, "8a66585013ec27c1884912332565ad3becd26d5d621d3468fb18a154589935be"), looks := false }, kinds := [], alts := [], laidByText := true, laidKinds := [.widerDeep, .widerDeep, .widerDeep], laidTests := true, laidLooks := .later }
def CheckerDeclaredCardSaid : Prop := Claim7.holds Tryz.pinned (.plain (OpenSpec.ofChange checkerDeclaredSpec)) checkerDeclaredCard

/-- THE TIED CARD OF 'asoflaw10.CheckerMatchesTables'. -/
def checkerMatchesTablesCard : Claim7 := { stood := { row := checkerMatchesTablesRow, standIns := [], harness := (true, "8a66585013ec27c1884912332565ad3becd26d5d621d3468fb18a154589935be"), looks := false }, kinds := [], alts := [], laidByText := true, laidKinds := [.widerDeep, .widerDeep, .widerDeep], laidTests := true, laidLooks := .later }
def CheckerMatchesTablesCardSaid : Prop := Claim7.holds Tryz.pinned (.plain (OpenSpec.ofChange checkerMatchesTablesSpec)) checkerMatchesTablesCard

/-- THE SECOND FORM's CARD OF 'asoflaw10.CheckerUnits'. -/
def checkerUnitsUptoCard : Claim7 := { stood := { row := checkerUnitsUptoRow, standIns := [], harness := (true, "8a66585013ec27c1884912332565ad3becd26d5d621d3468fb18a154589935be"), looks := false }, kinds := [], alts := [], laidByText := true, laidKinds := [.widerDeep, .widerDeep, .widerDeep], laidTests := true, laidLooks := .later }
def CheckerUnitsUptoCardSaid : Prop := Claim7.holds Tryz.pinned (.plain (OpenSpec.upto checkerUnitsSpec)) checkerUnitsUptoCard

/-- THE SECOND FORM's CARD OF 'asoflaw10.CheckerLiterals'. -/
def checkerLiteralsUptoCard : Claim7 := { stood := { row := checkerLiteralsUptoRow, standIns := [], harness := (true, "8a66585013ec27c1884912332565ad3becd26d5d621d3468fb18a154589935be"), looks := false }, kinds := [], alts := [], laidByText := true, laidKinds := [.widerDeep, .widerDeep, .widerDeep], laidTests := true, laidLooks := .later }
def CheckerLiteralsUptoCardSaid : Prop := Claim7.holds Tryz.pinned (.plain (OpenSpec.upto checkerLiteralsSpec)) checkerLiteralsUptoCard

/-- THE SECOND FORM's CARD OF 'asoflaw10.CheckerWeakening'. -/
def checkerWeakeningUptoCard : Claim7 := { stood := { row := checkerWeakeningUptoRow, standIns := [], harness := (true, "8a66585013ec27c1884912332565ad3becd26d5d621d3468fb18a154589935be"), looks := false }, kinds := [], alts := [], laidByText := true, laidKinds := [.widerDeep, .widerDeep, .widerDeep], laidTests := true, laidLooks := .later }
def CheckerWeakeningUptoCardSaid : Prop := Claim7.holds Tryz.pinned (.plain (OpenSpec.upto checkerWeakeningSpec)) checkerWeakeningUptoCard

/-- THE SECOND FORM's CARD OF 'asoflaw10.CheckerDeclared'. -/
def checkerDeclaredUptoCard : Claim7 := { stood := { row := checkerDeclaredUptoRow, standIns := [], harness := (true, "8a66585013ec27c1884912332565ad3becd26d5d621d3468fb18a154589935be"), looks := false }, kinds := [], alts := [], laidByText := true, laidKinds := [.widerDeep, .widerDeep, .widerDeep], laidTests := true, laidLooks := .later }
def CheckerDeclaredUptoCardSaid : Prop := Claim7.holds Tryz.pinned (.plain (OpenSpec.upto checkerDeclaredSpec)) checkerDeclaredUptoCard

/-- THE SECOND FORM's CARD OF 'asoflaw10.CheckerMatchesTables'. -/
def checkerMatchesTablesUptoCard : Claim7 := { stood := { row := checkerMatchesTablesUptoRow, standIns := [], harness := (true, "8a66585013ec27c1884912332565ad3becd26d5d621d3468fb18a154589935be"), looks := false }, kinds := [], alts := [], laidByText := true, laidKinds := [.widerDeep, .widerDeep, .widerDeep], laidTests := true, laidLooks := .later }
def CheckerMatchesTablesUptoCardSaid : Prop := Claim7.holds Tryz.pinned (.plain (OpenSpec.upto checkerMatchesTablesSpec)) checkerMatchesTablesUptoCard
end Rows
end Go.Proofs.YtihbaggjjglcbaaGreatDoor
