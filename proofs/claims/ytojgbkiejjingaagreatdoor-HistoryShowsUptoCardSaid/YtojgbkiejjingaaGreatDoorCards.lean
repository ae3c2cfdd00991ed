/-
  DERIVED. GIVEN WITH THE SEED: THE CARDS: each row of YtojgbkiejjingaaGreatDoorRows.lean that lists a variable, with what it lists TIED to the program's text (the seventh form; the later family's looks); each row that meets fmt, with fmt's text TOLD by the authors' own Lean function (tested against real Go, not proved from fmt's source: count such statements apart). THE CARD IS WHAT COUNTS. Prove the row's statement (the work); the ties are given (YtojgbkiejjingaaGreatDoorTie.lean); close each card by the builder's one call (the guide's Derived/Test/ToyasCard.lean, 'card_holds'). Laid BY PROGRAM, IN A SANDBOX (cutbox-door.mjs). By AI agents, Wed Nov 11 2026. No macro, syntax, notation, axiom, sorry.
-/
import Derived.Test.YtojgbkiejjingaaGreatDoorRows
import GoSem.ClaimSeven
namespace Go.Proofs.YtojgbkiejjingaaGreatDoor
namespace Rows

/-- THE TIED CARD OF 'asoflaw15.HistoryChecks'. -/
def historyChecksCard : Claim7 := { stood := { row := historyChecksRow, standIns := [], harness := (true, "20f9083bce691f2d31c8857afdb47d77b7516ad129f5333392a539ed9feeba93"), looks := false }, kinds := [], alts := [], laidByText := true, laidKinds := [.widerDeep, .widerDeep, .widerDeep], laidTests := true, laidLooks := .later }
def HistoryChecksCardSaid : Prop := Claim7.holds Tryz.pinned (.plain (OpenSpec.ofChange historyChecksSpec)) historyChecksCard

/-- THE TIED CARD OF 'asoflaw15.HistoryPurges'. -/
def historyPurgesCard : Claim7 := { stood := { row := historyPurgesRow, standIns := [], harness := (true, "20f9083bce691f2d31c8857afdb47d77b7516ad129f5333392a539ed9feeba93"), looks := false }, kinds := [], alts := [], laidByText := true, laidKinds := [.widerDeep, .widerDeep, .widerDeep], laidTests := true, laidLooks := .later }
def HistoryPurgesCardSaid : Prop := Claim7.holds Tryz.pinned (.plain (OpenSpec.ofChange historyPurgesSpec)) historyPurgesCard

/-- THE TIED CARD OF 'asoflaw15.HistorySwaps'. -/
def historySwapsCard : Claim7 := { stood := { row := historySwapsRow, standIns := [], harness := (true, "20f9083bce691f2d31c8857afdb47d77b7516ad129f5333392a539ed9feeba93"), looks := false }, kinds := [], alts := [], laidByText := true, laidKinds := [.widerDeep, .widerDeep, .widerDeep], laidTests := true, laidLooks := .later }
def HistorySwapsCardSaid : Prop := Claim7.holds Tryz.pinned (.plain (OpenSpec.ofChange historySwapsSpec)) historySwapsCard

/-- THE TIED CARD OF 'asoflaw15.HistoryErases'. -/
def historyErasesCard : Claim7 := { stood := { row := historyErasesRow, standIns := [], harness := (true, "20f9083bce691f2d31c8857afdb47d77b7516ad129f5333392a539ed9feeba93"), looks := false }, kinds := [], alts := [], laidByText := true, laidKinds := [.widerDeep, .widerDeep, .widerDeep], laidTests := true, laidLooks := .later }
def HistoryErasesCardSaid : Prop := Claim7.holds Tryz.pinned (.plain (OpenSpec.ofChange historyErasesSpec)) historyErasesCard

/-- THE TIED CARD OF 'asoflaw15.HistoryCuts'. -/
def historyCutsCard : Claim7 := { stood := { row := historyCutsRow, standIns := [], harness := (true, "20f9083bce691f2d31c8857afdb47d77b7516ad129f5333392a539ed9feeba93"), looks := false }, kinds := [], alts := [], laidByText := true, laidKinds := [.widerDeep, .widerDeep, .widerDeep], laidTests := true, laidLooks := .later }
def HistoryCutsCardSaid : Prop := Claim7.holds Tryz.pinned (.plain (OpenSpec.ofChange historyCutsSpec)) historyCutsCard

/-- THE TIED CARD OF 'asoflaw15.HistoryShows'. -/
def historyShowsCard : Claim7 := { stood := { row := historyShowsRow, standIns := [], harness := (true, "20f9083bce691f2d31c8857afdb47d77b7516ad129f5333392a539ed9feeba93"), looks := false }, kinds := [], alts := [], laidByText := true, laidKinds := [.widerDeep, .widerDeep, .widerDeep], laidTests := true, laidLooks := .later }
def HistoryShowsCardSaid : Prop := Claim7.holds Tryz.pinned (.plain (OpenSpec.ofChange historyShowsSpec)) historyShowsCard

/-- THE TIED CARD OF 'asoflaw15.HistoryRows'. -/
def historyRowsCard : Claim7 := { stood := { row := historyRowsRow, standIns := [], harness := (true, "20f9083bce691f2d31c8857afdb47d77b7516ad129f5333392a539ed9feeba93"), looks := false }, kinds := [], alts := [], laidByText := true, laidKinds := [.widerDeep, .widerDeep, .widerDeep], laidTests := true, laidLooks := .later }
def HistoryRowsCardSaid : Prop := Claim7.holds Tryz.pinned (.plain (OpenSpec.ofChange historyRowsSpec)) historyRowsCard

/-- THE SECOND FORM's CARD OF 'asoflaw15.HistoryChecks'. -/
def historyChecksUptoCard : Claim7 := { stood := { row := historyChecksUptoRow, standIns := [], harness := (true, "20f9083bce691f2d31c8857afdb47d77b7516ad129f5333392a539ed9feeba93"), looks := false }, kinds := [], alts := [], laidByText := true, laidKinds := [.widerDeep, .widerDeep, .widerDeep], laidTests := true, laidLooks := .later }
def HistoryChecksUptoCardSaid : Prop := Claim7.holds Tryz.pinned (.plain (OpenSpec.upto historyChecksSpec)) historyChecksUptoCard

/-- THE SECOND FORM's CARD OF 'asoflaw15.HistoryPurges'. -/
def historyPurgesUptoCard : Claim7 := { stood := { row := historyPurgesUptoRow, standIns := [], harness := (true, "20f9083bce691f2d31c8857afdb47d77b7516ad129f5333392a539ed9feeba93"), looks := false }, kinds := [], alts := [], laidByText := true, laidKinds := [.widerDeep, .widerDeep, .widerDeep], laidTests := true, laidLooks := .later }
def HistoryPurgesUptoCardSaid : Prop := Claim7.holds Tryz.pinned (.plain (OpenSpec.upto historyPurgesSpec)) historyPurgesUptoCard

/-- THE SECOND FORM's CARD OF 'asoflaw15.HistorySwaps'. -/
def historySwapsUptoCard : Claim7 := { stood := { row := historySwapsUptoRow, standIns := [], harness := (true, "20f9083bce691f2d31c8857afdb47d77b7516ad129f5333392a539ed9feeba93"), looks := false }, kinds := [], alts := [], laidByText := true, laidKinds := [.widerDeep, .widerDeep, .widerDeep], laidTests := true, laidLooks := .later }
def HistorySwapsUptoCardSaid : Prop := Claim7.holds Tryz.pinned (.plain (OpenSpec.upto historySwapsSpec)) historySwapsUptoCard

/-- THE SECOND FORM's CARD OF 'asoflaw15.HistoryErases'. -/
def historyErasesUptoCard : Claim7 := { stood := { row := historyErasesUptoRow, standIns := [], harness := (true, "20f9083bce691f2d31c8857afdb47d77b7516ad129f5333392a539ed9feeba93"), looks := false }, kinds := [], alts := [], laidByText := true, laidKinds := [.widerDeep, .widerDeep, .widerDeep], laidTests := true, laidLooks := .later }
def HistoryErasesUptoCardSaid : Prop := Claim7.holds Tryz.pinned (.plain (OpenSpec.upto historyErasesSpec)) historyErasesUptoCard

/-- THE SECOND FORM's CARD OF 'asoflaw15.HistoryCuts'. -/
def historyCutsUptoCard : Claim7 := { stood := { row := historyCutsUptoRow, standIns := [], harness := (true, "20f9083bce691f2d31c8857afdb47d77b7516ad129f5333392a539ed9feeba93"), looks := false }, kinds := [], alts := [], laidByText := true, laidKinds := [.widerDeep, .widerDeep, .widerDeep], laidTests := true, laidLooks := .later }
def HistoryCutsUptoCardSaid : Prop := Claim7.holds Tryz.pinned (.plain (OpenSpec.upto historyCutsSpec)) historyCutsUptoCard

/-- THE SECOND FORM's CARD OF 'asoflaw15.HistoryShows'. -/
def historyShowsUptoCard : Claim7 := { stood := { row := historyShowsUptoRow, standIns := [], harness := (true, "20f9083bce691f2d31c8857afdb47d77b7516ad129f5333392a539ed9feeba93"), looks := false }, kinds := [], alts := [], laidByText := true, laidKinds := [.widerDeep, .widerDeep, .widerDeep], laidTests := true, laidLooks := .later }
def HistoryShowsUptoCardSaid : Prop := Claim7.holds Tryz.pinned (.plain (OpenSpec.upto historyShowsSpec)) historyShowsUptoCard

/-- THE SECOND FORM's CARD OF 'asoflaw15.HistoryRows'. -/
def historyRowsUptoCard : Claim7 := { stood := { row := historyRowsUptoRow, standIns := [], harness := (true, "20f9083bce691f2d31c8857afdb47d77b7516ad129f5333392a539ed9feeba93"), looks := false }, kinds := [], alts := [], laidByText := true, laidKinds := [.widerDeep, .widerDeep, .widerDeep], laidTests := true, laidLooks := .later }
def HistoryRowsUptoCardSaid : Prop := Claim7.holds Tryz.pinned (.plain (OpenSpec.upto historyRowsSpec)) historyRowsUptoCard
end Rows
end Go.Proofs.YtojgbkiejjingaaGreatDoor
