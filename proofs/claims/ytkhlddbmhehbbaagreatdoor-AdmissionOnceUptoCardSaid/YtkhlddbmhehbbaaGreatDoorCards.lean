/-
  DERIVED. GIVEN WITH THE SEED: THE CARDS: each row of YtkhlddbmhehbbaaGreatDoorRows.lean that lists a variable, with what it lists TIED to the program's text (the seventh form; the later family's looks); each row that meets fmt, with fmt's text TOLD by the authors' own Lean function (tested against real Go, not proved from fmt's source: count such statements apart). THE CARD IS WHAT COUNTS. Prove the row's statement (the work); the ties are given (YtkhlddbmhehbbaaGreatDoorTie.lean); close each card by the builder's one call (the guide's Derived/Test/ToyasCard.lean, 'card_holds'). Laid BY PROGRAM, IN A SANDBOX (cutbox-door.mjs). By AI agents, Wed Nov 11 2026. No macro, syntax, notation, axiom, sorry.
-/
import Derived.Test.YtkhlddbmhehbbaaGreatDoorRows
import GoSem.ClaimSeven
namespace Go.Proofs.YtkhlddbmhehbbaaGreatDoor
namespace Rows

/-- THE TIED CARD OF 'asoflaw33.AdmissionChecks'. -/
def admissionChecksCard : Claim7 := { stood := { row := admissionChecksRow, standIns := [], harness := (true, "c7e5eec30ace92f92900387e53def6e0c888b52239cdafba59d9be96e81448a7"), looks := false }, kinds := [], alts := [], laidByText := true, laidKinds := [.widerDeep, .widerDeep, .widerDeep], laidTests := true, laidLooks := .later }
def AdmissionChecksCardSaid : Prop := Claim7.holds Tryz.pinned (.plain (OpenSpec.ofChange admissionChecksSpec)) admissionChecksCard

/-- THE TIED CARD OF 'asoflaw33.AdmissionFacts'. -/
def admissionFactsCard : Claim7 := { stood := { row := admissionFactsRow, standIns := [], harness := (true, "c7e5eec30ace92f92900387e53def6e0c888b52239cdafba59d9be96e81448a7"), looks := false }, kinds := [], alts := [], laidByText := true, laidKinds := [.widerDeep, .widerDeep, .widerDeep], laidTests := true, laidLooks := .later }
def AdmissionFactsCardSaid : Prop := Claim7.holds Tryz.pinned (.plain (OpenSpec.ofChange admissionFactsSpec)) admissionFactsCard

/-- THE TIED CARD OF 'asoflaw33.AdmissionOnce'. -/
def admissionOnceCard : Claim7 := { stood := { row := admissionOnceRow, standIns := [], harness := (true, "c7e5eec30ace92f92900387e53def6e0c888b52239cdafba59d9be96e81448a7"), looks := false }, kinds := [], alts := [], laidByText := true, laidKinds := [.widerDeep, .widerDeep, .widerDeep], laidTests := true, laidLooks := .later }
def AdmissionOnceCardSaid : Prop := Claim7.holds Tryz.pinned (.plain (OpenSpec.ofChange admissionOnceSpec)) admissionOnceCard

/-- THE TIED CARD OF 'asoflaw33.AdmissionBounds'. -/
def admissionBoundsCard : Claim7 := { stood := { row := admissionBoundsRow, standIns := [], harness := (true, "c7e5eec30ace92f92900387e53def6e0c888b52239cdafba59d9be96e81448a7"), looks := false }, kinds := [], alts := [], laidByText := true, laidKinds := [.widerDeep, .widerDeep, .widerDeep], laidTests := true, laidLooks := .later }
def AdmissionBoundsCardSaid : Prop := Claim7.holds Tryz.pinned (.plain (OpenSpec.ofChange admissionBoundsSpec)) admissionBoundsCard

/-- THE TIED CARD OF 'asoflaw33.AdmissionOthers'. -/
def admissionOthersCard : Claim7 := { stood := { row := admissionOthersRow, standIns := [], harness := (true, "c7e5eec30ace92f92900387e53def6e0c888b52239cdafba59d9be96e81448a7"), looks := false }, kinds := [], alts := [], laidByText := true, laidKinds := [.widerDeep, .widerDeep, .widerDeep], laidTests := true, laidLooks := .later }
def AdmissionOthersCardSaid : Prop := Claim7.holds Tryz.pinned (.plain (OpenSpec.ofChange admissionOthersSpec)) admissionOthersCard

/-- THE TIED CARD OF 'asoflaw33.AdmissionPurged'. -/
def admissionPurgedCard : Claim7 := { stood := { row := admissionPurgedRow, standIns := [], harness := (true, "c7e5eec30ace92f92900387e53def6e0c888b52239cdafba59d9be96e81448a7"), looks := false }, kinds := [], alts := [], laidByText := true, laidKinds := [.widerDeep, .widerDeep, .widerDeep], laidTests := true, laidLooks := .later }
def AdmissionPurgedCardSaid : Prop := Claim7.holds Tryz.pinned (.plain (OpenSpec.ofChange admissionPurgedSpec)) admissionPurgedCard

/-- THE TIED CARD OF 'asoflaw33.AdmissionValid'. -/
def admissionValidCard : Claim7 := { stood := { row := admissionValidRow, standIns := [], harness := (true, "c7e5eec30ace92f92900387e53def6e0c888b52239cdafba59d9be96e81448a7"), looks := false }, kinds := [], alts := [], laidByText := true, laidKinds := [.widerDeep, .widerDeep, .widerDeep], laidTests := true, laidLooks := .later }
def AdmissionValidCardSaid : Prop := Claim7.holds Tryz.pinned (.plain (OpenSpec.ofChange admissionValidSpec)) admissionValidCard

/-- THE SECOND FORM's CARD OF 'asoflaw33.AdmissionChecks'. -/
def admissionChecksUptoCard : Claim7 := { stood := { row := admissionChecksUptoRow, standIns := [], harness := (true, "c7e5eec30ace92f92900387e53def6e0c888b52239cdafba59d9be96e81448a7"), looks := false }, kinds := [], alts := [], laidByText := true, laidKinds := [.widerDeep, .widerDeep, .widerDeep], laidTests := true, laidLooks := .later }
def AdmissionChecksUptoCardSaid : Prop := Claim7.holds Tryz.pinned (.plain (OpenSpec.upto admissionChecksSpec)) admissionChecksUptoCard

/-- THE SECOND FORM's CARD OF 'asoflaw33.AdmissionFacts'. -/
def admissionFactsUptoCard : Claim7 := { stood := { row := admissionFactsUptoRow, standIns := [], harness := (true, "c7e5eec30ace92f92900387e53def6e0c888b52239cdafba59d9be96e81448a7"), looks := false }, kinds := [], alts := [], laidByText := true, laidKinds := [.widerDeep, .widerDeep, .widerDeep], laidTests := true, laidLooks := .later }
def AdmissionFactsUptoCardSaid : Prop := Claim7.holds Tryz.pinned (.plain (OpenSpec.upto admissionFactsSpec)) admissionFactsUptoCard

/-- THE SECOND FORM's CARD OF 'asoflaw33.AdmissionOnce'. -/
def admissionOnceUptoCard : Claim7 := { stood := { row := admissionOnceUptoRow, standIns := [], harness := (true, "c7e5eec30ace92f92900387e53def6e0c888b52239cdafba59d9be96e81448a7"), looks := false }, kinds := [], alts := [], laidByText := true, laidKinds := [.widerDeep, .widerDeep, .widerDeep], laidTests := true, laidLooks := .later }
def AdmissionOnceUptoCardSaid : Prop := Claim7.holds Tryz.pinned (.plain (OpenSpec.upto admissionOnceSpec)) admissionOnceUptoCard

/-- THE SECOND FORM's CARD OF 'asoflaw33.AdmissionBounds'. -/
def admissionBoundsUptoCard : Claim7 := { stood := { row := admissionBoundsUptoRow, standIns := [], harness := (true, "c7e5eec30ace92f92900387e53def6e0c888b52239cdafba59d9be96e81448a7"), looks := false }, kinds := [], alts := [], laidByText := true, laidKinds := [.widerDeep, .widerDeep, .widerDeep], laidTests := true, laidLooks := .later }
def AdmissionBoundsUptoCardSaid : Prop := Claim7.holds Tryz.pinned (.plain (OpenSpec.upto admissionBoundsSpec)) admissionBoundsUptoCard

/-- THE SECOND FORM's CARD OF 'asoflaw33.AdmissionOthers'. -/
def admissionOthersUptoCard : Claim7 := { stood := { row := admissionOthersUptoRow, standIns := [], harness := (true, "c7e5eec30ace92f92900387e53def6e0c888b52239cdafba59d9be96e81448a7"), looks := false }, kinds := [], alts := [], laidByText := true, laidKinds := [.widerDeep, .widerDeep, .widerDeep], laidTests := true, laidLooks := .later }
def AdmissionOthersUptoCardSaid : Prop := Claim7.holds Tryz.pinned (.plain (OpenSpec.upto admissionOthersSpec)) admissionOthersUptoCard

/-- THE SECOND FORM's CARD OF 'asoflaw33.AdmissionPurged'. -/
def admissionPurgedUptoCard : Claim7 := { stood := { row := admissionPurgedUptoRow, standIns := [], harness := (true, "c7e5eec30ace92f92900387e53def6e0c888b52239cdafba59d9be96e81448a7"), looks := false }, kinds := [], alts := [], laidByText := true, laidKinds := [.widerDeep, .widerDeep, .widerDeep], laidTests := true, laidLooks := .later }
def AdmissionPurgedUptoCardSaid : Prop := Claim7.holds Tryz.pinned (.plain (OpenSpec.upto admissionPurgedSpec)) admissionPurgedUptoCard

/-- THE SECOND FORM's CARD OF 'asoflaw33.AdmissionValid'. -/
def admissionValidUptoCard : Claim7 := { stood := { row := admissionValidUptoRow, standIns := [], harness := (true, "c7e5eec30ace92f92900387e53def6e0c888b52239cdafba59d9be96e81448a7"), looks := false }, kinds := [], alts := [], laidByText := true, laidKinds := [.widerDeep, .widerDeep, .widerDeep], laidTests := true, laidLooks := .later }
def AdmissionValidUptoCardSaid : Prop := Claim7.holds Tryz.pinned (.plain (OpenSpec.upto admissionValidSpec)) admissionValidUptoCard
end Rows
end Go.Proofs.YtkhlddbmhehbbaaGreatDoor
