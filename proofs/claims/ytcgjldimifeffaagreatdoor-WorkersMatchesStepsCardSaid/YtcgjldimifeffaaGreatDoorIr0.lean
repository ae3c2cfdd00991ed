/- A part of the proofs of WorkersExclude and WorkersMatchesSteps: Ir0. -/
import Derived.Test.YtcgjldimifeffaaGreatDoorT2
import Derived.Test.YtcgjldimifeffaaGreatDoorA27s
import Derived.Test.YtcgjldimifeffaaGreatDoorProg
set_option linter.all false
set_option maxRecDepth 100000
namespace Go.Proofs.YtcgjldimifeffaaGreatDoor
open Go Go.Dl Go.As Go.Proofs
/-- No variable of the package is listed. -/
def GLm (mx : Int) : List (Nat × List I) := [(0, [.iface 260 (.agg [.tptr 10 114])]), (4, [.int .i64 mx])]
variable {mx : Int}
noncomputable def Q0 : Program := ⟨Tryz.progTables, #[]⟩
abbrev FT := FP Tryz.prog Q0 GLm
end Go.Proofs.YtcgjldimifeffaaGreatDoor
