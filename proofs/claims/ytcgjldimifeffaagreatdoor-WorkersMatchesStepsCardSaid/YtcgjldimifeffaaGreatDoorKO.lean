/- A part of the proofs of WorkersExclude and WorkersMatchesSteps: E92. -/
import Derived.Test.YtcgjldimifeffaaGreatDoorCards
import Derived.JoinedOf
import Derived.JoinedTies
import Derived.KernelRfl
set_option linter.all false
set_option maxRecDepth 100000
set_option maxHeartbeats 8000000
namespace Go.Proofs.YtcgjldimifeffaaGreatDoor
open Go
theorem and_s {a b : Bool} (h : a = true) (k : b = true) : (a && b) = true := by rw [h, k]; rfl
theorem closed_workersMatchesSteps : joinedFacts Tryz.pinned.checked.prog 3 Tryz.f3 (OpenSpec.ofChange Rows.workersMatchesStepsSpec).bare Rows.workersMatchesStepsRow = true := by
  unfold joinedFacts
  repeat' with_reducible refine and_s ?_ ?_
  all_goals (as_aux_lemma => kernel_rfl)
end Go.Proofs.YtcgjldimifeffaaGreatDoor
