/- A part of the proofs of WorkersExclude and WorkersMatchesSteps: E93 E96 E94. -/
import Derived.Test.YtcgjldimifeffaaGreatDoorKL
import Derived.Test.YtcgjldimifeffaaGreatDoorKO
import Derived.Test.YtcgjldimifeffaaGreatDoorCards
import Derived.SevenTiedAt
import Derived.KernelRfl
import Derived.Test.YtcgjldimifeffaaGreatDoorKT
set_option linter.all false
set_option maxRecDepth 100000
set_option maxHeartbeats 8000000
namespace Go.Proofs.YtcgjldimifeffaaGreatDoor
open Go Go.Dl Go.As Go.RowKit Go.ChangeShapes Go.WideShapes
theorem said_workersMatchesSteps : Rows.WorkersMatchesStepsSaid :=
  OpenClaim.holds_of_cond 3 Tryz.f3 rfl rfl rfl rfl rfl rfl rfl ⟨rfl, rfl, rfl, rfl, rfl⟩ rfl rfl rfl rfl rfl (by as_aux_lemma => kernel_rfl) Tryz.func3 closed_workersMatchesSteps
    (of_decide_eq_true (by as_aux_lemma => kernel_rfl)) (by unfold Func.isWrapper; first | (rw [if_pos (by decide +kernel)]; kernel_rfl) | (rw [if_neg (by decide +kernel)]; exact ⟨rfl, rfl⟩))
    (fun os started H enc _ F => by rw [OpenClaim.pre_eq_preRow]; exact lifted_workersMatchesSteps os started H enc F)
end Go.Proofs.YtcgjldimifeffaaGreatDoor
set_option maxRecDepth 100000
set_option maxHeartbeats 8000000
namespace Go.Proofs.YtcgjldimifeffaaGreatDoor
open Go
/-! No function of the program starts a goroutine. -/
theorem goes_none {P : Program} (h : P.funcs.any Func.goes = false) (f : FuncId) : P.goes f = false := by
  have key : ∀ g : FuncId, (P.funcs[g]?).any Func.goes = false := by
    intro g
    cases hg : P.funcs[g]? with
    | none => rfl
    | some fn =>
      cases hb : Func.goes fn with
      | false => simp [hb]
      | true =>
        have hm := Array.mem_of_getElem? hg
        have : P.funcs.any Func.goes = true := Array.any_eq_true'.2 ⟨fn, hm, hb⟩
        rw [h] at this; cases this
  unfold Program.goes
  rw [h, Bool.and_false, Bool.or_false]
  cases hc : ((P.closure f).any fun g => (P.funcs[g]?).any Func.goes) with
  | false => rfl
  | true => simp [key] at hc
theorem goesBy_none {P : Program} (h : P.funcs.any Func.goes = false) (c : OpenClaim) (hs : c.start = .entering) : false = c.goesBy P := by
  unfold OpenClaim.goesBy Program.goesAt Program.goesFrom
  rw [hs]
  cases P.funcNamed c.func with
  | none => rfl
  | some f => simp [goes_none h f]
theorem goesP : Tryz.pinned.checked.prog.funcs.any Func.goes = false := by kernel_rfl
end Go.Proofs.YtcgjldimifeffaaGreatDoor
set_option maxRecDepth 100000
set_option maxHeartbeats 8000000
namespace Go.Proofs.YtcgjldimifeffaaGreatDoor
open Go Go.Dl Go.As Go.RowKit Go.ChangeShapes Go.WideShapes
theorem plain_workersMatchesSteps (f : FuncId) (fn : Func) (hf : Tryz.pinned.checked.prog.funcNamed "asof/asoflaw43.WorkersMatchesSteps" = some f) (hfn : Tryz.pinned.checked.prog.funcs[f]? = some fn) :
    true = Tryz.pinned.checked.prog.looks [] ∧ ∀ (j : Nat) t, fn.params[j]? = some t → Tryz.pinned.checked.prog.wantsStandIn t = false := by
  obtain rfl : f = 3 := Option.some.inj ((show Tryz.prog.funcNamed "asof/asoflaw43.WorkersMatchesSteps" = some 3 by kernel_rfl).symm.trans hf) |>.symm
  obtain rfl : fn = Tryz.f3 := (Option.some.inj (Tryz.func3.symm.trans hfn)).symm
  refine ⟨by kernel_rfl, fun j t ht => ?_⟩
  have hm := Array.mem_of_getElem? ht
  have hall : (Tryz.f3.params.toList.all fun t => !Tryz.prog.wantsStandIn t) = true := by kernel_rfl
  have := List.all_eq_true.1 hall t (by simpa using hm)
  show Tryz.prog.wantsStandIn t = false
  simpa using this
/-- The card of WorkersMatchesSteps. -/
theorem card_workersMatchesSteps : Rows.WorkersMatchesStepsCardSaid :=
  Claim7.holds_tied_plain_at .later [] _ _ _ _ said_workersMatchesSteps (fun _ h => by cases h) (by as_aux_lemma => kernel_rfl) (fun _ h => by cases h) workersMatchesSteps_row_tie rfl ⟨rfl, rfl⟩ (by as_aux_lemma => kernel_rfl) rfl plain_workersMatchesSteps (goesBy_none goesP _ rfl)
end Go.Proofs.YtcgjldimifeffaaGreatDoor
