/-Lemmas.-/
import Derived.Test.YtkhlddbmhehbbaaGreatDoorZACa
set_option linter.all false
set_option maxRecDepth 100000
set_option maxHeartbeats 8000000
namespace Go.Proofs.YtkhlddbmhehbbaaGreatDoor
open Go Go.Dl Go.As Go.Proofs
variable {mx:Int}
attribute[local irreducible] Ah Ai MC W2 EM ev evD step Ad
open Go Go.Dl Go.As Go.RowKit Go.ChangeShapes Go.WideShapes
theorem and_i{a b:Bool}(h:a=true)(k:b=true):(a&&b)=true:=by rw[h,k];rfl
theorem aEg:joinedFacts Tryz.pinned.checked.prog 3 Tryz.f3 (Rows.OpenSpec.upto Rows.admissionChecksSpec).bare Rows.admissionChecksUptoRow=true:=by
 unfold joinedFacts
 repeat' with_reducible refine and_i ?_ ?_
 all_goals(as_aux_lemma=>kernel_rfl)
theorem aEh:Rows.AdmissionChecksUptoSaid:=
 OpenClaim.holds_of_cond 3 Tryz.f3 rfl rfl rfl rfl rfl rfl rfl ⟨rfl,rfl,rfl,rfl,rfl⟩ rfl rfl rfl rfl rfl (by as_aux_lemma=>kernel_rfl) Tryz.func3 aEg
  (of_decide_eq_true (by as_aux_lemma=>kernel_rfl)) (by unfold Func.isWrapper;first|(rw[if_pos (by decide+kernel)];kernel_rfl)|(rw[if_neg (by decide+kernel)];exact⟨rfl,rfl⟩))
  (fun os started H enc _ F=>by rw[OpenClaim.pre_eq_preRow];exact aEf os started H enc F)
end Go.Proofs.YtkhlddbmhehbbaaGreatDoor
