/-Lemmas.-/
import Derived.Test.YtojgbkiejjingaaGreatDoorZHSa
set_option linter.all false
set_option maxRecDepth 100000
set_option maxHeartbeats 8000000
namespace Go.Proofs.YtojgbkiejjingaaGreatDoor
open Go Go.Dl Go.As Go.Proofs
variable {mx:Int}
attribute[local irreducible] Ah Ai MC W2 Fq ev evD step Ad
open Go Go.Dl Go.As Go.RowKit Go.ChangeShapes Go.WideShapes
theorem and_i{a b:Bool}(h:a=true)(k:b=true):(a&&b)=true:=by rw[h,k];rfl
theorem aE7:joinedFacts Tryz.pinned.checked.prog 8 Tryz.f8 (Rows.OpenSpec.upto Rows.historyShowsSpec).bare Rows.historyShowsUptoRow=true:=by
 unfold joinedFacts
 repeat' with_reducible refine and_i ?_ ?_
 all_goals(as_aux_lemma=>kernel_rfl)
theorem aE8:Rows.HistoryShowsUptoSaid:=
 OpenClaim.holds_of_cond 8 Tryz.f8 rfl rfl rfl rfl rfl rfl rfl ⟨rfl,rfl,rfl,rfl,rfl⟩ rfl rfl rfl rfl rfl (by as_aux_lemma=>kernel_rfl) Tryz.func8 aE7
  (Za6 (by as_aux_lemma=>kernel_rfl)) (by unfold Func.isWrapper;first|(rw[Zaa (by decide+kernel)];kernel_rfl)|(rw[Zac (by decide+kernel)];exact⟨rfl,rfl⟩))
  (fun os started H enc _ F=>by rw[OpenClaim.pre_eq_preRow];exact aE6 os started H enc F)
end Go.Proofs.YtojgbkiejjingaaGreatDoor
