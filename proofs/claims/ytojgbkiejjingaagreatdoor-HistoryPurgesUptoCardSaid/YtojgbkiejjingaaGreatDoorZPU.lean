/-
  HistoryPurges: for every log, Purge returns the purged log (a log that is not valid is left out of account)
-/
import Derived.Test.YtojgbkiejjingaaGreatDoorZPUb
set_option linter.all false
set_option maxRecDepth 100000
set_option maxHeartbeats 8000000
namespace Go.Proofs.YtojgbkiejjingaaGreatDoor
open Go Go.Dl Go.As Go.Proofs
variable {mx:Int}
attribute[local irreducible] Ah Aj MC W W2 FA ev evD step Ae
open Go Go.Dl Go.As Go.RowKit Go.ChangeShapes Go.WideShapes
theorem qV(f:FuncId)(fn:Func)(hf:Tryz.pinned.checked.prog.funcNamed "asof/asoflaw15.HistoryPurges"=some f)(hfn:Tryz.pinned.checked.prog.funcs[f]? =some fn):
  false=Tryz.pinned.checked.prog.looks []/\∀(j:Nat) t,fn.params[j]? =some t->Tryz.pinned.checked.prog.wantsStandIn t=false:=by
 obtain rfl:f=4:=Option.some.inj ((show Tryz.prog.funcNamed "asof/asoflaw15.HistoryPurges"=some 4 by kernel_rfl).symm.trans hf)|>.symm;obtain rfl:fn=Tryz.f4:=(Option.some.inj (Tryz.func4.symm.trans hfn)).symm;refine⟨by kernel_rfl,fun j t ht=>?_⟩;have hm:=Array.mem_of_getElem? ht;have jj:(Tryz.f4.params.toList.all fun t=>!Tryz.prog.wantsStandIn t)=true:=by kernel_rfl
 have:=List.all_eq_true.1 jj t (by simpa using hm);show Tryz.prog.wantsStandIn t=false;simpa using this
theorem card_historyPurges:Rows.HistoryPurgesUptoCardSaid:=
 Claim7.holds_tied_plain_at .later [] _ _ _ _ qU (fun _ h=>by cases h) (by as_aux_lemma=>kernel_rfl) (fun _ h=>by cases h) historyPurgesUpto_row_tie rfl ⟨rfl,rfl⟩ (by as_aux_lemma=>kernel_rfl) rfl qV (by as_aux_lemma=>kernel_rfl)
end Go.Proofs.YtojgbkiejjingaaGreatDoor
