/-
  Proved here: for every log of at most 1048576 bytes of which the law asks, HistorySwaps says yes in the model.
-/
import Derived.Test.YtojgbkiejjingaaGreatDoorZHWb
set_option linter.all false
set_option maxRecDepth 100000
set_option maxHeartbeats 8000000
namespace Go.Proofs.YtojgbkiejjingaaGreatDoor
open Go Go.Dl Go.As Go.Proofs
variable {mx:Int}
attribute[local irreducible] Ah Ai MC W2 Fq ev evD step Ad
open Go Go.Dl Go.As Go.RowKit Go.ChangeShapes Go.WideShapes
theorem aE3(f:FuncId)(fn:Func)(hf:Tryz.pinned.checked.prog.funcNamed "asof/asoflaw15.HistorySwaps"=some f)(hfn:Tryz.pinned.checked.prog.funcs[f]? =some fn):
  false=Tryz.pinned.checked.prog.looks []/\∀(j:Nat) t,fn.params[j]? =some t->Tryz.pinned.checked.prog.wantsStandIn t=false:=by
 obtain rfl:f=5:=Zho ((show Tryz.prog.funcNamed "asof/asoflaw15.HistorySwaps"=some 5 by kernel_rfl).symm.trans hf)|>.symm;obtain rfl:fn=Tryz.f5:=(Zho (Tryz.func5.symm.trans hfn)).symm;refine⟨by kernel_rfl,fun j t ht=>?_⟩;have hm:=Zbs ht;have jj:(Tryz.f5.params.toList.all fun t=>!Tryz.prog.wantsStandIn t)=true:=by kernel_rfl
 have:=Zcu.1 jj t (by simpa using hm);show Tryz.prog.wantsStandIn t=false;simpa using this
theorem card_historySwaps:Rows.HistorySwapsUptoCardSaid:=
 Claim7.holds_tied_plain_at .later [] _ _ _ _ aE2 (fun _ h=>by cases h) (by as_aux_lemma=>kernel_rfl) (fun _ h=>by cases h) historySwapsUpto_row_tie rfl ⟨rfl,rfl⟩ (by as_aux_lemma=>kernel_rfl) rfl aE3 (by as_aux_lemma=>kernel_rfl)
end Go.Proofs.YtojgbkiejjingaaGreatDoor
