/-
  Proved here: for every log of at most 1048576 bytes of which the law asks, HistoryShows says yes in the model.
-/
import Derived.Test.YtojgbkiejjingaaGreatDoorZHSb
set_option linter.all false
set_option maxRecDepth 100000
set_option maxHeartbeats 8000000
namespace Go.Proofs.YtojgbkiejjingaaGreatDoor
open Go Go.Dl Go.As Go.Proofs
variable {mx:Int}
attribute[local irreducible] Ah Ai MC W2 Fq ev evD step Ad
open Go Go.Dl Go.As Go.RowKit Go.ChangeShapes Go.WideShapes
theorem aE9(f:FuncId)(fn:Func)(hf:Tryz.pinned.checked.prog.funcNamed "asof/asoflaw15.HistoryShows"=some f)(hfn:Tryz.pinned.checked.prog.funcs[f]? =some fn):
  false=Tryz.pinned.checked.prog.looks []/\∀(j:Nat) t,fn.params[j]? =some t->Tryz.pinned.checked.prog.wantsStandIn t=false:=by
 obtain rfl:f=8:=Zho ((show Tryz.prog.funcNamed "asof/asoflaw15.HistoryShows"=some 8 by kernel_rfl).symm.trans hf)|>.symm;obtain rfl:fn=Tryz.f8:=(Zho (Tryz.func8.symm.trans hfn)).symm;refine⟨by kernel_rfl,fun j t ht=>?_⟩;have hm:=Zbs ht;have jj:(Tryz.f8.params.toList.all fun t=>!Tryz.prog.wantsStandIn t)=true:=by kernel_rfl
 have:=Zcu.1 jj t (by simpa using hm);show Tryz.prog.wantsStandIn t=false;simpa using this
theorem card_historyShows:Rows.HistoryShowsUptoCardSaid:=
 Claim7.holds_tied_plain_at .later [] _ _ _ _ aE8 (fun _ h=>by cases h) (by as_aux_lemma=>kernel_rfl) (fun _ h=>by cases h) historyShowsUpto_row_tie rfl ⟨rfl,rfl⟩ (by as_aux_lemma=>kernel_rfl) rfl aE9 (by as_aux_lemma=>kernel_rfl)
end Go.Proofs.YtojgbkiejjingaaGreatDoor
