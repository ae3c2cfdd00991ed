/-
  Proved here: for every log, policy, tick, fact, erasure and change of at most 1048576 bytes of which the law asks, AdmissionValid says yes in the model.
-/
import Derived.Test.YtkhlddbmhehbbaaGreatDoorZAVb
set_option linter.all false
set_option maxRecDepth 100000
set_option maxHeartbeats 8000000
namespace Go.Proofs.YtkhlddbmhehbbaaGreatDoor
open Go Go.Dl Go.As Go.Proofs
variable {mx:Int}
attribute[local irreducible] Ah Ai MC W2 EM ev evD step Ad
open Go Go.Dl Go.As Go.RowKit Go.ChangeShapes Go.WideShapes
theorem aGl(f:FuncId)(fn:Func)(hf:Tryz.pinned.checked.prog.funcNamed "asof/asoflaw33.AdmissionValid"=some f)(hfn:Tryz.pinned.checked.prog.funcs[f]? =some fn):
  false=Tryz.pinned.checked.prog.looks []/\∀(j:Nat) t,fn.params[j]? =some t->Tryz.pinned.checked.prog.wantsStandIn t=false:=by
 obtain rfl:f=9:=Option.some.inj ((show Tryz.prog.funcNamed "asof/asoflaw33.AdmissionValid"=some 9 by kernel_rfl).symm.trans hf)|>.symm;obtain rfl:fn=Tryz.f9:=(Option.some.inj (Tryz.func9.symm.trans hfn)).symm;refine⟨by kernel_rfl,fun j t ht=>?_⟩;have hm:=Array.mem_of_getElem? ht;have jg:(Tryz.f9.params.toList.all fun t=>!Tryz.prog.wantsStandIn t)=true:=by kernel_rfl
 have:=List.all_eq_true.1 jg t (by simpa using hm);show Tryz.prog.wantsStandIn t=false;simpa using this
theorem card_admissionValid:Rows.AdmissionValidUptoCardSaid:=
 Claim7.holds_tied_plain_at .later [] _ _ _ _ aGk (fun _ h=>by cases h) (by as_aux_lemma=>kernel_rfl) (fun _ h=>by cases h) admissionValidUpto_row_tie rfl ⟨rfl,rfl⟩ (by as_aux_lemma=>kernel_rfl) rfl aGl (by as_aux_lemma=>kernel_rfl)
end Go.Proofs.YtkhlddbmhehbbaaGreatDoor
