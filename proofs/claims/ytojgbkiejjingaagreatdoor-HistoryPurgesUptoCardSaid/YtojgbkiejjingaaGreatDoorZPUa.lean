/-
  Lemmas, no statement.
-/
import Derived.Test.YtojgbkiejjingaaGreatDoorK47
set_option linter.all false
set_option maxRecDepth 100000
set_option maxHeartbeats 8000000
namespace Go.Proofs.YtojgbkiejjingaaGreatDoor
open Go Go.Dl Go.As Go.Proofs
variable {mx:Int}
attribute[local irreducible] Ah Aj MC W W2 FA ev evD step Ae
open Go Go.Dl Go.As Go.RowKit Go.ChangeShapes Go.WideShapes
theorem qQ(H:Type)(enc:TypeId×Value->H)(W:World)(base:Nat)(args:Array Value)(ds gs:List (DataW H))(before:List MemPlace)
  (hval:∀(j:Nat) t v,Tryz.f4.params[j]? =some t->args[j]? =some v->Value.okWide Tryz.prog W .any base t v)
  (hW:DataW.Whole enc Tryz.prog Tryz.f4.params.toList Rows.historyPurgesSpec.vars false W args.toList ds gs before)(hk:Rows.uptoSmall H (ds++gs)=true)(hL:laidMetH Tryz.prog K7 W)(hsh:W.ShapedOpen Tryz.prog):
  Calls Tryz.prog 4 args W fun e W'=>∃v,e=.returned v/\Rows.historyPurgesSpec.post enc Tryz.prog Tryz.f4 false true false false W args v W':=by
 have hW':=hW;obtain⟨p,q,hA0,hV,rfl,_,_⟩:=hW;obtain⟨rfl,rfl⟩:=trodVars_none hV;have hA:DataW.TrodAll enc Tryz.prog W 0 (fun _=>true) true [22] args.toList ds p:=hA0;obtain⟨je,hrd⟩:=QN hA;have hb:Rows.uptoBulkAll (ds++[])<=1048576:=of_decide_eq_true hk;rw[List.append_nil,bulks_eq]at hb;obtain⟨d1,rfl⟩:∃d1,ds=[d1]:=by
  match ds,je with
  |[d1],_=>exact⟨d1,rfl⟩
 obtain⟨n1,r1⟩:=hrd 0 (by simp) (by simp);replace r1:Rd Tryz.prog n1 22 d1:=r1;obtain⟨x1,f1,b1,_⟩:=VJ r1;simp only[bulkL]at hb;obtain⟨mx,hg⟩:=VG hL hsh;have j7:=QM MJ (ts:=[22]) (ds:=[d1]) (by decide) (fun j t v h1 h2=>hval j t v (by simpa using h1) (by simpa using h2)) hA;have g1:Fh Tryz.prog 22 (AJ d1)=.sl (x1.map Ad):=by rw[f1];exact Ot (by rw[Tryz.underlying22];intro fs h;cases h)
 have he:K3 Tryz.prog [22] [d1]=[.sl (x1.map Ad)]:=by simp only[K3,g1]
 rw[he]at j7;have hc:=Vl (by kernel_rfl) (qO (mx:=mx) x1 (by omega)) hg j7;refine hc.mono ?_;rintro e W' ⟨v,M',rfl,hv,wn⟩;obtain rfl:v=.bool true:=by cases hv;rfl
 refine⟨_,rfl,Vn VF (by kernel_rfl) rfl rfl Tryz.underlying4 (fun ys hy=>?_) hW' wn⟩
 match ys,hy with
 |[y0],_=>rfl
theorem qR(os:Os){H:Type}(enc:TypeId×Value->H):
  (Rows.OpenSpec.upto Rows.historyPurgesSpec).preRow enc Tryz.prog Tryz.f4 Rows.historyPurgesUptoRow.domain false Rows.historyPurgesUptoRow.laid ((J7 os).forCall (fun _ _=>0) ⟨#[],#[.slice none 0 0],[]⟩).memory #[.slice none 0 0]:=by
 have hw:(DataW.whole enc Tryz.prog ((J7 os).forCall (fun _ _=>0) ⟨#[],#[.slice none 0 0],[]⟩).memory Tryz.f4.params.toList (Rows.OpenSpec.upto Rows.historyPurgesSpec).vars false (#[.slice none 0 0]:Array Value).toList 12).map (fun x=>(x.1,x.2.1))=
   some ([.nil],[]):=by kernel_rfl
 obtain⟨⟨x1,x2,x3⟩,hx,hx1⟩:=Option.map_eq_some_iff.1 hw;simp only[Prod.mk.injEq]at hx1;obtain⟨rfl,rfl⟩:=hx1;exact OpenSpec.preRow_of_cond 12 hx (by kernel_rfl) (fun k hk=>by cases hk;kernel_rfl) (by kernel_rfl) (VH os _)
theorem qS(os:Os)(started:os.Started)(H:Type)(enc:TypeId×Value->H)(F:Stop.Interp):
  ReturnsInHanded {} Tryz.checked os 4 .any ((Rows.OpenSpec.upto Rows.historyPurgesSpec).preRow enc Tryz.prog Tryz.f4 Rows.historyPurgesUptoRow.domain false Rows.historyPurgesUptoRow.laid) (((Rows.OpenSpec.upto Rows.historyPurgesSpec).at F).post enc Tryz.prog Tryz.f4 false true false false):=by
 refine returnsInHanded_of_row (C:=Tryz.checked) (s:=Rows.OpenSpec.upto Rows.historyPurgesSpec) own started (by kernel_rfl) Tryz.func4
  (witness_row_atRef (enc:=enc) (C:=Tryz.checked) false (J7 os) #[.slice none 0 0] rfl (by kernel_rfl) (by kernel_rfl) (by kernel_rfl) (qR os enc)) ?_
 intro W base args ds gs before hval hW _ jf _ hL hsh _;exact qQ H enc W base args ds gs before hval hW (jf _ rfl) hL hsh
end Go.Proofs.YtojgbkiejjingaaGreatDoor
