/-Lemmas.-/
import Derived.Test.YtojgbkiejjingaaGreatDoorV23
set_option linter.all false
set_option maxRecDepth 100000
set_option maxHeartbeats 8000000
namespace Go.Proofs.YtojgbkiejjingaaGreatDoor
open Go Go.Dl Go.As Go.Proofs
variable {mx:Int}
attribute[local irreducible] Ah Ai MC W2 Fq ev evD step Ad
open Go Go.Dl Go.As Go.RowKit Go.ChangeShapes Go.WideShapes
theorem aE4(H:Type)(enc:TypeId×Value->H)(W:World)(base:Nat)(args:Array Value)(ds gs:List (DataW H))(before:List MemPlace)
  (qn:∀(j:Nat) t v,Tryz.f8.params[j]? =some t->args[j]? =some v->Value.okWide Tryz.prog W .any base t v)
  (hW:DataW.Whole enc Tryz.prog Tryz.f8.params.toList Rows.historyShowsSpec.vars false W args.toList ds gs before)(hk:Rows.uptoSmall H (ds++gs)=true)(hL:laidMetH Tryz.prog Jl W)(w6:W.ShapedOpen Tryz.prog):
  Calls Tryz.prog 8 args W fun e W'=>∃v,e=.returned v/\Rows.historyShowsSpec.post enc Tryz.prog Tryz.f8 false true false false W args v W':=by
 have hW':=hW;obtain⟨p,q,hA0,hV,rfl,_,_⟩:=hW;obtain⟨rfl,rfl⟩:=trodVars_none hV;have hA:DataW.TrodAll enc Tryz.prog W 0 (fun _=>true) true [22,3,30] args.toList ds p:=hA0;obtain⟨je,hrd⟩:=M0 hA;have hb:Rows.uptoBulkAll (ds++[])<=1048576:=Za6 hk;rw[Zc1,bulks_eq]at hb;obtain⟨d1,d2,d3,rfl⟩:∃d1 d2 d3,ds=[d1,d2,d3]:=by
  match ds,je with
  |[d1,d2,d3],_=>exact⟨d1,d2,d3,rfl⟩
 obtain⟨n1,r1⟩:=hrd 0 (by simp) (by simp);replace r1:Rd Tryz.prog n1 22 d1:=r1;obtain⟨n2,r2⟩:=hrd 1 (by simp) (by simp);replace r2:Rd Tryz.prog n2 3 d2:=r2;obtain⟨n3,r3⟩:=hrd 2 (by simp) (by simp);replace r3:Rd Tryz.prog n3 30 d3:=r3;obtain⟨x1,f1,b1,_⟩:=O8 r1;obtain⟨x2,e2,w2⟩:=r2.int (k:=.i64) (by kernel_rfl);have f2:AG d2=[iI x2]:=by rw[e2];rfl
 obtain⟨x3,f3,b3,_⟩:=TR r3;simp only[bulkL]at hb;obtain⟨mx,hg⟩:=O6 hL w6;have jr:=MZ Kn (ts:=[22,3,30]) (ds:=[d1,d2,d3]) (by decide) (fun j t v h1 h2=>qn j t v (by simpa using h1) (by simpa using h2)) hA;have g1:C5 Tryz.prog 22 (AG d1)=.sl (x1.map Ae):=by rw[f1];exact Ip (by rw[Tryz.underlying22];intro fs h;cases h)
 have g2:C5 Tryz.prog 3 (AG d2)=iI x2:=by rw[f2];exact Ip (by rw[Tryz.underlying3];intro fs h;cases h)
 have g3:C5 Tryz.prog 30 (AG d3)=.agg (Am x3):=by rw[f3];exact YR Tryz.underlying30
 have he:GV Tryz.prog [22,3,30] [d1,d2,d3]=[.sl (x1.map Ae),iI x2,.agg (Am x3)]:=by simp only[GV,g1,g2,g3]
 rw[he]at jr;have hc:=OY (by kernel_rfl) (aD4 (mx:=mx) x1 x2 x3 (by omega)) hg jr;refine hc.mono ?_;rintro e W' ⟨v,M',rfl,hv,qy⟩;obtain rfl:v=.bool true:=by cases hv;rfl
 refine⟨_,rfl,OZ O5 (by kernel_rfl) rfl rfl Tryz.underlying4 (fun ys hy=>?_) hW' qy⟩
 match ys,hy with
 |[y0,y1,y2],_=>rfl
theorem aE5(os:Os){H:Type}(enc:TypeId×Value->H):
  (Rows.OpenSpec.upto Rows.historyShowsSpec).preRow enc Tryz.prog Tryz.f8 Rows.historyShowsUptoRow.domain false Rows.historyShowsUptoRow.laid ((EJ os).forCall (fun _ _=>0) ⟨#[],#[.slice none 0 0,.int .i64 0,.agg #[.string ⟨#[]⟩,.int .i64 0]],[]⟩).memory #[.slice none 0 0,.int .i64 0,.agg #[.string ⟨#[]⟩,.int .i64 0]]:=by
 have hw:(DataW.whole enc Tryz.prog ((EJ os).forCall (fun _ _=>0) ⟨#[],#[.slice none 0 0,.int .i64 0,.agg #[.string ⟨#[]⟩,.int .i64 0]],[]⟩).memory Tryz.f8.params.toList (Rows.OpenSpec.upto Rows.historyShowsSpec).vars false (#[.slice none 0 0,.int .i64 0,.agg #[.string ⟨#[]⟩,.int .i64 0]]:Array Value).toList 12).map (fun x=>(x.1,x.2.1))=
   some ([.nil,.lit (.int .i64 0),.agg [.lit (.string []),.lit (.int .i64 0)]],[]):=by kernel_rfl
 obtain⟨⟨x1,x2,x3⟩,hx,hx1⟩:=Zhl.1 hw;simp only[Zhr]at hx1;obtain⟨rfl,rfl⟩:=hx1;exact OpenSpec.preRow_of_cond 12 hx (by kernel_rfl) (fun k hk=>by cases hk;kernel_rfl) (by kernel_rfl) (O7 os _)
theorem aE6(os:Os)(started:os.Started)(H:Type)(enc:TypeId×Value->H)(F:Stop.Interp):
  ReturnsInHanded {} Tryz.checked os 8 .any ((Rows.OpenSpec.upto Rows.historyShowsSpec).preRow enc Tryz.prog Tryz.f8 Rows.historyShowsUptoRow.domain false Rows.historyShowsUptoRow.laid) (((Rows.OpenSpec.upto Rows.historyShowsSpec).at F).post enc Tryz.prog Tryz.f8 false true false false):=by
 refine Zbc (C:=Tryz.checked) (s:=Rows.OpenSpec.upto Rows.historyShowsSpec) own started (by kernel_rfl) Tryz.func8
  (witness_row_atRef (enc:=enc) (C:=Tryz.checked) false (EJ os) #[.slice none 0 0,.int .i64 0,.agg #[.string ⟨#[]⟩,.int .i64 0]] rfl (by kernel_rfl) (by kernel_rfl) (by kernel_rfl) (aE5 os enc)) ?_
 intro W base args ds gs before qn hW _ kl _ hL w6 _;exact aE4 H enc W base args ds gs before qn hW (kl _ rfl) hL w6
end Go.Proofs.YtojgbkiejjingaaGreatDoor
