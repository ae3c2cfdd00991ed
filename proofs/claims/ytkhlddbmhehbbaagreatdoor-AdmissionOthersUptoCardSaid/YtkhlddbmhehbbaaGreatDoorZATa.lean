/-Lemmas.-/
import Derived.Test.YtkhlddbmhehbbaaGreatDoorZAT0
set_option linter.all false
set_option maxRecDepth 100000
set_option maxHeartbeats 8000000
namespace Go.Proofs.YtkhlddbmhehbbaaGreatDoor
open Go Go.Dl Go.As Go.Proofs
variable {mx:Int}
attribute[local irreducible] Ah Ai MC W2 EM ev evD step Ad
open Go Go.Dl Go.As Go.RowKit Go.ChangeShapes Go.WideShapes
theorem aEp(H:Type)(enc:TypeId×Value->H)(W:World)(base:Nat)(args:Array Value)(ds gs:List (DataW H))(before:List MemPlace)
  (kj:∀(j:Nat) t v,Tryz.f7.params[j]? =some t->args[j]? =some v->Value.okWide Tryz.prog W .any base t v)
  (hW:DataW.Whole enc Tryz.prog Tryz.f7.params.toList Rows.admissionOthersSpec.vars false W args.toList ds gs before)(hk:Rows.uptoSmall H (ds++gs)=true)(hL:laidMetH Tryz.prog HT W)(qz:W.ShapedOpen Tryz.prog):
  Calls Tryz.prog 7 args W fun e W'=>∃v,e=.returned v/\Rows.admissionOthersSpec.post enc Tryz.prog Tryz.f7 false true false false W args v W':=by
 have hW':=hW;obtain⟨p,q,hA0,hV,rfl,_,_⟩:=hW;obtain⟨rfl,rfl⟩:=trodVars_none hV;have hA:DataW.TrodAll enc Tryz.prog W 0 (fun _=>true) true [22,3,47,64] args.toList ds p:=hA0;obtain⟨jd,qm⟩:=KO hA;have hb:Rows.uptoBulkAll (ds++[])<=1048576:=of_decide_eq_true hk;rw[List.append_nil,bulks_eq]at hb;obtain⟨d1,d2,d3,d4,rfl⟩:∃d1 d2 d3 d4,ds=[d1,d2,d3,d4]:=by
  match ds,jd with
  |[d1,d2,d3,d4],_=>exact⟨d1,d2,d3,d4,rfl⟩
 obtain⟨n1,r1⟩:=qm 0 (by simp) (by simp);replace r1:Rd Tryz.prog n1 22 d1:=r1;obtain⟨n2,r2⟩:=qm 1 (by simp) (by simp);replace r2:Rd Tryz.prog n2 3 d2:=r2;obtain⟨n3,r3⟩:=qm 2 (by simp) (by simp);replace r3:Rd Tryz.prog n3 47 d3:=r3;obtain⟨n4,r4⟩:=qm 3 (by simp) (by simp);replace r4:Rd Tryz.prog n4 64 d4:=r4;obtain⟨x1,f1,b1,_⟩:=Mo r1;obtain⟨x2,e2,w2⟩:=r2.int (k:=.i64) (by kernel_rfl);have f2:Aq d2=[iI x2]:=by rw[e2];rfl
 obtain⟨x3,f3,b3,_⟩:=Rp r3;obtain⟨x4,f4,b4,_⟩:=Zq r4;simp only[bulkL]at hb;obtain⟨mx,hg⟩:=Mm hL qz;have jp:=KN IG (ts:=[22,3,47,64]) (ds:=[d1,d2,d3,d4]) (by decide) (fun j t v h1 h2=>kj j t v (by simpa using h1) (by simpa using h2)) hA;have g1:Bx Tryz.prog 22 (Aq d1)=.sl (x1.map Ac):=by rw[f1];exact Ga (by rw[Tryz.underlying22];intro fs h;cases h)
 have g2:Bx Tryz.prog 3 (Aq d2)=iI x2:=by rw[f2];exact Ga (by rw[Tryz.underlying3];intro fs h;cases h)
 have g3:Bx Tryz.prog 47 (Aq d3)=.agg (BL x3):=by rw[f3];exact E1 Tryz.underlying47
 have g4:Bx Tryz.prog 64 (Aq d4)=.agg (AE x4):=by rw[f4];exact E1 Tryz.underlying64
 have he:EY Tryz.prog [22,3,47,64] [d1,d2,d3,d4]=[.sl (x1.map Ac),iI x2,.agg (BL x3),.agg (AE x4)]:=by simp only[EY,g1,g2,g3,g4]
 rw[he]at jp;have hc:=Mf (by kernel_rfl) (aEc (mx:=mx) x1 x2 x3 x4 (by omega)) hg jp;refine hc.mono ?_;rintro e W' ⟨v,M',rfl,hv,qp⟩;obtain rfl:v=.bool true:=by cases hv;rfl
 refine⟨_,rfl,Mg Ml (by kernel_rfl) rfl rfl Tryz.underlying4 (fun ys hy=>?_) hW' qp⟩
 match ys,hy with
 |[y0,y1,y2,y3],_=>rfl
theorem aEq(os:Os){H:Type}(enc:TypeId×Value->H):
  (Rows.OpenSpec.upto Rows.admissionOthersSpec).preRow enc Tryz.prog Tryz.f7 Rows.admissionOthersUptoRow.domain false Rows.admissionOthersUptoRow.laid ((Du os).forCall (fun _ _=>0) ⟨#[],#[.slice none 0 0,.int .i64 0,.agg #[.int .i64 0,.string ⟨#[]⟩,.string ⟨#[]⟩,.string ⟨#[]⟩,.int .i64 0],.agg #[.int .i64 0,.string ⟨#[]⟩,.string ⟨#[]⟩,.slice none 0 0,.int .i64 0,.string ⟨#[]⟩,.string ⟨#[]⟩,.int .i64 0,.slice none 0 0,.string ⟨#[]⟩,.int .i64 0,.string ⟨#[]⟩,.string ⟨#[]⟩,.string ⟨#[]⟩,.int .i64 0,.int .i64 0,.string ⟨#[]⟩,.slice none 0 0,.int .i64 0,.int .i64 0,.int .i64 0,.slice none 0 0,.int .i64 0,.string ⟨#[]⟩]],[]⟩).memory #[.slice none 0 0,.int .i64 0,.agg #[.int .i64 0,.string ⟨#[]⟩,.string ⟨#[]⟩,.string ⟨#[]⟩,.int .i64 0],.agg #[.int .i64 0,.string ⟨#[]⟩,.string ⟨#[]⟩,.slice none 0 0,.int .i64 0,.string ⟨#[]⟩,.string ⟨#[]⟩,.int .i64 0,.slice none 0 0,.string ⟨#[]⟩,.int .i64 0,.string ⟨#[]⟩,.string ⟨#[]⟩,.string ⟨#[]⟩,.int .i64 0,.int .i64 0,.string ⟨#[]⟩,.slice none 0 0,.int .i64 0,.int .i64 0,.int .i64 0,.slice none 0 0,.int .i64 0,.string ⟨#[]⟩]]:=by
 have hw:(DataW.whole enc Tryz.prog ((Du os).forCall (fun _ _=>0) ⟨#[],#[.slice none 0 0,.int .i64 0,.agg #[.int .i64 0,.string ⟨#[]⟩,.string ⟨#[]⟩,.string ⟨#[]⟩,.int .i64 0],.agg #[.int .i64 0,.string ⟨#[]⟩,.string ⟨#[]⟩,.slice none 0 0,.int .i64 0,.string ⟨#[]⟩,.string ⟨#[]⟩,.int .i64 0,.slice none 0 0,.string ⟨#[]⟩,.int .i64 0,.string ⟨#[]⟩,.string ⟨#[]⟩,.string ⟨#[]⟩,.int .i64 0,.int .i64 0,.string ⟨#[]⟩,.slice none 0 0,.int .i64 0,.int .i64 0,.int .i64 0,.slice none 0 0,.int .i64 0,.string ⟨#[]⟩]],[]⟩).memory Tryz.f7.params.toList (Rows.OpenSpec.upto Rows.admissionOthersSpec).vars false (#[.slice none 0 0,.int .i64 0,.agg #[.int .i64 0,.string ⟨#[]⟩,.string ⟨#[]⟩,.string ⟨#[]⟩,.int .i64 0],.agg #[.int .i64 0,.string ⟨#[]⟩,.string ⟨#[]⟩,.slice none 0 0,.int .i64 0,.string ⟨#[]⟩,.string ⟨#[]⟩,.int .i64 0,.slice none 0 0,.string ⟨#[]⟩,.int .i64 0,.string ⟨#[]⟩,.string ⟨#[]⟩,.string ⟨#[]⟩,.int .i64 0,.int .i64 0,.string ⟨#[]⟩,.slice none 0 0,.int .i64 0,.int .i64 0,.int .i64 0,.slice none 0 0,.int .i64 0,.string ⟨#[]⟩]]:Array Value).toList 12).map (fun x=>(x.1,x.2.1))=
   some ([.nil,.lit (.int .i64 0),.agg [.lit (.int .i64 0),.lit (.string []),.lit (.string []),.agg [.lit (.string []),.lit (.int .i64 0)]],.agg [.lit (.int .i64 0),.agg [.lit (.string []),.lit (.string []),.nil,.lit (.int .i64 0)],.agg [.lit (.string []),.lit (.string []),.agg [.lit (.int .i64 0),.nil,.lit (.string [])],.agg [.lit (.int .i64 0),.lit (.string []),.lit (.string []),.lit (.string []),.agg [.lit (.int .i64 0),.lit (.int .i64 0),.lit (.string [])],.nil,.lit (.int .i64 0),.agg [.lit (.int .i64 0),.lit (.int .i64 0)],.nil],.lit (.int .i64 0)],.lit (.string [])]],[]):=by kernel_rfl
 obtain⟨⟨x1,x2,x3⟩,hx,v6⟩:=Option.map_eq_some_iff.1 hw;simp only[Prod.mk.injEq]at v6;obtain⟨rfl,rfl⟩:=v6;exact OpenSpec.preRow_of_cond 12 hx (by kernel_rfl) (fun k hk=>by cases hk;kernel_rfl) (by kernel_rfl) (Mn os _)
theorem aEr(os:Os)(started:os.Started)(H:Type)(enc:TypeId×Value->H)(F:Stop.Interp):
  ReturnsInHanded {} Tryz.checked os 7 .any ((Rows.OpenSpec.upto Rows.admissionOthersSpec).preRow enc Tryz.prog Tryz.f7 Rows.admissionOthersUptoRow.domain false Rows.admissionOthersUptoRow.laid) (((Rows.OpenSpec.upto Rows.admissionOthersSpec).at F).post enc Tryz.prog Tryz.f7 false true false false):=by
 refine returnsInHanded_of_row (C:=Tryz.checked) (s:=Rows.OpenSpec.upto Rows.admissionOthersSpec) own started (by kernel_rfl) Tryz.func7
  (witness_row_atRef (enc:=enc) (C:=Tryz.checked) false (Du os) #[.slice none 0 0,.int .i64 0,.agg #[.int .i64 0,.string ⟨#[]⟩,.string ⟨#[]⟩,.string ⟨#[]⟩,.int .i64 0],.agg #[.int .i64 0,.string ⟨#[]⟩,.string ⟨#[]⟩,.slice none 0 0,.int .i64 0,.string ⟨#[]⟩,.string ⟨#[]⟩,.int .i64 0,.slice none 0 0,.string ⟨#[]⟩,.int .i64 0,.string ⟨#[]⟩,.string ⟨#[]⟩,.string ⟨#[]⟩,.int .i64 0,.int .i64 0,.string ⟨#[]⟩,.slice none 0 0,.int .i64 0,.int .i64 0,.int .i64 0,.slice none 0 0,.int .i64 0,.string ⟨#[]⟩]] rfl (by kernel_rfl) (by kernel_rfl) (by kernel_rfl) (aEq os enc)) ?_
 intro W base args ds gs before kj hW _ jv _ hL qz _;exact aEp H enc W base args ds gs before kj hW (jv _ rfl) hL qz
end Go.Proofs.YtkhlddbmhehbbaaGreatDoor
