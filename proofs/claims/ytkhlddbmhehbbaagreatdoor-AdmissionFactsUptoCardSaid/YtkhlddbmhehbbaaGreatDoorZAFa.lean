/-Lemmas.-/
import Derived.Test.YtkhlddbmhehbbaaGreatDoorZAF0
set_option linter.all false
set_option maxRecDepth 100000
set_option maxHeartbeats 8000000
namespace Go.Proofs.YtkhlddbmhehbbaaGreatDoor
open Go Go.Dl Go.As Go.Proofs
variable {mx:Int}
attribute[local irreducible] Ah Ai MC W2 EM ev evD step Ad
open Go Go.Dl Go.As Go.RowKit Go.ChangeShapes Go.WideShapes
theorem aEj(H:Type)(enc:TypeId×Value->H)(W:World)(base:Nat)(args:Array Value)(ds gs:List (DataW H))(before:List MemPlace)
  (kj:∀(j:Nat) t v,Tryz.f4.params[j]? =some t->args[j]? =some v->Value.okWide Tryz.prog W .any base t v)
  (hW:DataW.Whole enc Tryz.prog Tryz.f4.params.toList Rows.admissionFactsSpec.vars false W args.toList ds gs before)(hk:Rows.uptoSmall H (ds++gs)=true)(hL:laidMetH Tryz.prog HT W)(qz:W.ShapedOpen Tryz.prog):
  Calls Tryz.prog 4 args W fun e W'=>∃v,e=.returned v/\Rows.admissionFactsSpec.post enc Tryz.prog Tryz.f4 false true false false W args v W':=by
 have hW':=hW;obtain⟨p,q,hA0,hV,rfl,_,_⟩:=hW;obtain⟨rfl,rfl⟩:=trodVars_none hV;have hA:DataW.TrodAll enc Tryz.prog W 0 (fun _=>true) true [22,24,3,29] args.toList ds p:=hA0;obtain⟨jd,qm⟩:=KO hA;have hb:Rows.uptoBulkAll (ds++[])<=1048576:=of_decide_eq_true hk;rw[List.append_nil,bulks_eq]at hb;obtain⟨d1,d2,d3,d4,rfl⟩:∃d1 d2 d3 d4,ds=[d1,d2,d3,d4]:=by
  match ds,jd with
  |[d1,d2,d3,d4],_=>exact⟨d1,d2,d3,d4,rfl⟩
 obtain⟨n1,r1⟩:=qm 0 (by simp) (by simp);replace r1:Rd Tryz.prog n1 22 d1:=r1;obtain⟨n2,r2⟩:=qm 1 (by simp) (by simp);replace r2:Rd Tryz.prog n2 24 d2:=r2;obtain⟨n3,r3⟩:=qm 2 (by simp) (by simp);replace r3:Rd Tryz.prog n3 3 d3:=r3;obtain⟨n4,r4⟩:=qm 3 (by simp) (by simp);replace r4:Rd Tryz.prog n4 29 d4:=r4;obtain⟨x1,f1,b1,_⟩:=Mo r1;obtain⟨x2,f2,b2,_⟩:=OB r2;obtain⟨x3,e3,w3⟩:=r3.int (k:=.i64) (by kernel_rfl);have f3:Aq d3=[iI x3]:=by rw[e3];rfl
 obtain⟨x4,f4,b4,_⟩:=KS r4;simp only[bulkL]at hb;obtain⟨mx,hg⟩:=Mm hL qz;have jp:=KN IG (ts:=[22,24,3,29]) (ds:=[d1,d2,d3,d4]) (by decide) (fun j t v h1 h2=>kj j t v (by simpa using h1) (by simpa using h2)) hA;have g1:Bx Tryz.prog 22 (Aq d1)=.sl (x1.map Ac):=by rw[f1];exact Ga (by rw[Tryz.underlying22];intro fs h;cases h)
 have g2:Bx Tryz.prog 24 (Aq d2)=.agg (Bf x2):=by rw[f2];exact E1 Tryz.underlying24
 have g3:Bx Tryz.prog 3 (Aq d3)=iI x3:=by rw[f3];exact Ga (by rw[Tryz.underlying3];intro fs h;cases h)
 have g4:Bx Tryz.prog 29 (Aq d4)=.agg (Ap x4):=by rw[f4];exact E1 Tryz.underlying29
 have he:EY Tryz.prog [22,24,3,29] [d1,d2,d3,d4]=[.sl (x1.map Ac),.agg (Bf x2),iI x3,.agg (Ap x4)]:=by simp only[EY,g1,g2,g3,g4]
 rw[he]at jp;have hc:=Mf (by kernel_rfl) (aEb (mx:=mx) x1 x2 x3 x4 (by omega)) hg jp;refine hc.mono ?_;rintro e W' ⟨v,M',rfl,hv,qp⟩;obtain rfl:v=.bool true:=by cases hv;rfl
 refine⟨_,rfl,Mg Ml (by kernel_rfl) rfl rfl Tryz.underlying4 (fun ys hy=>?_) hW' qp⟩
 match ys,hy with
 |[y0,y1,y2,y3],_=>rfl
theorem aEk(os:Os){H:Type}(enc:TypeId×Value->H):
  (Rows.OpenSpec.upto Rows.admissionFactsSpec).preRow enc Tryz.prog Tryz.f4 Rows.admissionFactsUptoRow.domain false Rows.admissionFactsUptoRow.laid ((Du os).forCall (fun _ _=>0) ⟨#[],#[.slice none 0 0,.agg #[.int .i64 0,.int .i64 0,.int .i64 0,.int .i64 0],.int .i64 0,.agg #[.string ⟨#[]⟩,.int .i64 0,.int .i64 0,.int .i64 0,.string ⟨#[]⟩,.string ⟨#[]⟩,.int .i64 0,.slice none 0 0]],[]⟩).memory #[.slice none 0 0,.agg #[.int .i64 0,.int .i64 0,.int .i64 0,.int .i64 0],.int .i64 0,.agg #[.string ⟨#[]⟩,.int .i64 0,.int .i64 0,.int .i64 0,.string ⟨#[]⟩,.string ⟨#[]⟩,.int .i64 0,.slice none 0 0]]:=by
 have hw:(DataW.whole enc Tryz.prog ((Du os).forCall (fun _ _=>0) ⟨#[],#[.slice none 0 0,.agg #[.int .i64 0,.int .i64 0,.int .i64 0,.int .i64 0],.int .i64 0,.agg #[.string ⟨#[]⟩,.int .i64 0,.int .i64 0,.int .i64 0,.string ⟨#[]⟩,.string ⟨#[]⟩,.int .i64 0,.slice none 0 0]],[]⟩).memory Tryz.f4.params.toList (Rows.OpenSpec.upto Rows.admissionFactsSpec).vars false (#[.slice none 0 0,.agg #[.int .i64 0,.int .i64 0,.int .i64 0,.int .i64 0],.int .i64 0,.agg #[.string ⟨#[]⟩,.int .i64 0,.int .i64 0,.int .i64 0,.string ⟨#[]⟩,.string ⟨#[]⟩,.int .i64 0,.slice none 0 0]]:Array Value).toList 12).map (fun x=>(x.1,x.2.1))=
   some ([.nil,.agg [.lit (.int .i64 0),.lit (.int .i64 0),.lit (.int .i64 0),.lit (.int .i64 0)],.lit (.int .i64 0),.agg [.agg [.lit (.string []),.lit (.int .i64 0)],.lit (.int .i64 0),.lit (.int .i64 0),.lit (.string []),.lit (.string []),.lit (.int .i64 0),.nil]],[]):=by kernel_rfl
 obtain⟨⟨x1,x2,x3⟩,hx,v6⟩:=Option.map_eq_some_iff.1 hw;simp only[Prod.mk.injEq]at v6;obtain⟨rfl,rfl⟩:=v6;exact OpenSpec.preRow_of_cond 12 hx (by kernel_rfl) (fun k hk=>by cases hk;kernel_rfl) (by kernel_rfl) (Mn os _)
theorem aEl(os:Os)(started:os.Started)(H:Type)(enc:TypeId×Value->H)(F:Stop.Interp):
  ReturnsInHanded {} Tryz.checked os 4 .any ((Rows.OpenSpec.upto Rows.admissionFactsSpec).preRow enc Tryz.prog Tryz.f4 Rows.admissionFactsUptoRow.domain false Rows.admissionFactsUptoRow.laid) (((Rows.OpenSpec.upto Rows.admissionFactsSpec).at F).post enc Tryz.prog Tryz.f4 false true false false):=by
 refine returnsInHanded_of_row (C:=Tryz.checked) (s:=Rows.OpenSpec.upto Rows.admissionFactsSpec) own started (by kernel_rfl) Tryz.func4
  (witness_row_atRef (enc:=enc) (C:=Tryz.checked) false (Du os) #[.slice none 0 0,.agg #[.int .i64 0,.int .i64 0,.int .i64 0,.int .i64 0],.int .i64 0,.agg #[.string ⟨#[]⟩,.int .i64 0,.int .i64 0,.int .i64 0,.string ⟨#[]⟩,.string ⟨#[]⟩,.int .i64 0,.slice none 0 0]] rfl (by kernel_rfl) (by kernel_rfl) (by kernel_rfl) (aEk os enc)) ?_
 intro W base args ds gs before kj hW _ jv _ hL qz _;exact aEj H enc W base args ds gs before kj hW (jv _ rfl) hL qz
end Go.Proofs.YtkhlddbmhehbbaaGreatDoor
