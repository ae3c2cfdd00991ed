/-
  Lemmas, no statement.
-/
import Derived.Test.YtojgbkiejjingaaGreatDoorK47
set_option linter.all false
set_option maxRecDepth 100000
set_option maxHeartbeats 8000000
namespace Go.Proofs.YtojgbkiejjingaaGreatDoor
open Go Go.Dl Go.As Go.Proofs
variable {mx:Int}
attribute[local irreducible] Ah Aj MC W W2 FA ev evD step Ae
open Go Go.Dl Go.As Go.RowKit Go.ChangeShapes Go.WideShapes
theorem qW(H:Type)(enc:TypeId×Value->H)(W:World)(base:Nat)(args:Array Value)(ds gs:List (DataW H))(before:List MemPlace)
  (hval:∀(j:Nat) t v,Tryz.f7.params[j]? =some t->args[j]? =some v->Value.okWide Tryz.prog W .any base t v)
  (hW:DataW.Whole enc Tryz.prog Tryz.f7.params.toList Rows.historyCutsSpec.vars false W args.toList ds gs before)(hk:Rows.uptoSmall H (ds++gs)=true)(hL:laidMetH Tryz.prog K7 W)(hsh:W.ShapedOpen Tryz.prog):
  Calls Tryz.prog 7 args W fun e W'=>∃v,e=.returned v/\Rows.historyCutsSpec.post enc Tryz.prog Tryz.f7 false true false false W args v W':=by
 have hW':=hW;obtain⟨p,q,hA0,hV,rfl,_,_⟩:=hW;obtain⟨rfl,rfl⟩:=trodVars_none hV;have hA:DataW.TrodAll enc Tryz.prog W 0 (fun _=>true) true [22,3,3] args.toList ds p:=hA0;obtain⟨je,hrd⟩:=QN hA;have hb:Rows.uptoBulkAll (ds++[])<=1048576:=of_decide_eq_true hk;rw[List.append_nil,bulks_eq]at hb;obtain⟨d1,d2,d3,rfl⟩:∃d1 d2 d3,ds=[d1,d2,d3]:=by
  match ds,je with
  |[d1,d2,d3],_=>exact⟨d1,d2,d3,rfl⟩
 obtain⟨n1,r1⟩:=hrd 0 (by simp) (by simp);replace r1:Rd Tryz.prog n1 22 d1:=r1;obtain⟨n2,r2⟩:=hrd 1 (by simp) (by simp);replace r2:Rd Tryz.prog n2 3 d2:=r2;obtain⟨n3,r3⟩:=hrd 2 (by simp) (by simp);replace r3:Rd Tryz.prog n3 3 d3:=r3;obtain⟨x1,f1,b1,_⟩:=VJ r1;obtain⟨x2,e2,w2⟩:=r2.int (k:=.i64) (by kernel_rfl);have f2:AJ d2=[iI x2]:=by rw[e2];rfl
 obtain⟨x3,e3,w3⟩:=r3.int (k:=.i64) (by kernel_rfl);have f3:AJ d3=[iI x3]:=by rw[e3];rfl
 simp only[bulkL]at hb;obtain⟨mx,hg⟩:=VG hL hsh;have j7:=QM MJ (ts:=[22,3,3]) (ds:=[d1,d2,d3]) (by decide) (fun j t v h1 h2=>hval j t v (by simpa using h1) (by simpa using h2)) hA;have g1:Fh Tryz.prog 22 (AJ d1)=.sl (x1.map Ad):=by rw[f1];exact Ot (by rw[Tryz.underlying22];intro fs h;cases h)
 have g2:Fh Tryz.prog 3 (AJ d2)=iI x2:=by rw[f2];exact Ot (by rw[Tryz.underlying3];intro fs h;cases h)
 have g3:Fh Tryz.prog 3 (AJ d3)=iI x3:=by rw[f3];exact Ot (by rw[Tryz.underlying3];intro fs h;cases h)
 have he:K3 Tryz.prog [22,3,3] [d1,d2,d3]=[.sl (x1.map Ad),iI x2,iI x3]:=by simp only[K3,g1,g2,g3]
 rw[he]at j7;have hc:=Vl (by kernel_rfl) (qP (mx:=mx) x1 x2 x3 (by omega)) hg j7;refine hc.mono ?_;rintro e W' ⟨v,M',rfl,hv,wn⟩;obtain rfl:v=.bool true:=by cases hv;rfl
 refine⟨_,rfl,Vn VF (by kernel_rfl) rfl rfl Tryz.underlying4 (fun ys hy=>?_) hW' wn⟩
 match ys,hy with
 |[y0,y1,y2],_=>rfl
theorem qX(os:Os){H:Type}(enc:TypeId×Value->H):
  (Rows.OpenSpec.upto Rows.historyCutsSpec).preRow enc Tryz.prog Tryz.f7 Rows.historyCutsUptoRow.domain false Rows.historyCutsUptoRow.laid ((J7 os).forCall (fun _ _=>0) ⟨#[],#[.slice none 0 0,.int .i64 0,.int .i64 0],[]⟩).memory #[.slice none 0 0,.int .i64 0,.int .i64 0]:=by
 have hw:(DataW.whole enc Tryz.prog ((J7 os).forCall (fun _ _=>0) ⟨#[],#[.slice none 0 0,.int .i64 0,.int .i64 0],[]⟩).memory Tryz.f7.params.toList (Rows.OpenSpec.upto Rows.historyCutsSpec).vars false (#[.slice none 0 0,.int .i64 0,.int .i64 0]:Array Value).toList 12).map (fun x=>(x.1,x.2.1))=
   some ([.nil,.lit (.int .i64 0),.lit (.int .i64 0)],[]):=by kernel_rfl
 obtain⟨⟨x1,x2,x3⟩,hx,hx1⟩:=Option.map_eq_some_iff.1 hw;simp only[Prod.mk.injEq]at hx1;obtain⟨rfl,rfl⟩:=hx1;exact OpenSpec.preRow_of_cond 12 hx (by kernel_rfl) (fun k hk=>by cases hk;kernel_rfl) (by kernel_rfl) (VH os _)
theorem qY(os:Os)(started:os.Started)(H:Type)(enc:TypeId×Value->H)(F:Stop.Interp):
  ReturnsInHanded {} Tryz.checked os 7 .any ((Rows.OpenSpec.upto Rows.historyCutsSpec).preRow enc Tryz.prog Tryz.f7 Rows.historyCutsUptoRow.domain false Rows.historyCutsUptoRow.laid) (((Rows.OpenSpec.upto Rows.historyCutsSpec).at F).post enc Tryz.prog Tryz.f7 false true false false):=by
 refine returnsInHanded_of_row (C:=Tryz.checked) (s:=Rows.OpenSpec.upto Rows.historyCutsSpec) own started (by kernel_rfl) Tryz.func7
  (witness_row_atRef (enc:=enc) (C:=Tryz.checked) false (J7 os) #[.slice none 0 0,.int .i64 0,.int .i64 0] rfl (by kernel_rfl) (by kernel_rfl) (by kernel_rfl) (qX os enc)) ?_
 intro W base args ds gs before hval hW _ jf _ hL hsh _;exact qW H enc W base args ds gs before hval hW (jf _ rfl) hL hsh
end Go.Proofs.YtojgbkiejjingaaGreatDoor
