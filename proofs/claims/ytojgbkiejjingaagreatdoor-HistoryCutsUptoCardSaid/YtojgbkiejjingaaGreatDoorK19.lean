/-
  Lemmas, no statement.
-/
import Derived.Test.YtojgbkiejjingaaGreatDoorK18
set_option linter.all false
namespace Go.Dl
open Go Go.RowKit
section
variable (P:Program)(GL:List (Nat×List I))
def pv(ρ:O->D)(σ:Nat->Option Blk):Ins->D×Prop
 |.mov _ x=>(ρ x,True)
 |.pick _ c a b=>match ρ c with
  |.i (.bool t)=>(if t then ρ a else ρ b,True)
  |_=>(.any,False)
 |.load _ x k ag=>match ρ x with
  |.i (.elt cs off)=>(.i (pk ag cs off k),off+k<=cs.length)
  |.ref (.loc nm off)=>match σ nm with
   |some (.cells cs)=>(Y4 ag cs off k,off+k<=cs.length/\(ag=true->Bk ((cs.drop off).take k)=true))
   |_=>(.any,False)
  |.ref (.lel nm kk row off)=>match σ nm with
   |some (.rows _ k' rs)=>(.i (pk ag (rs.getD row []) off k),kk=k'/\row<rs.length/\off+k<=(rs.getD row []).length)
   |_=>(.any,False)
  |_=>(.any,False)
 |.fa _ x off=>match ρ x with
  |.i (.elt cs o)=>(.i (.elt cs (o+off)),True)
  |.ref (.loc nm o)=>(.ref (.loc nm (o+off)),True)
  |.ref (.lel nm k row o)=>(.ref (.lel nm k row (o+off)),True)
  |_=>(.any,False)
 |.ia _ s i k=>match ρ s,ρ i with
  |.i (.sl rows),.i (.int _ n)=>(.i (.elt (rows.getD n.toNat []) 0),(0<=n/\n<rows.length)/\(rows.getD n.toNat []).length=k)
  |.ref (.sl nm k0 lo hi),.i (.int _ n)=>match σ nm with
   |some (.rows _ k' _)=>(.ref (.lel nm k (lo+n.toNat) 0),k'=k/\k0=k/\(0<=n/\n<((hi-lo:Nat):Int)))
   |_=>(.any,False)
  |_,_=>(.any,False)
 |.fld _ x off k ag=>match ρ x with
  |.i (.agg cs)=>(.i (pk ag cs off k),off+k<=cs.length)
  |_=>(.any,False)
 |.aidx _ x i k len ag=>match ρ x,ρ i with
  |.i (.agg cs),.i (.int _ n)=>(.i (pk ag cs (n.toNat*k) k),(0<=n/\n<(len:Int))/\n.toNat*k+k<=cs.length)
  |_,_=>(.any,False)
 |.sh _ op x y=>match ρ x,ρ y with
  |.i (.int k a),.i (.int _ b)=>(.i (vO op k a b),0<=b)
  |_,_=>(.any,False)
 |.min _ x y=>match ρ x,ρ y with
  |.i (.int k a),.i (.int _ b)=>(.i (.int k (if b<a then b else a)),True)
  |_,_=>(.any,False)
 |.slc _ x lo hi k=>match ρ x with
  |.i (.sl rows)=>match YK (lo.map ρ),YQ rows.length (hi.map ρ)with
   |some l,some h=>(.i (.sl ((rows.take h.toNat).drop l.toNat)),(∀r∈rows,r.length=k)/\(0<=l/\l<=h/\h<=(rows.length:Int)))
   |_,_=>(.any,False)
  |.ref (.sl nm k0 a c)=>match σ nm with
   |some (.rows _ k' rs)=>match YK (lo.map ρ),YQ ((c-a:Nat):Int) (hi.map ρ)with
    |some l,some h=>(.ref (.sl nm k (a+l.toNat) (a+h.toNat)),k'=k/\k0=k/\(0<=l/\l<=h/\h<=((rs.length-a:Nat):Int)))
    |_,_=>(.any,False)
   |some (.arr _ k' rs)=>match YK (lo.map ρ),YQ ((c-a:Nat):Int) (hi.map ρ)with
    |some l,some h=>(.ref (.sl nm k (a+l.toNat) (a+h.toNat)),k'=k/\k0=k/\(0<=l/\l<=h/\h<=((rs.length-a:Nat):Int)))
    |_,_=>(.any,False)
   |_=>(.any,False)
  |_=>(.any,False)
 |.sslc _ x lo hi=>match ρ x with
  |.i (.str s)=>match YK (lo.map ρ),YQ s.length (hi.map ρ)with
   |some l,some h=>(.i (.str ((s.take h.toNat).drop l.toNat)),0<=l/\l<=h/\h<=(s.length:Int))
   |_,_=>(.any,False)
  |_=>(.any,False)
 |.lookup _ x key zero ok ls=>match ρ key with
  |.i q=>match ρ x with
   |.i .nilmap=>(.i (CB [] q zero ok),Au ls q=true)
   |.i (.map es)=>(.i (CB es q zero ok),Au ls q=true/\(∀e∈es,Au ls e.1=true))
   |.ref (.mp nm)=>match σ nm with
    |some (.map ls' es)=>(.i (CB es q zero ok),Au ls q=true/\ls'=ls)
    |_=>(.any,False)
   |_=>(.any,False)
  |_=>(.any,False)
 |.lenm _ x=>match ρ x with
  |.i .nilmap=>(.i (.int .i64 0),True)
  |.i (.map es)=>(.i (.int .i64 es.length),True)
  |.ref (.mp nm)=>match σ nm with
   |some (.map _ es)=>(.i (.int .i64 es.length),True)
   |_=>(.any,False)
  |_=>(.any,False)
 |.idx _ s i=>match ρ s,ρ i with
  |.i (.str l),.i (.int _ n)=>(.i (.int .u8 ((l.getD n.toNat 0).toNat:Int)),0<=n/\n<l.length)
  |_,_=>(.any,False)
 |.bin _ op x y=>match ρ x,ρ y with
  |.i a,.i b=>(.i (B3 op a b),CA op a b)
  |_,_=>(.any,False)
 |.eqs _ neg ls x y=>match ρ x,ρ y with
  |.i (.agg a),.i (.agg b)=>match eqL ls a b with
   |some r=>(.i (.bool (if neg then !r else r)),True)
   |none=>(.any,False)
  |_,_=>(.any,False)
 |.eqb _ neg x y=>match ρ x,ρ y with
  |.i (.bool a),.i (.bool b)=>(.i (.bool (if neg then !(a==b)else a==b)),True)
  |_,_=>(.any,False)
 |.un _ op x=>match op,ρ x with
  |.not,.i (.bool b)=>(.i (.bool !b),True)
  |.neg,.i (.int k n)=>(.i (.int k (k.wrap (0-n))),True)
  |_,_=>(.any,False)
 |.lens _ x=>match ρ x with
  |.i (.str s)=>(.i (.int .i64 s.length),True)
  |_=>(.any,False)
 |.lenl _ x=>match ρ x with
  |.i (.sl rows)=>(.i (.int .i64 rows.length),True)
  |.ref (.sl _ _ lo hi)=>(.i (.int .i64 ((hi-lo:Nat):Int)),True)
  |.i .nilsl=>(.i (.int .i64 0),True)
  |_=>(.any,False)
 |.ext _ x i=>match ρ x with
  |.i (.tup vs)=>(.i (vs.getD i .undef),i<vs.length)
  |.tup cs=>((cs.getD i .any).toD,i<cs.length)
  |_=>(.any,False)
 |.bsn _ _ k ps=>(.i (.sl (ps.map fun o=>cellsI (FB (ρ o)))),(!ps.isEmpty&&(ps.all fun o=>G5 (ρ o)&&((cellsI (FB (ρ o))).length==k)&&(cellsI (FB (ρ o))).all I.one))=true)
 |.build _ zs parts=>(.i (.agg (Ed zs (parts.map fun p=>(p.1,cellsI (FB (ρ p.2.2)))))),(parts.all fun p=>G5 (ρ p.2.2)&&((cellsI (FB (ρ p.2.2))).length==p.2.1))=true)
 |.mkfn _ f first caps=>match first.mapM fun o=>BE (ρ o),caps.mapM fun o=>BE (ρ o)with
  |some a,some b=>(wC f a b,True)
  |_,_=>(.any,False)
 |.max _ x y=>match ρ x,ρ y with
  |.i (.int k a),.i (.int _ b)=>(.i (.int k (if b>a then b else a)),True)
  |_,_=>(.any,False)
 |.conv _ k x=>match ρ x with
  |.i (.int _ n)=>(.i (.int k (k.wrap n)),True)
  |_=>(.any,False)
 |.iaa _ x i k len=>match ρ x,ρ i with
  |.i (.elt cs o),.i (.int _ n)=>(.i (.elt cs (o+n.toNat*k)),0<=n/\n<(len:Int))
  |.ref (.loc nm o),.i (.int _ n)=>(.ref (.loc nm (o+n.toNat*k)),0<=n/\n<(len:Int))
  |.ref (.lel nm kk row o),.i (.int _ n)=>(.ref (.lel nm kk row (o+n.toNat*k)),0<=n/\n<(len:Int))
  |_,_=>(.any,False)
 |.bytes _ x=>match ρ x with
  |.i (.str s)=>(.i (.sl (rowsB s)),True)
  |_=>(.any,False)
 |.ofb _ x=>match ρ x with
  |.i (.sl rows)=>match ND rows with
   |some l=>(.i (.str l),True)
   |none=>(.any,False)
  |_=>(.any,False)
 |_=>(.any,False)
def Bp:Ins->Option Nat
 |.mov d _|.pick d _ _ _|.load d _ _ _|.fa d _ _|.ia d _ _ _|.idx d _ _|.bin d _ _ _|.eqs d _ _ _ _|.eqb d _ _ _|.un d _ _|.lens d _|.lenl d _|.ext d _ _
 |.bsn d _ _ _|.build d _ _|.mkfn d _ _ _|.max d _ _|.min d _ _|.conv d _ _|.fld d _ _ _ _|.aidx d _ _ _ _ _|.sh d _ _ _|.slc d _ _ _ _|.sslc d _ _ _|.lookup d _ _ _ _ _|.lenm d _|.iaa d _ _ _ _|.bytes d _|.ofb d _=>some d
 |_=>none
theorem L9{ins:Ins}{d:Nat}(hd:Bp ins=some d)(st:St)(K:St->Prop):
  step P GL ins st K↔(pv (AL GL st) (Ac st.sto) ins).2/\K (st.put d (pv (AL GL st) (Ac st.sto) ins).1):=by
 cases ins<;>simp only[Bp,Option.some.injEq,reduceCtorEq]at hd<;>subst hd<;>simp only[step,pv]
 case mov=>simp
 case pick d c a b=>unfold Db;split<;>simp_all[br];rename_i t _;cases t<;>simp
 case load=>unfold Gm;split<;>simp_all<;>first|(unfold Hd;split<;>simp_all[and_assoc])|(unfold Ju;split<;>simp_all[and_assoc])
 case fa=>unfold rI;split<;>simp_all
 case fld=>unfold LS;split<;>simp_all
 case ia=>unfold rP;split<;>simp_all[and_assoc];unfold vP;split<;>simp_all[and_assoc]
 case idx=>unfold In;split<;>simp_all
 case aidx=>unfold LT;split<;>simp_all[and_assoc]
 case bin=>unfold Io;split<;>simp_all
 case sh=>unfold rV;split<;>simp_all
 case eqs=>unfold Iq;split<;>simp_all;unfold Ip;split<;>simp_all
 case eqb=>unfold Hf;split<;>simp_all
 case un=>unfold rJ;split<;>simp_all
 case lens=>unfold Ir;split<;>simp_all
 case lenl=>unfold Gp;split<;>simp_all
 case ext=>unfold Gq;split<;>simp_all
 case mkfn=>unfold It;split<;>simp_all
 case max=>unfold Ef;split<;>simp_all
 case min=>unfold Ef;split<;>simp_all
 case conv=>unfold Iu;split<;>simp_all
 case slc=>unfold Iw;split<;>simp_all[DH];(split<;>simp_all[and_assoc]);unfold Jy;split<;>simp_all[DH]<;>(split<;>simp_all[and_assoc])
 case sslc=>unfold LU;split<;>simp_all[DH];split<;>simp_all[and_assoc]
 case lookup=>unfold DY;split<;>simp_all[];split<;>simp_all[and_assoc];unfold E3;split<;>simp_all[and_assoc]
 case lenm=>unfold Jz;split<;>simp_all;unfold KH;split<;>simp_all
 case iaa=>unfold JE;split<;>simp_all[and_assoc]
 case bytes=>unfold IA;split<;>simp_all
 case ofb=>unfold LV;split<;>simp_all;unfold KI;split<;>simp_all
def Bm:Ins->List O
 |.mov _ x=>[x]
 |.pick _ c a b=>[c,a,b]
 |.load _ x _ _=>[x]
 |.fa _ x _=>[x]
 |.ia _ s i _=>[s,i]
 |.idx _ s i=>[s,i]
 |.bin _ _ x y=>[x,y]
 |.eqs _ _ _ x y=>[x,y]
 |.eqb _ _ x y=>[x,y]
 |.un _ _ x=>[x]
 |.lens _ x=>[x]
 |.lenl _ x=>[x]
 |.ext _ x _=>[x]
 |.bsn _ _ _ ps=>ps
 |.build _ _ ps=>ps.map (·.2.2)
 |.mkfn _ _ first caps=>first++caps
 |.max _ x y=>[x,y]
 |.conv _ _ x=>[x]
 |.min _ x y=>[x,y]
 |.fld _ x _ _ _=>[x]
 |.aidx _ x i _ _ _=>[x,i]
 |.sh _ _ x y=>[x,y]
 |.slc _ x lo hi _=>x::(lo.toList++hi.toList)
 |.sslc _ x lo hi=>x::(lo.toList++hi.toList)
 |.lookup _ x k _ _ _=>[x,k]
 |.lenm _ x=>[x]
 |.iaa _ x i _ _=>[x,i]
 |.bytes _ x=>[x]
 |.ofb _ x=>[x]
 |.call _ _ args=>args
 |.callv _ f args=>f::args
 |.callo _ _ args=>args
 |.callf _ _ args=>args
 |.callvf _ f args=>f::args
 |.store x v _=>[x,v]
 |.mupd x k v _=>[x,k,v]
 |_=>[]
theorem P3{ins:Ins}{ρ ρ':O->D}{σ σ':Nat->Option Blk}(hρ:∀o∈Bm ins,ρ o=ρ' o)(hσ:∀o∈Bm ins,∀nm∈(ρ o).nms,σ nm=σ' nm):pv ρ σ ins=pv ρ' σ' ins:=by
 cases ins<;>simp only[Bm,List.mem_cons,List.not_mem_nil,or_false,forall_eq_or_imp,forall_eq]at hρ hσ<;>simp only[pv]
 case load=>rw[hρ]at hσ;rw[hρ];split<;>simp_all[D.nms,Ref.nm]
 case ia=>rw[hρ.1]at hσ;rw[hρ.1,hρ.2];split<;>simp_all[D.nms,Ref.nm]
 case slc x lo hi k=>
  have e1:lo.map ρ=lo.map ρ':=by cases lo with|none=>rfl|some z=>simp[hρ.2 z (by simp)]
  have e2:hi.map ρ=hi.map ρ':=by cases hi with|none=>rfl|some z=>simp[hρ.2 z (by simp)]
  have h0:=hσ.1;rw[hρ.1]at h0;rw[e1,e2,hρ.1];split<;>simp_all[D.nms,Ref.nm]
 case sslc x lo hi=>
  have e1:lo.map ρ=lo.map ρ':=by cases lo with|none=>rfl|some z=>simp[hρ.2 z (by simp)]
  have e2:hi.map ρ=hi.map ρ':=by cases hi with|none=>rfl|some z=>simp[hρ.2 z (by simp)]
  rw[e1,e2,hρ.1]
 case lookup=>rw[hρ.1,hρ.2]at hσ;rw[hρ.1,hρ.2];split<;>simp_all[D.nms,Ref.nm];split<;>simp_all[]
 case lenm=>rw[hρ]at hσ;rw[hρ];split<;>simp_all[D.nms,Ref.nm]
 case bsn k ps=>
  have e1:(ps.map fun o=>cellsI (FB (ρ o)))=ps.map fun o=>cellsI (FB (ρ' o)):=List.map_congr_left (fun p hp=>by rw[hρ p hp])
  have e2:(ps.all fun o=>G5 (ρ o)&&((cellsI (FB (ρ o))).length==k)&&(cellsI (FB (ρ o))).all I.one)=(ps.all fun o=>G5 (ρ' o)&&((cellsI (FB (ρ' o))).length==k)&&(cellsI (FB (ρ' o))).all I.one):=by grind
  rw[e1,e2]
 case build ps=>
  have e:∀p∈ps,ρ p.2.2=ρ' p.2.2:=fun p hp=>hρ _ (List.mem_map.2 ⟨p,hp,rfl⟩)
  have e1:(ps.map fun p=>(p.1,cellsI (FB (ρ p.2.2))))=ps.map fun p=>(p.1,cellsI (FB (ρ' p.2.2))):=List.map_congr_left (fun p hp=>by rw[e p hp])
  have e2:(ps.all fun p=>G5 (ρ p.2.2)&&((cellsI (FB (ρ p.2.2))).length==p.2.1))=(ps.all fun p=>G5 (ρ' p.2.2)&&((cellsI (FB (ρ' p.2.2))).length==p.2.1)):=by grind
  rw[e1,e2]
 case mkfn f first caps=>
  have e1:∀l:List O,(∀o∈l,ρ o=ρ' o)->(l.mapM fun o=>BE (ρ o))=l.mapM fun o=>BE (ρ' o):=by
   intro l
   induction l with
   |nil=>intro _;rfl
   |cons x l ih=>intro h;rw[List.mapM_cons,List.mapM_cons,h x (by simp),ih fun o ho=>h o (by simp[ho])]
  rw[e1 _ fun o ho=>hρ o (List.mem_append.2 (.inl ho)),e1 _ fun o ho=>hρ o (List.mem_append.2 (.inr ho))]
 all_goals simp_all
end
end Go.Dl
