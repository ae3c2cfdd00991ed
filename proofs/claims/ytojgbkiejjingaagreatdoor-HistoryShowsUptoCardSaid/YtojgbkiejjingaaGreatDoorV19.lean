/-Lemmas.-/
import Derived.Test.YtojgbkiejjingaaGreatDoorV18
set_option linter.all false
set_option maxRecDepth 100000
set_option maxHeartbeats 8000000
namespace Go.Proofs.YtojgbkiejjingaaGreatDoor
open Go Go.Dl Go.As Go.Proofs
variable {mx:Int}
attribute[local irreducible] Ah Ai MC W2 Fq ev evD step Ad
section
theorem Uw{l:List AQ}{s:AQ}{k:Nat}(h:HL l s=k):BY l s=if k<l.length/\l.getD k default=s then l else l.take k++[s]++l.drop k:=by rw[<-h];rfl
theorem Ux{α:Type}(f:α->List I){l:List α}{s:α}{k:Nat}(h:k<=l.length):List.take (k+1+(l.length-k)) (List.take (k+1) (List.map f (List.take k l)++[f s])++List.map f (List.drop k l))=List.map f (List.take k l++[s]++List.drop k l):=by have e1:List.take (k+1) (List.map f (List.take k l)++[f s])=List.map f (List.take k l)++[f s]:=Zgf (by simp;omega);rw[e1,Zgf (by simp;omega),Zez,Zez];rfl
theorem Uy(l:List AQ)(s:AQ)(hl:l.length<=1073741823):Is mx 306 [.sl (l.map BC),.str s] (.sl ((BY l s).map BC)):=by
 refine MX qF ?_;refine Od ?_;refine lT [0,1] (fun k:Nat=>[(5,.i (iI k))]) (fun _=>[]) (fun k=>k<=l.length/\(l.take k).all (fun y=>Op.bytesLess y s)=true) (fun k=>l.length-k) 0 ?_;rintro k ⟨hk,jj⟩;by_cases jk:k<l.length
 ·cases kz:Op.bytesLess (l.getD k default) s
  ·have kp:HL l s=k:=Jp jj hk (.inr kz);by_cases wd:l.getD k default=s
   ·have jo:BY l s=l:=by rw[Uw kp,Zaa ⟨jk,wd⟩]
    rw[jo]
    (repeat' first|simp(disch:=omega)only[go_sem,simprocAttr,BV jk,kz,Za8 wd,Zg8]|refine Ac ?_|refine Sz.s ?_|fail)
   ·have jo:BY l s=l.take k++[s]++l.drop k:=by rw[Uw kp,Zac];rintro⟨_,h⟩;exact wd h
    rw[jo];have vq:min k l.length=k:=by omega
    have hleT:(k<=l.length)=True:=Za8 (by omega)
    (repeat' first|simp(disch:=omega)only[go_sem,simprocAttr,BV jk,kz,Za9 wd,<-Ze7,<-Ze2,Q9,Ra,Pg,Ph,Zes,Zex,Zen,Zg8,Zg6,Zg0,Zgd,Zgi,vq]|refine Ac ?_|refine Sz.s ?_|(refine And.intro ?_ ?_;focus omega))
    exact Zae I.sl (Ux BC hk)
  ·refine A8 (cj (BV jk) kz) ?_;exact⟨k+1,⟨by omega,BW (d:=default) jj jk kz⟩,by omega,rfl⟩
 ·have kp:HL l s=k:=Jp jj hk (.inl (by omega));have jo:BY l s=l.take k++[s]++l.drop k:=by rw[Uw kp,Zac];omega
  rw[jo];have vq:min k l.length=k:=by omega
  have hleT:(k<=l.length)=True:=Za8 (by omega)
  (repeat' first|simp(disch:=omega)only[go_sem,simprocAttr,Hi jk,<-Ze7,<-Ze2,Q9,Ra,Pg,Ph,Zes,Zex,Zen,Zg8,Zg6,Zg0,Zgd,Zgi,vq]|refine Ac ?_|refine Sz.s ?_|(refine And.intro ?_ ?_;focus omega))
  exact Zae I.sl (Ux BC hk)
mutual
def EP:Xpr->List AQ×List AQ->List AQ×List AQ
 |.mk k _ n t _ _ _ _ a,acc=>dirRs a (if k=3\/k=4 then BY acc.1 n else acc.1,if k=5 then BY acc.2 t else acc.2)
def dirRs:List Xpr->List AQ×List AQ->List AQ×List AQ
 |[],acc=>acc
 |x::r,acc=>dirRs r (EP x acc)
end
def Gj(x:Xpr)(acc:List AQ×List AQ):List AQ×List AQ:=(if x.kind=3\/x.kind=4 then BY acc.1 x.name else acc.1,if x.kind=5 then BY acc.2 x.table else acc.2)
theorem Z3(x:Xpr)(acc:List AQ×List AQ):EP x acc=dirRs x.args (Gj x acc):=by cases x;rfl
theorem Z4(x:Xpr)(acc:List AQ×List AQ):(Gj x acc).1.length<=acc.1.length+1/\(Gj x acc).2.length<=acc.2.length+1:=by grind[T9,Gj]
mutual
theorem Uz:∀(x:Xpr) (acc:List AQ×List AQ),(EP x acc).1.length<=acc.1.length+Bj x/\(EP x acc).2.length<=acc.2.length+Bj x
 |.mk k o n t v u p w a,acc=>by have h1:=Z4 (.mk k o n t v u p w a) acc;have h2:=dirRs_len a (Gj (.mk k o n t v u p w a) acc);rw[Z3];have h3:=D3 (.mk k o n t v u p w a);simp only[Xpr.args]at h3⊢;omega
theorem dirRs_len:∀(a:List Xpr) (acc:List AQ×List AQ),(dirRs a acc).1.length<=acc.1.length+sizeXs a/\(dirRs a acc).2.length<=acc.2.length+sizeXs a
 |[],acc=>by simp[dirRs,sizeXs]
 |x::r,acc=>by have h1:=Uz x acc;have h2:=dirRs_len r (EP x acc);grind[dirRs,sizeXs]
end
theorem vD(l:List Xpr)(i:Nat)(h:i<l.length)(acc:List AQ×List AQ):dirRs (l.take (i+1)) acc=EP (l.getD i default) (dirRs (l.take i) acc):=by
 induction l generalizing i acc with
 |nil=>simp at h
 |cons x r ih=>
  cases i with
  |zero=>simp[dirRs]
  |succ i=>simp only[Zgg,dirRs,Zdw];exact ih i (by simpa using h) _
def Rt(r:List AQ×List AQ):I:=.tup [.sl (r.1.map BC),.sl (r.2.map BC)]
theorem vE:∀(m:Nat) (x:Xpr) (acc:List AQ×List AQ),Bj x<=m->acc.1.length+Bj x<=1073741823->acc.2.length+Bj x<=1073741823->Is mx 308 [.agg (eE x),.sl (acc.1.map BC),.sl (acc.2.map BC)] (Rt (EP x acc)):=by
 intro m
 induction m with
 |zero=>intro x acc h;have:=E8 x;omega
 |succ m ih=>
  intro x acc hm k6 jy;have j0:=D3 x;have je:=M5 x.args;have hp:=E8 x;have h1:=Uy (mx:=mx) acc.1 x.name (by omega);have h2:=Uy (mx:=mx) acc.2 x.table (by omega);have hH:=Z4 x acc;rw[Z3];have hd:Gj x acc=(if x.kind=3\/x.kind=4 then BY acc.1 x.name else acc.1,if x.kind=5 then BY acc.2 x.table else acc.2):=rfl;generalize Gj x acc=q at hH hd;refine MX nZ ?_;refine Od ?_;refine Dl.cutS [2,3] (by simp only[V0,JK,reduceIte,Nat.reduceEqDiff];rfl) [(1,.i (.sl (q.1.map BC)))] [] True ?_ (fun _=>?_)
  ·rw[hd];refine EV h1 (cj ?_ ?_)
   ·intro h h';rw[Zaa h']
   ·intro _ _;rw[Zac (by omega)]
  refine Od ?_;refine Dl.cutS [1,3] (by simp only[V0,JK,reduceIte,Nat.reduceEqDiff];rfl) [(2,.i (.sl (q.2.map BC)))] [] True ?_ (fun _=>?_)
  ·rw[hd];refine EV h2 (cj ?_ ?_)
   ·intro h h';rw[Zaa h']
   ·intro h h';rw[Zac h']
  refine Od ?_;refine lS [3] (fun i=>[(8,.i (iI i)),(1,.i (.sl ((dirRs (x.args.take i) q).1.map BC))),(2,.i (.sl ((dirRs (x.args.take i) q).2.map BC)))]) (fun _=>[]) (fun _=>True) x.args.length ?_;intro i hi _;have ji:=E7 x.args (i+1);have hle0:=E7 x.args i;have xc:=dirRs_len (x.args.take i) q;by_cases ja:i<x.args.length
  ·have hsi:=GW x.args i ja;rw[<-AK ja]at hsi;have i1:=ih (x.args.getD i default) (dirRs (x.args.take i) q) (by omega) (by omega) (by omega);have hT:=vD x.args i ja q;refine Ka (cj i1 (cj (BV ja) @Rt.eq_1)) ?_;rw[hT];exact⟨rfl,rfl⟩
  ·have e:x.args.take i=x.args:=Zgf (by omega);rw[e];exact FU (cj (Hi ja) @Rt.eq_1) trivial
end
section
def Nv(b:Bool)(nm:Nat)(l:List AQ):D:=if b=true then .i (.sl (l.map BC))else .ref (.sl nm 1 0 0)
def Nw(b:Bool)(nm:Nat):List (Nat×Blk):=if b=true then[]else[(nm,.rows 9 1 [])]
def Gk(l:List Ftr)(acc:List AQ):List AQ:=l.foldl (fun acc f=>BY acc f.name) acc
def AW(c:Cat):List AQ:=Gk c.features []
theorem Ru:∀(l:List Ftr) (acc:List AQ),(Gk l acc).length<=acc.length+l.length
 |[],acc=>by simp[Gk]
 |f::r,acc=>by have h1:=Ru r (BY acc f.name);grind[T9,Gk]
theorem vF(l:List Ftr)(i:Nat)(h:i<l.length)(acc:List AQ):Gk (l.take (i+1)) acc=BY (Gk (l.take i) acc) (l.getD i default).name:=by rw[Zgh h,Gk,Zds,AK h];rfl
theorem vG(c:Cat)(hc:c.features.length<=1073741823):Is mx 271 [.agg (Ap c)] (.sl ((AW c).map BC)):=by
 refine MX nU ?_
 (repeat' first|simp(disch:=omega)only[go_sem,reduceCtorEq,Nat.reduceEqDiff]|fail)
 refine A4 [1] (by simp only[V0,JK,reduceIte,Nat.reduceEqDiff];rfl) (fun g:Bool×Nat=>[(3,Nv g.1 3 (Gk (c.features.take g.2) [])),(4,.i (iI g.2))]) (fun g=>Nw g.1 3)
  (fun g=>g.2<=c.features.length/\(g.1=false->g.2=0)) (fun g=>c.features.length-g.2) (false,0) (by simp) (by simp[Nv,Nw,V0,H0,JJ,Ref.nm]) ?_
 rintro⟨b,i⟩ ⟨hi,hb⟩;simp only at hi hb;have je:=Ru (c.features.take i) [];rw[Zex,Zeu]at je;by_cases ja:i<c.features.length
 ·have h1:=Uy (mx:=mx) (Gk (c.features.take i) []) (c.features.getD i default).name (by omega);rw[<-vF _ _ ja]at h1;cases b
  ·obtain rfl:=hb rfl;simp only[Nv,Nw];simp only[Zgj,Gk,Zdu,Ze5]at h1
   (repeat' first|simp(disch:=omega)only[go_sem,Nat.reduceAdd,Nat.reduceEqDiff,Nat.reduceLeDiff,BV ja,Zad,Zag,Zb4]|refine Ab (h1) ?_|refine Ac ?_|refine OS ?_ ?_|fail)
   exact⟨(true,1),⟨ja,by simp⟩,by show c.features.length-1<_;omega,⟨rfl,rfl⟩,trivial,rfl,rfl⟩
  ·simp only[Nv,Nw];refine AU (cj h1 (BV ja)) ?_;exact⟨(true,i+1),⟨ja,by simp⟩,by show c.features.length-(i+1)<_;omega,⟨rfl,rfl⟩,trivial,rfl,rfl⟩
 ·have e:c.features.take i=c.features:=Zgf (by omega);rw[e];cases b
  ·obtain rfl:=hb rfl;have e2:c.features=[]:=Zdf (by omega);simp only[Nv,Nw,AW,e2]
   (repeat' first|simp(disch:=omega)only[go_sem,Nat.reduceAdd,Nat.reduceEqDiff,Nat.reduceLeDiff,Zad,Zag,Zb4,Zeu,Zcl]|refine Ac ?_|refine HA (R:=fd _) ?_|fail)
   all_goals(try rfl)
  ·simp only[Nv,Nw,AW];exact A8 (Hi ja) trivial
def IA(c:Cat)(name:AQ):Xpr:=((BL c.features name).getD Cs).body
def FK(c:Cat)(name:AQ):List AQ:=(EP (IA c name) ([],[])).1.filter fun n=>(BL c.features n).isSome
theorem Z5{c:Cat}(hc:AR c<=1073741824)(name:AQ):bX (IA c name)<=1073741823:=by
 unfold IA BL;cases h:c.features.find? fun f=>decide (f.name=name)with
 |none=>simp;decide
 |some f=>grind[BR,B4,Bd,G2]
theorem Rv{α:Type}[Inhabited α](p:α->Bool)(l:List α)(i:Nat)(h:i<l.length):(l.take (i+1)).filter p=if p (l.getD i default)=true then(l.take i).filter p++[l.getD i default]else(l.take i).filter p:=by rw[Zgh h,Zdi,AK h];grind
theorem vH(c:Cat)(name:AQ)(hc:AR c<=1073741824):Is mx 272 [.agg (Ap c),.str name] (.sl ((FK c name).map BC)):=by
 have hcf:c.features.length<=1073741824:=by grind[BR,C1]
 have hbo:=Z5 hc name;have j0:=M7 (IA c name);have h1:=Z2 (mx:=mx) c name hcf;have h2:=vE (mx:=mx) _ (IA c name) ([],[]) (Zgu _) (by simp;omega) (by simp;omega);have xc:=Uz (IA c name) ([],[]);have hR:FK c name=(EP (IA c name) ([],[])).1.filter fun n=>(BL c.features n).isSome:=rfl
 simp only[Zeu,Zg8]at xc;unfold IA at h2 hR xc j0 hbo;generalize hF:(BL c.features name).getD Cs=F at h2 hR xc j0 hbo;generalize (EP F.body ([],[]))=q at h2 hR xc;rw[hR];simp only[Nu,hF,Ze5]at h1 h2;refine MX pf ?_;refine EV (cj h1 (cj h2 @Rt.eq_1)) ?_;refine lT [2,7] (fun i:Nat=>[(9,.ref (.sl 9 1 0 ((q.1.take i).filter fun n=>(BL c.features n).isSome).length)),(10,.i (iI i))]) (fun i=>[(9,.rows 9 1 (((q.1.take i).filter fun n=>(BL c.features n).isSome).map BC))]) (fun i=>i<=q.1.length) (fun i=>q.1.length-i) 0 ?_;intro i hi;have vn:((q.1.take i).filter fun n=>(BL c.features n).isSome).length<=i:=Zgw (Zer _ _) (by simp;omega);by_cases ja:i<q.1.length
 ·have h3:=Z2 (mx:=mx) c (q.1.getD i default) hcf;have hft:=Rv (fun n=>(BL c.features n).isSome) q.1 i ja;generalize (q.1.take i).filter (fun n=>(BL c.features n).isSome)=acc at hft vn;cases hs:(BL c.features (q.1.getD i default)).isSome
  ·rw[Zac (by rw[hs];simp)]at hft;refine FU (cj h3 (cj (BV ja) (cj @Nu.eq_1 hs))) ?_;exact⟨i+1,by omega,by omega,by rw[hft];exact⟨rfl,rfl⟩,by rw[hft]⟩
  ·rw[Zaa hs]at hft;refine lY (cj h3 (cj (BV ja) (cj @Nu.eq_1 (cj hs (cj @Pg @Ph))))) ?_;exact⟨i+1,by omega,by omega,by rw[hft];exact⟨by simp,rfl⟩,by rw[hft];simp⟩
 ·have e:q.1.take i=q.1:=Zgf (by omega);rw[e];exact A8 (Hi ja) trivial
end
section
abbrev IB(k:Nat):List I:=[iI (k:Int)]
abbrev Px(r:List Nat):List I:=[.sl (r.map IB)]
def LU(ns:List AQ)(l:List AQ):List Nat:=(List.range ns.length).filter fun k=>Bm l (ns.getD k default)
def VI(c:Cat)(ns:List AQ):List (List Nat):=ns.map fun n=>LU ns (FK c n)
theorem vI(ns:List AQ)(l:List AQ)(k:Nat):((List.range (k+1)).filter fun k=>Bm l (ns.getD k default))=if Bm l (ns.getD k default)=true then((List.range k).filter fun k=>Bm l (ns.getD k default))++[k]else((List.range k).filter fun k=>Bm l (ns.getD k default)):=by rw[Zf4,Zdi];grind
theorem vJ(c:Cat)(hc:AR c<=1073741823)(hn:(AW c).length<=1073741823)(hnx:∀n,(FK c n).length<=1073741823):Is mx 239 [.agg (Ap c)] (.tup [.sl ((AW c).map BC),.sl ((VI c (AW c)).map Px)]):=by
 have hcf:c.features.length<=1073741823:=by grind[BR,C1]
 have h1:=vG (mx:=mx) c hcf;generalize hns:AW c=ns at h1 hn;refine MX oY ?_;refine EV h1 ?_;refine lT [1,4] (fun i:Nat=>[(5,.ref (.sl 5 1 0 i)),(6,.i (iI i))]) (fun i=>[(5,.rows 152 1 (((VI c ns).take i).map Px))]) (fun i=>i<=ns.length) (fun i=>ns.length-i) 0 ?_;intro i hi;have hla:((VI c ns).take i).length=i:=by grind[VI]
 by_cases ja:i<ns.length
 ·have h2:=vH (mx:=mx) c (ns.getD i default) (by omega);have hl2:=hnx (ns.getD i default);have hto:(VI c ns).take (i+1)=(VI c ns).take i++[LU ns (FK c (ns.getD i default))]:=by simp only[VI];rw[<-Ze7,<-Ze7,Zgh ja,Zez,AK ja];rfl
  generalize FK c (ns.getD i default)=nx at h2 hl2 hto;refine FU (cj h2 (BV ja)) ?_;refine lT [1,4,5,6,7] (fun k:Nat=>[(8,.ref (.sl 8 1 0 ((List.range k).filter fun k=>Bm nx (ns.getD k default)).length)),(9,.i (iI k))]) (fun k=>[(8,.rows 3 1 (((List.range k).filter fun k=>Bm nx (ns.getD k default)).map IB)),(5,.rows 152 1 (((VI c ns).take i).map Px))]) (fun k=>k<=ns.length) (fun k=>ns.length-k) 0 ?_;intro k hk;have vn:((List.range k).filter fun k=>Bm nx (ns.getD k default)).length<=k:=Zgw (Zer _ _) (by simp);by_cases jk:k<ns.length
  ·have h3:=vC (mx:=mx) nx (ns.getD k default) (by omega);have xd:=vI ns nx k;generalize ws:(List.range k).filter (fun k=>Bm nx (ns.getD k default))=acc at xd vn;cases hs:Bm nx (ns.getD k default)
   ·rw[Zac (by rw[hs];simp)]at xd;refine EV (cj h3 (cj (BV jk) hs)) ?_;exact⟨k+1,by omega,by omega,by rw[xd];exact⟨rfl,rfl⟩,by rw[xd]⟩
   ·rw[Zaa hs]at xd;refine AU (cj h3 (cj (BV jk) hs)) ?_;refine⟨by simp,by simp[I.one],by omega,by omega,k+1,by omega,by omega,by rw[xd];exact⟨by simp,rfl⟩,by rw[xd];simp[]⟩
  ·have qe:k=ns.length:=by omega
   have hadj:(List.range ns.length).filter (fun k=>Bm nx (ns.getD k default))=LU ns nx:=rfl;rw[qe,hadj];have hnF:¬ns.length<ns.length:=by omega
   have hlm:((LU ns nx).map IB).length=(LU ns nx).length:=by simp
   refine A8 (cj (Hi hnF) (cj hlm hla)) ?_;refine⟨by simp,by simp[I.one],by omega,by omega,i+1,by omega,by omega,⟨rfl,rfl⟩,?_⟩;rw[hto];simp[Zgi]
 ·have e:(VI c ns).take i=VI c ns:=Zgf (by simp[VI];omega);rw[e];rw[e]at hla;refine FU (cj (Hi ja) hla) ?_;rw[Zgf (by simp;omega)]
def eX(target:Nat)(d:List Nat)(t:Nat):Nat:=if t=target then 1 else d.getD t 0+1
def C7(target i:Nat)(d:List Nat)(t:Nat):List Nat:=if eX target d t<d.getD i 0 then d.set i (eX target d t)else d
def CT(target i:Nat)(r:List Nat)(d:List Nat):List Nat:=r.foldl (C7 target i) d
def Cb(to:List (List Nat))(target n:Nat)(d:List Nat):List Nat:=(List.range n).foldl (fun d i=>CT target i (to.getD i []) d) d
def CA:List Nat->Nat
 |[]=>0
 |a::r=>a+CA r
theorem Z6:∀(d:List Nat) (i v:Nat),i<d.length->CA (d.set i v)+d.getD i 0=CA d+v
 |[],i,v,h=>by simp at h
 |a::r,0,v,h=>by grind[CA]
 |a::r,i+1,v,h=>by have:=Z6 r i v (by simpa using h);grind[CA]
theorem vK(target i:Nat)(d:List Nat)(t:Nat):(C7 target i d t).length=d.length:=by grind[C7]
theorem UA(target i:Nat)(d:List Nat)(t:Nat):CA (C7 target i d t)<=CA d/\(C7 target i d t≠d->CA (C7 target i d t)<CA d):=by grind[CA,Z6,C7]
theorem UB(target i:Nat):∀(r:List Nat) (d:List Nat),(CT target i r d).length=d.length
 |[],d=>rfl
 |t::r,d=>by simp only[CT,Zdt];have:=UB target i r (C7 target i d t);rw[CT]at this;rw[this,vK]
theorem Py(target i:Nat):∀(r:List Nat) (d:List Nat),CA (CT target i r d)<=CA d/\(CT target i r d≠d->CA (CT target i r d)<CA d)
 |[],d=>⟨Zgu _,fun h=>(h rfl).elim⟩
 |t::r,d=>by have h1:=UA target i d t;have h2:=Py target i r (C7 target i d t);grind[CT,C7]
theorem Ny(to:List (List Nat))(target n:Nat)(d:List Nat):Cb to target (n+1) d=CT target n (to.getD n []) (Cb to target n d):=by simp only[Cb,Zf4,Zds,Zdt,Zdu]
theorem UC(to:List (List Nat))(target:Nat):∀(n:Nat) (d:List Nat),(Cb to target n d).length=d.length
 |0,d=>rfl
 |n+1,d=>by rw[Ny,UB,UC to target n d]
theorem LV(to:List (List Nat))(target:Nat):∀(n:Nat) (d:List Nat),CA (Cb to target n d)<=CA d/\(Cb to target n d≠d->CA (Cb to target n d)<CA d)
 |0,d=>⟨Zgu _,fun h=>(h rfl).elim⟩
 |n+1,d=>by have h1:=LV to target n d;grind[Py,Cb,Ny]
def EQ(to:List (List Nat))(target:Nat):Nat->List Nat->List Nat
 |0,d=>d
 |f+1,d=>if Cb to target to.length d=d then d else EQ to target f (Cb to target to.length d)
theorem Z7(to:List (List Nat))(target:Nat):∀(f:Nat) (d:List Nat),CA d<=f->Cb to target to.length (EQ to target f d)=EQ to target f d
 |0,d,h=>by
  have:=(LV to target to.length d);rcases Classical.em (Cb to target to.length d=d)with e|e
  ·exact e
  ·have:=this.2 e;omega
 |f+1,d,h=>by
  unfold EQ;split
  ·assumption
  ·rename_i jg;have:=(LV to target to.length d).2 jg;exact Z7 to target f _ (by omega)
theorem Z8(to:List (List Nat))(target:Nat):∀(f:Nat) (d:List Nat),CA d<=f->EQ to target f d=if Cb to target to.length d=d then d else EQ to target f (Cb to target to.length d)
 |0,d,h=>by
  split
  ·rfl
  ·rename_i jg;have:=(LV to target to.length d).2 jg;omega
 |f+1,d,h=>by
  rw[EQ];split
  ·rfl
  ·rename_i jg;have jn:=(LV to target to.length d).2 jg;rw[Z8 to target f _ (by omega),EQ]
def A2(to:List (List Nat))(target:Nat):List Nat:=EQ to target (1000*to.length) (List.replicate to.length 1000)
end
section
def IC(d:List Nat):Prop:=∀x∈d,x<=1000
theorem vL{target i:Nat}{d:List Nat}{t:Nat}(h:IC d):IC (C7 target i d t):=by
 unfold C7;split
 ·rename_i jn;intro x hx;rcases Zfm hx with e|e
  ·exact h x e
  ·have:d.getD i 0<=1000:=by
    rcases Zgz i d.length with q|q
    ·rw[List.getD,Zd2 q];exact h _ (Zef q)
    all_goals grind
   omega
 ·exact h
theorem UD{target i:Nat}:∀{r:List Nat} {d:List Nat},IC d->IC (CT target i r d)
 |[],d,h=>h
 |t::r,d,h=>UD (target:=target) (i:=i) (r:=r) (d:=C7 target i d t) (vL h)
theorem UE{to:List (List Nat)}{target:Nat}:∀{n:Nat} {d:List Nat},IC d->IC (Cb to target n d)
 |0,d,h=>h
 |n+1,d,h=>by rw[Ny];exact UD (UE h)
theorem vM(target i:Nat)(r d:List Nat)(k:Nat)(h:k<r.length):CT target i (r.take (k+1)) d=C7 target i (CT target i (r.take k) d) (r.getD k default):=by rw[Zgh h,CT,Zds,AK h];rfl
theorem Z9(n v:Nat):CA (List.replicate n v)=n*v:=by
 induction n with
 |zero=>simp[CA]
 |succ n ih=>rw[Zf5,CA,ih,Zg7];omega
def Jt(n i:Nat):List Nat:=List.replicate i 1000++List.replicate (n-i) 0
theorem vN{n i:Nat}(h:i<n):(Jt n i).set i 1000=Jt n (i+1):=by unfold Jt;rw[show n-i=(n-(i+1))+1 by omega,Zf5,List.set_append_right _ _ (by simp)];simp only[Zew,Zg5,List.set_cons_zero];rw[List.replicate_succ',Zc0];rfl
theorem ab(to:List (List Nat))(target:Nat)(hn:to.length<=1000000)(ht:target<to.length)(hr:∀r∈to,r.length<=1000000/\∀t∈r,t<to.length):Is mx 240 [.sl (to.map Px),iI target] (.sl ((A2 to target).map IB)):=by
 refine MX p3 ?_
 (repeat' first|simp(disch:=omega)only[go_sem,simprocAttr]|(refine And.intro ?_ ?_;focus omega))
 refine A4 [0,1,5] (by simp only[V0,JK,reduceIte,Nat.reduceEqDiff];rfl) (fun i:Nat=>[(6,.i (iI i))]) (fun i=>[(13,.rows 3 1 ((Jt to.length i).map IB))])
  (fun i=>i<=to.length) (fun i=>to.length-i) 0 (by simp) (by simp[V0,H0,JJ,Ref.nm,Jt]) ?_
 intro i hi;have vn:(Jt to.length i).length=to.length:=by grind[Jt]
 by_cases ja:i<to.length
 ·refine La (cj (BV ja) vn) ?_;refine⟨i+1,by omega,by omega,rfl,?_⟩;rw[Zg8,<-vN ja,Ze6];rfl
 ·have hii:i=to.length:=by omega
  subst hii;have hf:Jt to.length to.length=List.replicate to.length 1000:=by simp[Jt]
  rw[hf];refine FU (Hi ja) ?_;refine A4 [0,1,5] (by simp only[V0,JK,reduceIte,Nat.reduceEqDiff];rfl) (fun g:Bool×List Nat=>[(7,.i (.bool g.1))]) (fun g=>[(13,.rows 3 1 (g.2.map IB))])
   (fun g=>g.2.length=to.length/\IC g.2/\CA g.2<=1000*to.length/\(g.1=true->EQ to target (1000*to.length) g.2=A2 to target)/\(g.1=false->g.2=A2 to target)) (fun g=>if g.1=true then CA g.2+1 else 0) (true,List.replicate to.length 1000)
   ⟨by simp,(fun x hx=>by rw[Zdg hx];omega),by rw[Z9];omega,fun _=>rfl,by simp⟩ (by simp[V0,H0,JJ,Ref.nm]) ?_
  rintro⟨b,d⟩ ⟨xc,ji,hsum,k6,jy⟩;simp only at xc ji hsum k6 jy;cases b
  ·have hd:=jy rfl;rw[<-hd];have hleT:(to.length<=d.length)=True:=Za8 (by omega);refine FU hleT ?_;rw[Zgf (by rw[Zes,xc];exact Zgu _)]
  ·have jf:=Z8 to target (1000*to.length) d hsum;rw[k6 rfl]at jf;refine eS ?_;refine lT [0,1,5] (fun i:Nat=>[(7,.i (.bool (!decide (Cb to target i d=d)))),(8,.i (iI i))]) (fun i=>[(13,.rows 3 1 ((Cb to target i d).map IB))]) (fun i=>i<=to.length) (fun i=>to.length-i) 0 ?_;intro i hi;have hDl:=UC to target i d;have hDle:=UE (to:=to) (target:=target) (n:=i) ji;have hDs:=LV to target i d;by_cases ja:i<to.length
   ·have jv:=hr _ (At ja);have hss:=Ny to target i d;have hgd:to.getD i []=to.getD i default:=rfl;rw[hgd]at hss;generalize hrw:to.getD i default=row at jv hss;generalize hD:Cb to target i d=D at hDl hDle hDs hss
    (repeat' first|simp(disch:=omega)only[go_sem,simprocAttr,BV ja]|refine Ac ?_|fail)
    refine A4 [0,1,5,8] (by simp only[V0,JK,reduceIte,Nat.reduceEqDiff];rfl) (fun k:Nat=>[(7,.i (.bool (!decide (CT target i (row.take k) D=d)))),(9,.i (iI k))]) (fun k=>[(13,.rows 3 1 ((CT target i (row.take k) D).map IB))])
     (fun k=>k<=row.length) (fun k=>row.length-k) 0 (by simp) (by simp[V0,H0,JJ,Ref.nm,CT];try rfl) ?_
    intro k hk;have hEl:=UB target i (row.take k) D;have hEle:=UD (target:=target) (i:=i) (r:=row.take k) hDle;have hEs:=Py target i (row.take k) D;by_cases jk:k<row.length
    ·have hrt:=vM target i row D k jk;have hti:=jv.2 _ (At jk);generalize CT target i (row.take k) D=E at hEl hEle hEs hrt;generalize hgt:row.getD k default=t at hti hrt;have hEn:E.length=to.length:=by omega
     have htE:t<E.length:=by omega
     have hiE:i<E.length:=by omega
     have hv:=hEle _ (At htE);have hw:=hEle _ (At hiE);have hvia:eX target E t=if t=target then 1 else E.getD t default+1:=rfl
     have hx1:=UA target i E t;have hgi:E.getD i 0=E.getD i default:=rfl;have hx2:C7 target i E t=if eX target E t<E.getD i default then E.set i (eX target E t)else E:=rfl
     have qa:∀v:Nat,(E.map IB).set i [I.int .i64 (v:Int)]=(E.set i v).map IB:=fun v=>by simp
     have hwr:IntKind.i64.wrap (((E.getD t default:Nat):Int)+1)=((E.getD t default+1:Nat):Int):=B3 (by omega) (by omega);have hup:∀v,eX target E t=v->v<E.getD i default->CT target i (row.take (k+1)) D=E.set i v/\(!decide (CT target i (row.take (k+1)) D=d))=true:=fun v hv1 hv2=>by grind
     have hno:¬eX target E t<E.getD i default->CT target i (row.take (k+1)) D=E:=fun hv1=>by grind
     have htT:(t<to.length)=True:=Za8 hti;have hiT:(i<to.length)=True:=Za8 ja
     (repeat' first|simp(disch:=omega)only[go_sem,simprocAttr,BV ja,BV jk,hrw,hgt,BV hti,hEn,htT,hiT,Zg8,Zg6]|refine Sx.s ?_ ?_<;>try(intro h;have h':=h;try simp only[HB]at h';try rewrite [h];try simp only[h])|refine Ac ?_|fail)
     ·obtain⟨e1,e2⟩:=hup 1 (by rw[hvia,Zaa (by omega)]) (by omega);exact⟨k+1,by omega,by omega,⟨by rw[e2],rfl⟩,by rw[e1,<-qa];rfl⟩
     ·have e1:=hno (by rw[hvia,Zaa (by omega)];omega);exact⟨k+1,by omega,by omega,⟨by rw[e1],rfl⟩,by rw[e1]⟩
     ·obtain⟨e1,e2⟩:=hup (E.getD t default+1) (by rw[hvia,Zac (by omega)]) (by omega);exact⟨k+1,by omega,by omega,⟨by rw[e2],rfl⟩,by rw[e1,<-qa];rfl⟩
     ·have e1:=hno (by rw[hvia,Zac (by omega)];omega);exact⟨k+1,by omega,by omega,⟨by rw[e1],rfl⟩,by rw[e1]⟩
    ·have e:row.take k=row:=Zgf (by omega);rw[e];refine FU (cj (BV ja) (cj (Hi jk) hrw)) ?_;refine⟨i+1,by omega,by omega,?_,?_⟩
     ·rw[hss];exact⟨rfl,rfl⟩
     ·rw[hss]
   ·have hii:i=to.length:=by omega
    subst hii;refine FU (Hi ja) ?_;refine⟨(!decide (Cb to target to.length d=d),Cb to target to.length d),⟨by show(Cb to target to.length d).length=_;omega,hDle,by show CA (Cb to target to.length d)<=_;omega,?_,?_⟩,?_,rfl,rfl⟩
    ·intro hq;simp only[Zb7,Za4]at hq;rw[Zac hq]at jf;exact jf.symm
    ·intro hq;simp only[Zb6,Za0]at hq;rw[Zaa hq]at jf;show Cb to target to.length d=_;rw[hq,<-jf]
    ·by_cases hq:Cb to target to.length d=d
     ·simp[hq]
     ·have:=hDs.2 hq;simp[hq];exact this
end
section
theorem ac(to:List (List Nat))(target:Nat):∀(f:Nat) (d:List Nat),(EQ to target f d).length=d.length
 |0,d=>rfl
 |f+1,d=>by
  unfold EQ;split
  ·rfl
  ·rw[ac to target f,UC]
theorem ad{to:List (List Nat)}{target:Nat}:∀{f:Nat} {d:List Nat},IC d->IC (EQ to target f d)
 |0,d,h=>h
 |f+1,d,h=>by
  unfold EQ;split
  ·exact h
  ·exact ad (UE h)
theorem Kz(to:List (List Nat))(target:Nat):(A2 to target).length=to.length:=by simp[A2,ac]
theorem af(to:List (List Nat))(target:Nat):IC (A2 to target):=ad fun x hx=>by grind
theorem vO(to:List (List Nat))(target:Nat):Cb to target to.length (A2 to target)=A2 to target:=Z7 _ _ _ _ (by rw[Z9,Zg2];exact Zgu _)
theorem ai(to:List (List Nat))(target:Nat):∀(n:Nat) (d:List Nat),Cb to target n d=d->∀i,i<n->CT target i (to.getD i []) d=d
 |0,d,h,i,hi=>by omega
 |n+1,d,h,i,hi=>by
  have h1:=LV to target n d;have h2:=Py target n (to.getD n []) (Cb to target n d);rw[Ny]at h;have e:Cb to target n d=d:=by
   refine Zcg fun hq=>?_
   have:=h1.2 hq;rw[h]at h2;omega
  rw[e]at h;by_cases j9:i=n
  ·rw[j9];exact h
  ·exact ai to target n d e i (by omega)
theorem aj(target i:Nat):∀(r:List Nat) (d:List Nat),CT target i r d=d->∀t∈r,C7 target i d t=d
 |[],d,h,t,ht=>by simp at ht
 |s::r,d,h,t,ht=>by
  have h1:=UA target i d s;have h2:=Py target i r (C7 target i d s);have hh:CT target i r (C7 target i d s)=d:=h;have e:C7 target i d s=d:=by
   refine Zcg fun hq=>?_
   have:=h1.2 hq;rw[hh]at h2;omega
  rcases Zfb.1 ht with e1|e1
  ·rw[e1];exact e
  ·rw[e]at hh;exact aj target i r d hh t e1
theorem vQ(target:Nat)(d:List Nat)(t:Nat):1<=eX target d t:=by grind[eX]
theorem Rx{to:List (List Nat)}{target i t:Nat}(hi:i<to.length)(ht:t∈to.getD i []):(A2 to target).getD i 0<=eX target (A2 to target) t:=by have h1:=aj target i _ _ (ai to target to.length _ (vO to target) i hi) t ht;grind[C7,A2,eX]
def Ju(to:List (List Nat))(target:Nat)(d:List Nat):Prop:=∀i,i<d.length->1<=d.getD i 0/\(d.getD i 0=1000\/∃t∈to.getD i [],eX target d t<=d.getD i 0)
theorem getD_set(d:List Nat)(i j v:Nat)(hj:j<d.length):(d.set i v).getD j 0=if i=j then v else d.getD j 0:=by grind
theorem ak{target:Nat}{d:List Nat}{i v t:Nat}(hv:v<d.getD i 0):eX target (d.set i v) t<=eX target d t:=by grind[eX]
theorem vR{to:List (List Nat)}{target i t:Nat}{d:List Nat}(h:Ju to target d)(ht:t∈to.getD i []):Ju to target (C7 target i d t):=by
 unfold C7;split
 ·rename_i jn;intro j hj;have jp:j<d.length:=by simpa using hj
  rw[getD_set _ _ _ _ jp];split
  ·rename_i e;exact⟨vQ _ _ _,.inr ⟨t,by rw[<-e];exact ht,ak jn⟩⟩
  ·obtain⟨h1,h2⟩:=h j jp;refine⟨h1,h2.imp id ?_⟩;rintro⟨u,hu1,hu2⟩;exact⟨u,hu1,Zgw (ak jn) hu2⟩
 ·exact h
theorem am{to:List (List Nat)}{target i:Nat}:∀(r:List Nat) {d:List Nat},Ju to target d->(∀t∈r,t∈to.getD i [])->Ju to target (CT target i r d)
 |[],d,h,_=>h
 |s::r,d,h,hs=>am r (vR h (hs s Zfd)) fun t ht=>hs t (Zfc _ ht)
theorem ao{to:List (List Nat)}{target:Nat}:∀(n:Nat) {d:List Nat},Ju to target d->Ju to target (Cb to target n d)
 |0,d,h=>h
 |n+1,d,h=>by rw[Ny];exact am _ (ao n h) fun t ht=>ht
theorem ap{to:List (List Nat)}{target:Nat}:∀{f:Nat} {d:List Nat},Ju to target d->Ju to target (EQ to target f d)
 |0,d,h=>h
 |f+1,d,h=>by
  unfold EQ;split
  ·exact h
  ·exact ap (ao _ h)
theorem Nz(to:List (List Nat))(target:Nat):Ju to target (A2 to target):=by
 refine ap fun i hi=>?_
 grind
def Ch(to:List (List Nat)):Nat->Int×Nat
 |0=>(-1,1000)
 |i+1=>if(A2 to i).getD i 0<(Ch to i).2 then((i:Int),(A2 to i).getD i 0)else Ch to i
theorem Ry(to:List (List Nat)):∀n,((Ch to n).1=-1/\(Ch to n).2=1000)\/(∃i:Nat,(Ch to n).1=(i:Int)/\i<n/\(Ch to n).2=(A2 to i).getD i 0/\(Ch to n).2<1000)
 |0=>.inl ⟨rfl,rfl⟩
 |n+1=>by
  have h:=Ry to n;simp only[Ch];split
  ·rename_i jn;refine .inr ⟨n,rfl,by omega,rfl,?_⟩;rcases h with⟨_,h⟩|⟨_,_,_,_,h⟩<;>(simp only;omega)
  ·rcases h with⟨h1,h2⟩|⟨i,h1,h2,h3,h4⟩
   ·exact .inl ⟨h1,h2⟩
   ·exact .inr ⟨i,h1,by omega,h3,h4⟩
def LW(to:List (List Nat))(d:List Nat)(at_ n:Nat):Nat:=((to.getD at_ []).takeWhile fun t=>!decide (d.getD t 0=n)).length
def LX(to:List (List Nat))(d:List Nat):Nat->Nat->List Nat
 |0,_=>[]
 |n+1,at_=>(to.getD at_ []).getD (LW to d at_ (n+1)) 0::LX to d n ((to.getD at_ []).getD (LW to d at_ (n+1)) 0)
def Pz(ns:List AQ)(to:List (List Nat)):List AQ:=
 if(Ch to ns.length).1<0 then[]else
  ns.getD (Ch to ns.length).1.toNat default::(LX to (A2 to (Ch to ns.length).1.toNat) ((Ch to ns.length).2-1) (Ch to ns.length).1.toNat).map fun k=>ns.getD k default
theorem aq(ns:List AQ)(to:List (List Nat)):Pz ns to=[]↔(Ch to ns.length).1<0:=by simp[Pz]
theorem vS{to:List (List Nat)}{target at_ n:Nat}(hi:at_<to.length)(hd:(A2 to target).getD at_ 0=n+1)(hn:1<=n)(h999:n+1<1000):
  LW to (A2 to target) at_ n<(to.getD at_ []).length/\(A2 to target).getD ((to.getD at_ []).getD (LW to (A2 to target) at_ n) 0) 0=n:=by
 obtain⟨_,h2⟩:=Nz to target at_ (by rw[Kz];exact hi);rcases h2 with h2|⟨t,ht,h2⟩
 ·omega
 ·have h3:=Rx (target:=target) hi ht;have hv:eX target (A2 to target) t=n+1:=by omega
  have ht2:(A2 to target).getD t 0=n:=by grind[eX]
  have qd:∃x∈to.getD at_ [],¬(fun t=>!decide ((A2 to target).getD t 0=n)) x=true:=⟨t,ht,by show¬(!decide ((A2 to target).getD t 0=n))=true;rw[Za5 ht2];decide⟩;unfold LW;generalize to.getD at_ []=row at qd;clear h2 h3 ht
  induction row with
  |nil=>obtain⟨x,hx,_⟩:=qd;simp at hx
  |cons a r ih=>
   by_cases ha:(A2 to target).getD a 0=n
   ·rw[Zf7,Zac (by rw[Za5 ha];decide)];exact⟨by simp,ha⟩
   ·rw[Zf7,Zaa (by rw[Zba ha];rfl)];obtain⟨x,hx,hx2⟩:=qd;rcases Zfb.1 hx with e|e
    ·subst e;exact absurd (Zcg fun hq=>hx2 (by show(!decide ((A2 to target).getD x 0=n))=true;rw[Zba hq];rfl)) ha
    ·have:=ih ⟨x,e,hx2⟩;simp only[Zem,Zdw];exact⟨by omega,this.2⟩
end
section
@[go_sem] theorem aJ7(d e k:Nat)(rows:List (List I))(st:St)(K:St->Prop):JU none d e k rows st K=K ((st.bind d (.rows e k rows)).put d (.ref (.sl d k 0 rows.length))):=rfl
theorem Rz{α:Type}[Inhabited α]{p:α->Bool}{l:List α}{i:Nat}(h:(l.take i).all p=true)(hi:i<l.length)(hp:p (l.getD i default)=false):(l.takeWhile p).length=i:=Jp h (by omega) (.inr hp)
theorem vT(c:Cat)(ns:List AQ)(to:List (List Nat))(hn:ns.length<=1000000)(hnt:ns.length=to.length)(hr:∀r∈to,r.length<=1000000/\∀t∈r,t<to.length)
  (h1:Is mx 239 [.agg (Ap c)] (.tup [.sl (ns.map BC),.sl (to.map Px)])):Is mx 185 [.agg (Ap c)] (.sl ((Pz ns to).map BC)):=by
 refine MX pP ?_;refine EV h1 ?_;refine lT [3,4] (fun i:Nat=>[(5,.i (iI (Ch to i).1)),(6,.i (iI ((Ch to i).2:Int))),(7,.i (iI i))]) (fun _=>[]) (fun i=>i<=ns.length) (fun i=>ns.length-i) 0 ?_;intro i hi;by_cases ja:i<ns.length
 ·have hit:i<to.length:=by omega
  have h2:=ab (mx:=mx) to i (by omega) hit hr;have je:=Kz to i;have ji:=af to i;have hb:Ch to (i+1)=if(A2 to i).getD i 0<(Ch to i).2 then((i:Int),(A2 to i).getD i 0)else Ch to i:=rfl
  have hgi:(A2 to i).getD i 0=(A2 to i).getD i default:=rfl;have hlT:((i:Int)<((A2 to i).length:Int))=True:=Za8 (by omega);have hnT:(i<(A2 to i).length)=True:=Za8 (by omega);have hv:=ji _ (At (n:=i) (l:=A2 to i) (by omega));rw[hgi]at hb;generalize A2 to i=d at h2 je ji hb hlT hnT hv;refine EV (cj h2 (cj (BV ja) hlT)) (cj ?_ ?_)
  ·intro _ _;rw[Zaa (by omega)]at hb;exact⟨i+1,by omega,by omega,by rw[hb],by rw[hb],rfl⟩
  ·intro _ _;rw[Zac (by omega)]at hb;exact⟨i+1,by omega,by omega,by rw[hb],by rw[hb],rfl⟩
 ·have j9:i=ns.length:=by omega
  subst j9;have hC:Pz ns to=if(Ch to ns.length).1<0 then[]else
   ns.getD (Ch to ns.length).1.toNat default::(LX to (A2 to (Ch to ns.length).1.toNat) ((Ch to ns.length).2-1) (Ch to ns.length).1.toNat).map fun k=>ns.getD k default:=rfl
  rcases Ry to ns.length with⟨k6,jy⟩|⟨b,k6,jy,hb3,hb4⟩
  ·rw[Zaa (by omega)]at hC;rw[hC];exact FU (cj (Hi ja) (cj k6 jy)) trivial
  ·rw[Zac (by omega),k6,Zco]at hC;generalize hq:(Ch to ns.length).2=q at hC hb3 hb4;have hbt:b<to.length:=by omega
   have h2:=ab (mx:=mx) to b (by omega) hbt hr;have je:=Kz to b;have ji:=af to b;have hnx:=fun(a n:Nat)=>vS (to:=to) (target:=b) (at_:=a) (n:=n)
   have hq1:1<=q:=by have:=(Nz to b b (by omega)).1;omega
   generalize A2 to b=d at h2 je ji hnx hC hb3;have hbF:((b:Int)<0)=False:=Za9 (by omega);rw[hC];have hq12:((q-1:Nat):Int)=(q:Int)-1:=by omega
   refine EV (cj h2 (cj (Hi ja) (cj k6 (cj hbF (cj (BV jy) @BC.eq_1))))) ?_;refine A4 [3,4,9] (by simp only[V0,JK,reduceIte,Nat.reduceEqDiff];rfl) (fun g:Nat×Nat×List AQ=>[(10,.ref (.sl 45 1 0 g.2.2.length)),(11,.i (iI g.2.1)),(12,.i (iI g.1))]) (fun g=>[(45,.rows 9 1 (g.2.2.map BC))])
    (fun g=>(g.1<1000/\1<=g.2.2.length)/\g.2.1<to.length/\d.getD g.2.1 0=g.1+1/\g.2.2.length+g.1=q/\g.2.2++(LX to d g.1 g.2.1).map (fun k=>ns.getD k default)=ns.getD b default::(LX to d (q-1) b).map fun k=>ns.getD k default) (fun g=>g.1) (q-1,b,[ns.getD b default])
    ⟨⟨by show q-1<_;omega,Zgu _⟩,hbt,by show d.getD b 0=q-1+1;omega,by show 1+(q-1)=q;omega,rfl⟩ (by simp[V0,H0,JJ,Ref.nm];omega) ?_
   rintro⟨n,a,acc⟩ ⟨⟨hn1,hn0⟩,ha,hda,hal,ws⟩;simp only at hn1 hn0 ha hda hal ws;have han:a<ns.length:=by omega
   cases n with
   |zero=>simp only[LX,Ze5,Zc1]at ws;have htl:List.take acc.length (acc.map BC)=acc.map BC:=Zgf (by simp);refine FU (cj @Zcm (cj @Zcl htl)) ?_;rw[ws];rfl
   |succ n=>
    have hx:=hnx a (n+1) ha hda (by omega) (by omega);have hga:to.getD a []=to.getD a default:=rfl;simp only[LX,Ze1]at ws;rw[hga]at hx ws;have jv:=hr _ (At ha);have hp:(0:Int)<(n:Int)+1:=by omega
    have hnextd:LW to d a (n+1)=((to.getD a default).takeWhile fun t=>!decide (d.getD t 0=n+1)).length:=rfl;generalize LW to d a (n+1)=j at hx ws hnextd;generalize hrw:to.getD a default=row at hx ws jv hnextd;refine FU hp ?_;refine lT [3,4,9,10,11,12] (fun k:Nat=>[(13,.i (iI k))]) (fun _=>[(45,.rows 9 1 (acc.map BC))]) (fun k=>k<=j/\(row.take k).all (fun t=>!decide (d.getD t 0=n+1))=true) (fun k=>j-k) 0 ?_ (by simp);rintro k ⟨hk,jj⟩;have hkr:k<row.length:=by omega
    have ht:=jv.2 _ (At hkr);have htT:(row.getD k default<to.length)=True:=Za8 ht;have htN:(row.getD k default<ns.length)=True:=Za8 (by omega);have hgd:∀t,d.getD t 0=d.getD t default:=fun _=>rfl
    by_cases he:d.getD (row.getD k default) default=n+1
    ·have hjk:j=k:=by grind[Rz]
     subst hjk;have heT:((d.getD (row.getD j default) default:Int)=(n:Int)+1)=True:=Za8 (by omega);have hgr:row.getD j 0=row.getD j default:=rfl;rw[hgr]at ws;generalize hgt:row.getD j default=t at ht htT htN he heT ws;have htT2:(t<to.length)=True:=Za8 ht;have htN2:(t<ns.length)=True:=Za8 (by omega)
     (repeat' first|simp(disch:=omega)only[go_sem,simprocAttr,BV ha,BV hkr,hrw,hgt,BV ht,je,hnt,Zg6]|refine Sx.s ?_ ?_<;>try(intro h;have h':=h;try simp only[HB]at h';try rewrite [h];try simp only[h])|refine Ac ?_|fail)
     ·exfalso;omega
     ·exact⟨by simp,by simp[I.one],by omega,by omega,(n,t,acc++[ns.getD t default]),⟨⟨by show n<1000;omega,by simp⟩,ht,by show d.getD t 0=n+1;exact he,by simp;omega,by rw[<-ws,Zc0];rfl⟩,by show n<n+1;omega,⟨by simp,rfl,by show D.i (I.int .i64 ((n:Int)+1-1))=D.i (iI n);congr 2;omega⟩,by simp⟩
    ·have heF:((d.getD (row.getD k default) default:Int)=(n:Int)+1)=False:=Za9 (by omega);generalize hgt:row.getD k default=t at ht htT htN he heF;have htT2:(t<to.length)=True:=Za8 ht
     (repeat' first|simp(disch:=omega)only[go_sem,simprocAttr,BV ha,BV hkr,hrw,hgt,BV ht,je,Zg6]|refine Sx.s ?_ ?_<;>try(intro h;have h':=h;try simp only[HB]at h';try rewrite [h];try simp only[h])|refine Ac ?_|(refine And.intro ?_ ?_;focus omega))
     ·exact⟨k+1,⟨by
       have:j≠k:=fun e=>he (by
        subst e;have:=hx.2;rw[show row.getD j 0=t from hgt]at this;exact this)
       omega,BW (d:=default) jj hkr (by show(!decide (d.getD (row.getD k default) 0=n+1))=true;rw[hgt];exact(by rw[Zba he];rfl:(!decide (d.getD t default=n+1))=true))⟩,by
       have:j≠k:=fun e=>he (by
        subst e;have:=hx.2;rw[show row.getD j 0=t from hgt]at this;exact this)
       omega,rfl⟩
     ·exfalso;omega
end
section
def G6(c:Cat):List AQ:=Pz (AW c) (VI c (AW c))
theorem vU{c:Cat}(hc:AR c<=1073741823)(n:AQ):(FK c n).length<=1073741823:=by grind[Uz,IA,Z5,M7,FK,EP]
theorem vV(c:Cat)(hc:AR c<=1073741823)(hf:c.features.length<=1000):Is mx 185 [.agg (Ap c)] (.sl ((G6 c).map BC)):=by
 have hn:(AW c).length<=c.features.length:=by grind[Ru,AW]
 have hl:(VI c (AW c)).length=(AW c).length:=by simp[VI]
 refine vT c (AW c) (VI c (AW c)) (by omega) hl.symm ?_ (vJ c hc (by omega) (vU hc));intro r hr;obtain⟨s,_,rfl⟩:=Zfh.1 hr;refine⟨Zgw (Zer _ _) (by simp;omega),fun t ht=>?_⟩;rw[hl];have:=(Zfe.1 ht).1;grind
def B5(c:Cat):List Ftr:=c.features++c.drafts++c.past
theorem CU(f:Ftr):(Af f).length=18:=by obtain⟨_,_,_,b,_⟩:=f;cases b;simp[Af,Aq,eE]
theorem C2(f:Ftr):(Af f).all I.one=true:=by obtain⟨_,_,_,b,_⟩:=f;cases b;simp[Af,Aq,eE,I.one]
theorem vW(c:Cat)(h1:c.features.length<=1073741)(h2:c.drafts.length<=1073741)(h3:c.past.length<=1073741):Is mx 182 [.agg (Ap c)] (.sl ((B5 c).map Af)):=by
 have ha:=A1 c.features CU C2;have hb:=A1 c.drafts CU C2;have hp:=A1 c.past CU C2;have t1:List.take (c.features.length+c.drafts.length) (c.features.map Af++c.drafts.map Af)=c.features.map Af++c.drafts.map Af:=Zgf (by simp);have t2:List.take (c.features.length+c.drafts.length+c.past.length) (c.features.map Af++c.drafts.map Af++c.past.map Af)=c.features.map Af++c.drafts.map Af++c.past.map Af:=Zgf (by simp;omega);refine MX mC ?_
 (repeat' first|simp(disch:=omega)only[go_sem,simprocAttr,Za8 ha.1,Za8 ha.2,Za8 hb.1,Za8 hb.2,Za8 hp.1,Za8 hp.2,Zg8,Zg6,Zes,Zel,Zeu,t1,t2]|refine Sz.s ?_|(refine And.intro ?_ ?_;focus omega))
 simp only[B5,Zez]
def VQ(a b:AQ):Bool:=Op.bytesLess a b||decide (a=b)
def gtP(p:Option AQ)(n:AQ):Bool:=match p with|none=>false|some m=>VQ n m
def G7:Option AQ->List Tbl->Int
 |_,[]=>0
 |p,t::r=>if Gf t≠0 then Gf t else if gtP p t.name=true then 1 else G7 (some t.name) r
theorem ar(p:Option AQ)(t:Tbl)(r:List Tbl):G7 p (t::r)=if Gf t≠0 then Gf t else if gtP p t.name=true then 1 else G7 (some t.name) r:=rfl
def FL(l:List Tbl)(i:Nat):Option AQ:=if i=0 then none else some (l.getD (i-1) default).name
theorem vX(c:Cat)(hc:AR c<=1073741824):Is mx 181 [.agg (Ap c)] (iI (G7 none c.tables)):=by
 have hl:c.tables.length<=1073741824:=by grind[BR,G3]
 refine MX pO ?_;refine Od ?_;refine lT [1] (fun i:Nat=>[(3,.i (iI i))]) (fun _=>[]) (fun i=>i<=c.tables.length/\G7 (FL c.tables i) (c.tables.drop i)=G7 none c.tables) (fun i=>c.tables.length-i) 0 ?_ ⟨by omega,rfl⟩;rintro i ⟨hi,jb⟩;by_cases ja:i<c.tables.length
 ·have hm:=At ja;have hb:Dh (c.tables.getD i default)<=1073741824:=by grind[BR,B4,Dh]
  have h1:=ul (mx:=mx) (c.tables.getD i default) (fun f hf=>by have h1:=HO (c.tables.getD i default);have h2:=B4 (b:=FC) hf;have h3:=Nn f;omega) (by have h1:=HO (c.tables.getD i default);have:=Pn (c.tables.getD i default).fields;omega);rw[Dj ja,ar]at jb;have hnx:FL c.tables (i+1)=some (c.tables.getD i default).name:=by simp[FL]
  rw[<-hnx]at jb;by_cases h0:i=0
  ·subst h0;have hp0:gtP (FL c.tables 0) (c.tables.getD 0 default).name=false:=rfl;simp only[hp0,Zb4,Zag]at jb;have hz:(0:Int)<(c.tables.length:Int):=by omega
   refine EV (cj h1 (cj hz (cj @Zcm @Zcl))) (cj ?_ ?_)
   ·intro h h';rw[Zaa h']at jb;rw[<-jb]
   ·intro _ _;rw[Zac (by omega)]at jb;exact⟨1,⟨ja,by rw[<-jb]⟩,by omega,rfl⟩
  ·have hpr:FL c.tables i=some (c.tables.getD (i-1) default).name:=by simp[FL,h0]
   have hg:gtP (FL c.tables i) (c.tables.getD i default).name=(Op.bytesLess (c.tables.getD i default).name (c.tables.getD (i-1) default).name||decide ((c.tables.getD i default).name=(c.tables.getD (i-1) default).name)):=by rw[hpr];rfl
   rw[hg]at jb;have ju:(0:Int)<(i:Int):=by omega
   have kh:((i:Int)-1).toNat=i-1:=by omega
   have kg:(i:Int)-1=((i-1:Nat):Int):=by omega
   have hltp:i-1<c.tables.length:=by omega
   refine EV (cj h1 (cj (BV ja) (cj ju (cj kg (BV hltp))))) (cj ?_ (cj ?_ ?_))
   ·intro h h';rw[Zaa h']at jb;rw[<-jb]
   ·intro _ _ h h';rw[Zac (by omega),Zaa h]at jb;rw[<-jb]
   ·intro _ _ h h';rw[Zac (by omega),Zac (by rw[h];simp)]at jb;exact⟨i+1,⟨by omega,jb⟩,by omega,rfl⟩
 ·rw[Zda (by omega),show∀p,G7 p []=0 from fun p=>by cases p<;>rfl]at jb;rw[<-jb];exact FU (Hi ja) trivial
def Gl(f:Ftr):Int:=if(!(C6 f.name&&C6 f.entity)||decide (f.version<1)||decide (1099511627776<f.version))=true then 1 else if EM f.typ≠0 then EM f.typ else Fh f.body
theorem vY(f:Ftr)(hf:Bd f<=1073741824):Is mx 183 [.agg (Af f)] (iI (Gl f)):=by
 have h0:=G2 f;have h4:D4 f.typ=Ag AY f.typ.unit+f.typ.of.length+1:=rfl;have hl:=E9 f.typ.unit;have h1:=ZO (mx:=mx) f.body (by omega);have h2:=Ro (mx:=mx) f.typ (by omega) (fun y hy=>by have h1:=B4 (b:=AY) (l:=f.typ.unit) hy;have h2:AY y=y.name.length+1:=rfl;omega);have hR:=Gl.eq_1 f;refine MX nF ?_
 (repeat' first|exact Ao _|simp(disch:=omega)only[go_sem,simprocAttr]|refine' Av (fun hq=>?_) (fun f=>?_)<;>try(have jd:=hq;try simp only[HB]at jd)|refine Sx.s ?_ ?_<;>try(intro h;have h':=h;try simp only[HB]at h';try rewrite [h];try simp only[h])|refine Ab (Iw _) ?_|refine Ab (h1) ?_|refine Ab (h2) ?_|refine Ac ?_|refine Sz.s ?_|fail)
 all_goals(refine Zae (I.int .i64) ?_;rw[hR];first|done|(grind(splits:=20)))
end
section
def HQ(f:Ftr)(g:Ftr):Bool:=decide (g.name=f.name)&&decide (g.version=f.version)
def NA(nf np i:Nat):Bool:=decide (i=0)||decide (i=nf)||decide (i=np)
def HR(nf np i:Nat)(p f:Ftr):Bool:= !NA nf np i&&(Op.bytesLess f.name p.name||decide (i<np)&&decide (f.name=p.name))
def Em(nf np:Nat):List Ftr->List Ftr->Int
 |_,[]=>0
 |seen,f::r=>if Gl f≠0 then Gl f else if HR nf np seen.length (seen.getD (seen.length-1) default) f=true then 1 else if seen.any (HQ f)=true then 121 else Em nf np (seen++[f]) r
theorem au(nf np:Nat)(s:List Ftr):Em nf np s []=0:=by rfl
theorem UF(nf np:Nat)(seen:List Ftr)(f:Ftr)(r:List Ftr):Em nf np seen (f::r)=if Gl f≠0 then Gl f else if HR nf np seen.length (seen.getD (seen.length-1) default) f=true then 1 else if seen.any (HQ f)=true then 121 else Em nf np (seen++[f]) r:=by rfl
def DP(c:Cat):List Ftr->Int
 |[]=>0
 |f::r=>if Dz c f≠0 then Dz c f else DP c r
def G8(c:Cat):Int:=
 if 16<c.tables.length\/32<c.features.length\/32<c.drafts.length\/32<c.past.length then 2
 else if G7 none c.tables≠0 then G7 none c.tables
 else if Em c.features.length (c.features.length+c.drafts.length) [] (B5 c)≠0 then Em c.features.length (c.features.length+c.drafts.length) [] (B5 c)
 else if DP c c.features≠0 then DP c c.features
 else if G6 c≠[]then 120 else 0
theorem av{c:Cat}(hc:AR c<=1073741823){f:Ftr}(h:f∈B5 c):Bd f<=1073741823:=by grind[BR,B5,B4,Bd]
theorem UG{α:Type}[Inhabited α]{l:List α}{i j:Nat}(h:j<i)(hi:i<=l.length):(l.take i).getD j default=l.getD j default:=by grind
theorem BM{α:Type}[Inhabited α]{l:List α}{i:Nat}(h:i<l.length):l.take (i+1)=l.take i++[l.getD i default]:=by simp_all
theorem vZ(c:Cat)(hc:AR c<=1073741823):Is mx 129 [.agg (Ap c)] (iI (G8 c)):=by
 have hR:=G8.eq_1 c;have lt:=G3 c.tables;have lf:=C1 c.features;have ld:=C1 c.drafts;have lp:=C1 c.past;have hb:=BR c;have h1:=vX (mx:=mx) c (by omega);by_cases hlim:16<c.tables.length\/32<c.features.length\/32<c.drafts.length\/32<c.past.length
 ·rw[Zaa hlim]at hR;rw[hR];have hg:(decide ((16:Int)<(c.tables.length:Int))||decide ((32:Int)<(c.features.length:Int))||decide ((32:Int)<(c.drafts.length:Int))||decide ((32:Int)<(c.past.length:Int)))=true:=by grind
  refine MX Ys ?_
  (repeat' first|exact Ao _|simp(disch:=omega)only[go_sem,simprocAttr,hg]|refine' Av (fun hq=>?_) (fun f=>?_)<;>try(have jd:=hq;try simp only[HB]at jd)|refine Ac ?_|refine Sz.s ?_|fail)
  all_goals(exfalso;simp_all)
 ·rw[Zac hlim]at hR;have hg:(decide ((16:Int)<(c.tables.length:Int))||decide ((32:Int)<(c.features.length:Int))||decide ((32:Int)<(c.drafts.length:Int))||decide ((32:Int)<(c.past.length:Int)))=false:=by grind
  have h2:=vW (mx:=mx) c (by omega) (by omega) (by omega);have h3:=vV (mx:=mx) c hc (by omega);have hvl:(B5 c).length=c.features.length+c.drafts.length+c.past.length:=by grind[B5]
  have hvb:=fun f=>av (c:=c) hc (f:=f)
  have hcf:=fun f (h:f∈c.features)=>B4 (b:=Bd) h
  generalize B5 c=all at h2 hR hvl hvb;have hnpI:(c.features.length:Int)+(c.drafts.length:Int)=((c.features.length+c.drafts.length:Nat):Int):=by omega
  generalize hnp:c.features.length+c.drafts.length=np at hR hvl hnpI;refine MX Ys ?_
  (repeat' first|exact Ao _|simp(disch:=omega)only[go_sem,simprocAttr,hg,hnpI]|refine' Av (fun hq=>?_) (fun f=>?_)<;>try(have jd:=hq;try simp only[HB]at jd)|refine Sx.s ?_ ?_<;>try(intro h;have h':=h;try simp only[HB]at h';try rewrite [h];try simp only[h])|refine Ab (h1) ?_|refine Ab (h2) ?_|refine Ac ?_|refine Sz.s ?_|fail)
  ·rw[hR,Zaa h']
  rw[Zac (by omega)]at hR;refine lT [1,4,5] (fun i:Nat=>[(6,.i (iI i))]) (fun _=>[]) (fun i=>i<=all.length/\Em c.features.length np (all.take i) (all.drop i)=Em c.features.length np [] all) (fun i=>all.length-i) 0 ?_;rintro i ⟨hi,jb⟩;by_cases ja:i<all.length
  ·have hm:=At ja;have h4:=vY (mx:=mx) (all.getD i default) (by have:=hvb _ hm;omega);rw[Dj ja,UF,<-BM ja,Zex,Nat.min_eq_left hi]at jb;have hfst:(decide ((i:Int)=0)||decide ((i:Int)=(c.features.length:Int))||decide ((i:Int)=(np:Int)))=NA c.features.length np i:=by grind[NA]
   have hmid:∀(K:Prop),((Gl (all.getD i default)=0/\HR c.features.length np i ((all.take i).getD (i-1) default) (all.getD i default)=false)->K)->K\/True:=fun _ _=>.inr trivial
   have j9:Gl (all.getD i default)=0->HR c.features.length np i ((all.take i).getD (i-1) default) (all.getD i default)=false->(if((all.take i).any (HQ (all.getD i default)))=true then 121 else Em c.features.length np (all.take (i+1)) (all.drop (i+1)))=Em c.features.length np [] all:=fun e1 e2=>by grind
   refine Od ?_;refine Ac ?_
   (repeat' first|simp(disch:=omega)only[go_sem,simprocAttr,BV ja]|fail)
   refine Ac ?_
   (repeat' first|simp(disch:=omega)only[go_sem,simprocAttr,BV ja]|refine Sx.s ?_ ?_<;>try(intro h;have h':=h;try simp only[HB]at h';try rewrite [h];try simp only[h])|refine Ab (h4) ?_|fail)
   refine Ac ?_
   (repeat' first|exact Ao _|simp(disch:=omega)only[go_sem,simprocAttr]|refine' Av (fun hq=>?_) (fun f=>?_)<;>try(have jd:=hq;try simp only[HB]at jd)|refine Sx.s ?_ ?_<;>try(intro h;have h':=h;try simp only[HB]at h';try rewrite [h];try simp only[h])|refine Sz.s ?_|fail)
   ·rw[Zaa h']at jb;rw[hR,<-jb,Zaa h']
   rename_i jc _;have jc:Gl (all.getD i default)=0:=by omega
   refine Dl.cutS [1,4,5,6] (by simp only[V0,JK,reduceIte,Nat.reduceEqDiff];rfl) [] [] (HR c.features.length np i ((all.take i).getD (i-1) default) (all.getD i default)=false) ?_ (fun hbad=>?_)
   ·cases hf:NA c.features.length np i
    ·have v6:i≠0:=by intro e;subst e;simp[NA]at hf
     have kh:((i:Int)-1).toNat=i-1:=by omega
     have kg:(i:Int)-1=((i-1:Nat):Int):=by omega
     have hltp:i-1<all.length:=by omega
     have hbad:HR c.features.length np i ((all.take i).getD (i-1) default) (all.getD i default)=(Op.bytesLess (all.getD i default).name (all.getD (i-1) default).name||decide ((i:Int)<(np:Int))&&decide ((all.getD i default).name=(all.getD (i-1) default).name)):=by grind[HR]
     rw[hf]at hfst;rw[hbad]at jb⊢;cases k6:Op.bytesLess (all.getD i default).name (all.getD (i-1) default).name
     ·cases jy:decide ((i:Int)<(np:Int))
      ·exact FU (cj (BV ja) (cj hfst (cj kg (cj (BV hltp) (cj k6 jy))))) trivial
      ·cases hb3:decide ((all.getD i default).name=(all.getD (i-1) default).name)
       ·exact FU (cj (BV ja) (cj hfst (cj kg (cj (BV hltp) (cj k6 (cj jy hb3)))))) trivial
       ·refine FU (cj (BV ja) (cj hfst (cj kg (cj (BV hltp) (cj k6 (cj jy hb3)))))) ?_;rw[Zac (by omega),Zaa (by rw[k6,jy,hb3];rfl)]at jb;rw[hR,<-jb];rfl
     ·refine FU (cj (BV ja) (cj hfst (cj kg (cj (BV hltp) k6)))) ?_;rw[Zac (by omega),Zaa (by rw[k6];rfl)]at jb;rw[hR,<-jb];rfl
    ·have hbad:HR c.features.length np i ((all.take i).getD (i-1) default) (all.getD i default)=false:=by simp[HR,hf]
     rw[hf]at hfst;exact FU (cj hfst hbad) trivial
   ·rw[Zac (by omega),Zac (by rw[hbad];simp)]at jb;refine Od ?_;refine lT [1,4,5,6] (fun k:Nat=>[(8,.i (iI k))]) (fun _=>[]) (fun k=>k<=i/\(all.take k).all (fun g=>!HQ (all.getD i default) g)=true) (fun k=>i-k) 0 ?_;rintro k ⟨hk,jj⟩;by_cases jk:k<i
    ·have hka:k<all.length:=by omega
     cases hsn:decide ((all.getD k default).name=(all.getD i default).name)
     ·refine FU (cj (BV ja) (cj (BV jk) (cj (BV hka) hsn))) ?_;exact⟨k+1,⟨by omega,BW (d:=default) jj hka (by simp only[HQ,hsn];rfl)⟩,by omega,rfl⟩
     ·cases hsv:decide ((all.getD k default).version=(all.getD i default).version)
      ·refine FU (cj (BV ja) (cj (BV jk) (cj (BV hka) (cj hsn hsv)))) ?_;exact⟨k+1,⟨by omega,BW (d:=default) jj hka (by simp only[HQ,hsn,hsv];rfl)⟩,by omega,rfl⟩
      ·refine FU (cj (BV ja) (cj (BV jk) (cj (BV hka) (cj hsn hsv)))) ?_;have hany:(all.take i).any (HQ (all.getD i default))=true:=by rw[Zcz];refine⟨all.getD k default,?_,by simp only[HQ,hsn,hsv];rfl⟩;have:=At (n:=k) (l:=all.take i) (by simp;omega);grind
       rw[Zaa hany]at jb;rw[hR,<-jb];rfl
    ·have hki:k=i:=by omega
     subst hki;have hany:(all.take k).any (HQ (all.getD k default))=false:=by grind
     rw[Zac (by rw[hany];simp)]at jb;refine FU (Hi jk) ?_;exact⟨k+1,⟨by omega,jb⟩,by omega,rfl⟩
  ·rw[Zda (by omega),au]at jb;rw[<-jb,Zac (by simp)]at hR;refine FU (Hi ja) ?_;refine lT [1] (fun i:Nat=>[(9,.i (iI i))]) (fun _=>[]) (fun i=>i<=c.features.length/\DP c (c.features.drop i)=DP c c.features) (fun i=>c.features.length-i) 0 ?_ ⟨by omega,rfl⟩;rintro j ⟨hj,hjv⟩;by_cases jp:j<c.features.length
   ·have h5:=Z0 (mx:=mx) c (c.features.getD j default) (by omega) (by have:=hcf _ (At jp);omega);rw[Dj jp,DP]at hjv
    (repeat' first|simp(disch:=omega)only[go_sem,simprocAttr,BV jp]|refine Sx.s ?_ ?_<;>try(intro h;have h':=h;try simp only[HB]at h';try rewrite [h];try simp only[h])|refine Ab (h5) ?_|refine Ac ?_|refine Au ?_|refine Sz.s ?_|fail)
    ·rw[Zaa h']at hjv;rw[hR,<-hjv,Zaa h']
    ·rw[Zac (by omega)]at hjv;exact⟨j+1,⟨by omega,hjv⟩,by omega,rfl⟩
   ·rw[Zda (by omega),DP]at hjv;rw[<-hjv,Zac (by simp)]at hR;rw[hR];generalize G6 c=cy at h3
    (repeat' first|simp(disch:=omega)only[go_sem,simprocAttr,Hi jp]|refine Sx.s ?_ ?_<;>try(intro h;have h':=h;try simp only[HB]at h';try rewrite [h];try simp only[h])|refine Ab (h3) ?_|refine Ac ?_|refine Sz.s ?_|fail)
    all_goals(refine Zae (I.int .i64) ?_;cases cy<;>simp_all)
    all_goals omega
end
section
def UH(f:Fct):Bool:=if f.kind=3 then decide (f.table=[])&&decide (f.key=[])&&decide (f.event=0)&&decide ((f.fields.length:Int)=0)else LP f.key&&decide (0<=f.event)&&decide (f.event<=1099511627776)
def UI(f:Fct):Bool:=if f.kind=1 then decide (f.ref=0)else if f.kind=2\/f.kind=3 then decide (1<=f.ref)&&decide (f.ref<f.id.seq)else false
def KA(f:Fct):Bool:=C6 f.id.source&&decide (1<=f.id.seq)&&decide (f.id.seq<=1099511627776)&&UI f&&UH f
theorem wA(f:Fct)(hf:GY f<=1073741824):Is mx 123 [.agg (BJ f)] (.bool (KA f)):=by
 have h0:=LL f;have h1:=ZK (mx:=mx) f.key (by omega);refine MX pG ?_
 (repeat' first|exact Ao _|simp only[go_sem,simprocAttr]|refine' Av (fun hq=>?_) (fun f=>?_)<;>try(have jd:=hq;try simp only[HB]at jd)|refine Sx.s ?_ ?_<;>try(intro h;have h':=h;try simp only[HB]at h';try simp only[h])|refine Ab (Iw _) ?_|refine Ab (h1) ?_|refine Ac ?_|refine Sz.s ?_|fail)
 all_goals(refine Zae I.bool ?_;simp only[KA,UH,UI];first|done|(grind(splits:=20)))
def PA(v:Val)(f:Fld):Bool:=Rp v f.typ
def Gm(c:Cat)(f:Fct):Int:=
 if KA f=false then 1 else if f.kind=3 then 0 else match AV c.tables f.table with
  |none=>4
  |some t=>if f.fields.length≠t.fields.length then 5 else if eqL PA f.fields t.fields=true then 0 else 5
theorem aw{q c r:Bool}(h:q=(c&&r))(hc:(!c)=true):q=false:=(Jn h hc).symm
theorem wB(c:Cat)(f:Fct)(hc:AR c<=1073741824)(hf:GY f<=1073741824):Is mx 81 [.agg (Ap c),.agg (BJ f)] (iI (Gm c f)):=by
 have h0:=LL f;have hvl:=Rk f.fields;have lt:=G3 c.tables;have hb:=BR c;have h1:=wA (mx:=mx) f hf;have h2:=Rs (mx:=mx) c f.table (by omega);have hR:=Gm.eq_1 c f;refine MX F81 ?_;cases v8:KA f
 ·rw[v8]at h1;rw[Zaa v8]at hR;rw[hR];exact EV h1 trivial
 ·rw[v8]at h1;rw[Zac (by rw[v8];simp)]at hR;by_cases h3:f.kind=3
  ·rw[Zaa h3]at hR;rw[hR];exact EV (cj h1 h3) trivial
  ·rw[Zac h3]at hR;cases ht:AV c.tables f.table with
   |none=>rw[ht]at h2 hR;rw[hR];simp only[Gi,Zhg,Zhj]at h2;exact EV (cj h1 (cj h2 h3)) trivial
   |some t=>
    rw[ht]at h2 hR;simp only at hR;simp only[Gi,Zhh,Zhk]at h2;by_cases hl:f.fields.length=t.fields.length
    ·rw[Zac (by omega)]at hR;have hlF:((f.fields.length:Int)=(t.fields.length:Int))=True:=Za8 (by omega);refine AU (cj h1 (cj h2 (cj h3 hlF))) ?_;refine lS [3,5] (fun i=>[(7,.i (iI i))]) (fun _=>[]) (fun i=>eqL PA f.fields t.fields=eqL PA (f.fields.drop i) (t.fields.drop i)) f.fields.length ?_;intro i hi jb;by_cases ja:i<f.fields.length
     ·have jx:i<t.fields.length:=by omega
      have jf:=HJ jb ja jx;have h4:=uv (mx:=mx) (f.fields.getD i default) (t.fields.getD i default).typ (by have h1:=B4 (b:=EI) (At ja);have h2:EI (f.fields.getD i default)=(f.fields.getD i default).s.length+1:=rfl;omega);refine Kas (cj h4 (cj (BV ja) (BV jx))) (cj ?_ ?_)
      ·intro h h';rw[hR,aw jf h];rfl
      ·intro h h';exact It jf h
     ·rw[hR,HK jb (by omega) (by omega)];exact FU (Hi ja) trivial
    ·rw[Zaa hl]at hR;rw[hR];have hlF:((f.fields.length:Int)=(t.fields.length:Int))=False:=Za9 (by omega);exact AU (cj h1 (cj h2 (cj h3 hlF))) trivial
def AO(f:Fct):Fid:=if f.kind=1 then f.id else⟨f.id.source,f.ref⟩
theorem UJ(f:Fct):Is mx 50 [.agg (BJ f)] (.agg (Am (AO f))):=by
 refine MX F50 ?_;refine eP (cj ?_ ?_)
 ·intro h h';simp[AO,h']
 ·intro h h';simp[AO,h']
def DQ(a b:Int):Int:=if a<b then-1 else if b<a then 1 else 0
theorem ax(a b:Int):Is mx 152 [iI a,iI b] (iI (DQ a b)):=by
 refine MX pI ?_
 (repeat' first|simp only[go_sem,simprocAttr]|refine Sx.s ?_ ?_<;>try(intro h;have h':=h;try simp only[HB]at h';try simp only[h])|refine Ac ?_|refine Sz.s ?_|fail)
 all_goals(refine Zae (I.int .i64) ?_;simp only[DQ];first|done|(grind(splits:=20)))
def Ct(a b:Fid):Int:=if Op.bytesLess a.source b.source=true then-1 else if a.source=b.source then DQ a.seq b.seq else 1
theorem ay(a b:Fid):Is mx 96 [.agg (Am a),.agg (Am b)] (iI (Ct a b)):=by
 have h1:=ax (mx:=mx) a.seq b.seq;refine MX F96 ?_
 (repeat' first|simp only[go_sem,simprocAttr]|refine Sx.s ?_ ?_<;>try(intro h;have h':=h;try simp only[HB]at h';try simp only[h])|refine Ab (h1) ?_|refine Ac ?_|refine Sz.s ?_|fail)
 all_goals(refine Zae (I.int .i64) ?_;simp only[Ct];first|done|(grind(splits:=20)))
def Dk(a b:Rw):Int:=if DQ a.event b.event≠0 then DQ a.event b.event else Ct a.id b.id
theorem wC(a b:Rw):Is mx 100 [.agg (JI a),.agg (JI b)] (iI (Dk a b)):=by
 have h1:=ax (mx:=mx) a.event b.event;have h2:=ay (mx:=mx) a.id b.id;refine MX mf ?_
 (repeat' first|simp only[go_sem,simprocAttr]|refine Sx.s ?_ ?_<;>try(intro h;have h':=h;try simp only[HB]at h';try simp only[h])|refine Ab (h1) ?_|refine Ab (h2) ?_|refine Ac ?_|refine Sz.s ?_|fail)
 all_goals(refine Zae (I.int .i64) ?_;simp only[Dk];first|done|(grind(splits:=20)))
end
section
def BN(l:List Ftr)(name:AQ):Int:=Br (fun f:Ftr=>decide (f.name=name)) l
theorem wD{α:Type}[Inhabited α]{p:α->Bool}{l:List α}{i:Nat}(h:(l.take i).all (fun x=>!p x)=true)(hi:i<l.length)(hp:p (l.getD i default)=true):Br p l=(i:Int):=by
 rw[AK hi]at hp;refine LA hi hp fun j hj hji=>?_
 rw[Zcu]at h;have hm:l[j]∈l.take i:=Zfg.2 ⟨j,by simp;omega,by simp⟩;grind
theorem wE{α:Type}{p:α->Bool}{l:List α}{i:Nat}(h:(l.take i).all (fun x=>!p x)=true)(hi:¬i<l.length):Br p l=-1:=by rw[Zgf (by omega),Zcu]at h;grind[LB]
theorem NB(l:List Ftr)(name:AQ)(hl:l.length<=1073741824):Is mx 229 [.sl (l.map Af),.str name,iI 0] (iI (BN l name)):=by
 refine MX mK ?_;refine Od ?_;refine lS [0,1] (fun i=>[(7,.i (iI i))]) (fun _=>[]) (fun i=>(l.take i).all (fun f=>!decide (f.name=name))=true) l.length ?_;intro i hi jb;by_cases ja:i<l.length
 ·by_cases hn:(l.getD i default).name=name
  ·rw[show BN l name=(i:Int)from wD jb ja (by simpa using hn)];exact FU (cj (BV ja) hn) trivial
  ·refine La (cj (BV ja) hn) ?_;exact BW (d:=default) jb ja (by simpa using hn)
 ·rw[show BN l name=-1 from wE jb ja];exact FU (Hi ja) trivial
def Gn(l:List Ftr)(name:AQ):Nat->Int
 |0=>-1
 |i+1=>if(l.getD i default).name=name then(i:Int)else Gn l name i
def HS(l:List Ftr)(name:AQ):Int:=Gn l name l.length
theorem wF(l:List Ftr)(name:AQ)(hl:l.length<=1073741824):Is mx 233 [.sl (l.map Af),.str name] (iI (HS l name)):=by
 refine MX mL ?_
 (repeat' first|simp(disch:=omega)only[go_sem,simprocAttr]|fail)
 refine Df [0,1] (by simp only[V0,JK,reduceIte,Nat.reduceEqDiff];rfl) (fun i=>[(5,.i (iI (Gn l name i))),(6,.i (iI i))]) (fun _=>[]) (fun _=>True) l.length 0 (by omega) trivial (by simp[V0,H0,JJ,Gn]) ?_;intro i hi _;by_cases ja:i<l.length
 ·by_cases hn:(l.getD i default).name=name
  ·(repeat' first|simp(disch:=omega)only[go_sem,simprocAttr,BV ja,Za8 hn,Gn]|refine Ac ?_|fail)
   exact ja
  ·(repeat' first|simp(disch:=omega)only[go_sem,simprocAttr,BV ja,Za9 hn,Gn]|refine Ac ?_|fail)
   exact ja
 ·have hie:i=l.length:=by omega
  rw[HS,<-hie];exact FU (Hi ja) trivial
def A5{α:Type}(l:List α)(k:Nat):List α:=l.take k++l.drop (k+1)
theorem PB(l:List Ftr)(k:Nat)(hl:l.length<=1073741824)(hk:k<l.length):Is mx 232 [.sl (l.map Af),iI k] (.sl ((A5 l k).map Af)):=by
 have h1:=A1 (l.take k) CU C2;have h2:=A1 (l.drop (k+1)) CU C2;have h0:=A1 l CU C2;rw[Ze7]at h1;rw[Ze2]at h2;have c1:(k<=l.length)=True:=Za8 (by omega);have c2:(k+1<=l.length)=True:=Za8 (by omega);have c3:min k l.length=k:=by omega
 have kg:((k:Int)+1).toNat=k+1:=by omega
 have c4:((k:Int)+1<=(l.length:Int))=True:=Za8 (by omega);have c5:((k:Int)<=(l.length:Int))=True:=Za8 (by omega);have c6:(0<=(k:Int)+1)=True:=Za8 (by omega);refine MX pY ?_
 (repeat' first|simp(disch:=omega)only[go_sem,simprocAttr,Za8 h0.1,Za8 h1.1,Za8 h1.2,Zck,Za8 h2.1,Za8 h2.2,Zg8,Zg6,Zes,Zex,Zen,Zeu,c3,kg,c4,c5,c6,Zgi,Zg0]|refine Sz.s ?_|(refine And.intro ?_ ?_;focus omega))
 rw[Zgf (by simp;omega)];simp only[A5,Zez,Ze7,Ze2]
def Bg{α:Type}(l:List α)(k:Nat)(x:α):List α:=l.take k++[x]++l.drop k
def Fi(l:List Ftr)(name:AQ):Nat:=(l.takeWhile fun g=>VQ g.name name).length
theorem wG(l:List Ftr)(name:AQ):Fi l name<=l.length:=Zcs (Zf9 _)
def BS(l:List Ftr)(f:Ftr):List Ftr:=Bg l (Fi l f.name) f
theorem KB{α:Type}{f:α->List I}{l:List α}{s:α}{k:Nat}(h:k<=l.length):List.take (k+1+(l.length-k)) (List.take (k+1) (List.take k (l.map f)++[f s])++List.drop k (l.map f))=List.map f (List.take k l++[s]++List.drop k l):=by have:=Ux f (s:=s) h;simp_all
theorem NC(l:List Ftr)(f:Ftr)(hl:l.length<=1073741823):Is mx 231 [.sl (l.map Af),.agg (Af f)] (.sl ((BS l f).map Af)):=by
 refine MX oW ?_
 (repeat' first|simp(disch:=omega)only[go_sem,simprocAttr]|fail)
 refine A4 [0,3] (by simp only[V0,JK,reduceIte,Nat.reduceEqDiff];rfl) (fun k:Nat=>[(5,.i (iI k))]) (fun _=>[])
  (fun k=>k<=l.length/\(l.take k).all (fun g=>VQ g.name f.name)=true) (fun k=>l.length-k) 0 (by simp) (by simp[V0,H0,JJ]) ?_
 rintro k ⟨hk,jj⟩;have h1:=A1 (l.take k) CU C2;have h2:=A1 (l.drop k) CU C2;have h0:=A1 l CU C2;have c5:((k:Int)<=(l.length:Int))=True:=Za8 (by omega);have h3:=A1 [f] CU C2;rw[Ze7]at h1;rw[Ze2]at h2;simp only[Ze1,Ze5]at h3;have c1:(k<=l.length)=True:=Za8 (by omega);have c3:min k l.length=k:=by omega
 by_cases jk:k<l.length
 ·cases ji:VQ (l.getD k default).name f.name
  ·have kp:Fi l f.name=k:=Rz jj jk ji;have wb:BS l f=l.take k++[f]++l.drop k:=by rw[BS,kp];rfl
   rw[wb];unfold VQ at ji
   (repeat' first|simp(disch:=omega)only[go_sem,simprocAttr,BV jk,ji,Za8 h0.1,Za8 h1.1,Za8 h1.2,Zck,Za8 h2.1,Za8 h2.2,Za8 h3.1,Za8 h3.2,Zg8,Zg6,Zes,Zex,Zen,Zeu,c3,c5,Zgi,Zg0]|refine Ac ?_|refine Au ?_|refine Sz.s ?_|(refine And.intro ?_ ?_;focus omega))
   rw[<-KB hk]
  ·have hle2:=ji;unfold VQ at hle2
   (repeat' first|simp(disch:=omega)only[go_sem,simprocAttr,BV jk,hle2]|refine Ac ?_|refine Au ?_|fail)
   exact⟨k+1,⟨by omega,BW (d:=default) jj jk ji⟩,by omega,rfl⟩
 ·have kp:Fi l f.name=k:=Jp jj hk (.inl (by omega));have wb:BS l f=l.take k++[f]++l.drop k:=by rw[BS,kp];rfl
  rw[wb]
  (repeat' first|simp(disch:=omega)only[go_sem,simprocAttr,Hi jk,Za8 h0.1,Za8 h1.1,Za8 h1.2,Zck,Za8 h2.1,Za8 h2.2,Za8 h3.1,Za8 h3.2,Zg8,Zg6,Zes,Zex,Zen,Zeu,c3,c5,Zgi,Zg0]|refine Ac ?_|refine Au ?_|refine Sz.s ?_|(refine And.intro ?_ ?_;focus omega))
  rw[<-KB hk]
def KK(r:Cat×Int):I:=.tup [.agg (Ap r.1),iI r.2]
abbrev LY:List D:=[.i (.sl []),.i (.sl []),.i (.sl []),.i (.sl [])]
def ER(l:List Tbl)(name:AQ):Nat:=(l.takeWhile fun g=>VQ g.name name).length
def En(l:List Tbl)(t:Tbl):List Tbl:=Bg l (ER l t.name) t
def G9(c:Cat)(t:Tbl):Cat×Int:=if(AV c.tables t.name).isSome=true then(BD,121)else({c with tables:=En c.tables t},0)
theorem ND(t:Tbl):(AS t).length=4:=rfl
theorem NE(t:Tbl):(AS t).all I.one=true:=rfl
theorem wH(c:Cat)(t:Tbl)(hl:c.tables.length<=1073741823):Is mx 176 [.agg (Ap c),.agg (AS t)] (KK (G9 c t)):=by
 have h1:=Rs (mx:=mx) c t.name (by omega);unfold Gi at h1;refine MX oL ?_;cases hs:(AV c.tables t.name).isSome
 ·rw[hs]at h1;rw[G9,Zac (by rw[hs];simp)]
  (repeat' first|simp(disch:=omega)only[go_sem,simprocAttr]|refine Sx.s ?_ ?_<;>try(intro h;have h':=h;try simp only[HB]at h';try rewrite [h];try simp only[h])|refine Ab (h1) ?_|refine Ac ?_|fail)
  refine A4 [2,3,4] (by simp only[V0,JK,reduceIte,Nat.reduceEqDiff];rfl) (fun k:Nat=>[(8,.i (iI k))]) (fun _=>[(4,.cells LY),(2,.cells ((Ap c).map .i))])
   (fun k=>k<=c.tables.length/\(c.tables.take k).all (fun g=>VQ g.name t.name)=true) (fun k=>c.tables.length-k) 0 (by simp) (by simp[V0,H0,Ref.nm,Ap,D.nms,Oe]) ?_
  rintro k ⟨hk,jj⟩;have h1:=A1 (c.tables.take k) ND NE;have h2:=A1 (c.tables.drop k) ND NE;have h0:=A1 c.tables ND NE;have c5:((k:Int)<=(c.tables.length:Int))=True:=Za8 (by omega);have h3:=A1 [t] ND NE;rw[Ze7]at h1;rw[Ze2]at h2;simp only[Ze1,Ze5]at h3;have x1:(∀r∈[[I.str t.name,I.str t.entity,I.sl (t.fields.map B2),I.int .i64 t.keep]],r.length=4)=True:=Za8 (by simp);have x2:(∀r∈[[I.str t.name,I.str t.entity,I.sl (t.fields.map B2),I.int .i64 t.keep]],r.all I.one=true)=True:=Za8 (by simp[I.one]);have c1:(k<=c.tables.length)=True:=Za8 (by omega);have c3:min k c.tables.length=k:=by omega
  by_cases jk:k<c.tables.length
  ·cases ji:VQ (c.tables.getD k default).name t.name
   ·have kp:ER c.tables t.name=k:=Rz jj jk ji;have wb:En c.tables t=c.tables.take k++[t]++c.tables.drop k:=by rw[En,kp];rfl
    rw[wb];unfold VQ at ji
    (repeat' first|simp(disch:=omega)only[go_sem,simprocAttr,KK,Ze1,Ze5,BV jk,ji,Za8 h0.1,Za8 h1.1,Za8 h1.2,Zck,Za8 h2.1,Za8 h2.2,x1,x2,Zg8,Zg6,Zes,Zex,Zen,Zeu,c3,c5,Zgi,Zg0]|refine Ac ?_|refine Au ?_|refine Sz.s ?_|(refine And.intro ?_ ?_;focus omega))
    rw[<-KB (f:=AS) hk];rfl
   ·have hle2:=ji;unfold VQ at hle2;refine A8 (cj (BV jk) hle2) ?_;exact⟨k+1,⟨by omega,BW (d:=default) jj jk ji⟩,by omega,rfl⟩
  ·have kp:ER c.tables t.name=k:=Jp jj hk (.inl (by omega));have wb:En c.tables t=c.tables.take k++[t]++c.tables.drop k:=by rw[En,kp];rfl
   rw[wb]
   (repeat' first|simp(disch:=omega)only[go_sem,simprocAttr,KK,Ze1,Ze5,Hi jk,Za8 h0.1,Za8 h1.1,Za8 h1.2,Zck,Za8 h2.1,Za8 h2.2,x1,x2,Zg8,Zg6,Zes,Zex,Zen,Zeu,c3,c5,Zgi,Zg0]|refine Ac ?_|refine Au ?_|refine Sz.s ?_|(refine And.intro ?_ ?_;focus omega))
   rw[<-KB (f:=AS) hk];rfl
 ·rw[hs]at h1;rw[G9,Zaa hs];exact EV (cj h1 @KK.eq_1) trivial
def Dm(name:AQ)(n:Int)(f:Ftr):Int:=if f.name=name then(if n<=f.version then f.version else n)else n
def Fj(c:Cat)(name:AQ):Int:=(B5 c).foldl (Dm name) 0
theorem wI(c:Cat)(name:AQ)(h1:c.features.length<=1073741)(h2:c.drafts.length<=1073741)(h3:c.past.length<=1073741):Is mx 230 [.agg (Ap c),.str name] (iI (Fj c name)):=by
 have ha:=A1 c.features CU C2;have hb:=A1 c.drafts CU C2;have hp:=A1 c.past CU C2;have t1:List.take (c.features.length+c.drafts.length) (c.features.map Af++c.drafts.map Af)=c.features.map Af++c.drafts.map Af:=Zgf (by simp);have t2:List.take (c.features.length+c.drafts.length+c.past.length) (c.features.map Af++c.drafts.map Af++c.past.map Af)=c.features.map Af++c.drafts.map Af++c.past.map Af:=Zgf (by simp;omega);have hvl:(B5 c).length=c.features.length+c.drafts.length+c.past.length:=by grind[B5]
 have hvm:(B5 c).map Af=c.features.map Af++c.drafts.map Af++c.past.map Af:=by simp[B5]
 refine MX nN ?_
 (repeat' first|simp(disch:=omega)only[go_sem,simprocAttr,Za8 ha.1,Za8 ha.2,Za8 hb.1,Za8 hb.2,Za8 hp.1,Za8 hp.2,Zg8,Zg6,Zes,Zel,Zeu,t1]|refine Au ?_|(refine And.intro ?_ ?_;focus omega))
 rw[<-hvm,<-hvl];have hR:Fj c name=(B5 c).foldl (Dm name) 0:=rfl;rw[hR];have hvle:(B5 c).length<=1073741824:=by omega
 generalize B5 c=all at hvle;refine Df [1,5] (by simp only[V0,JK,reduceIte,Nat.reduceEqDiff];rfl) (fun i=>[(6,.i (iI ((all.take i).foldl (Dm name) 0))),(7,.i (iI i))]) (fun _=>[(8,.rows 50 18 (all.map Af))]) (fun _=>True) all.length 0 (by omega) trivial (by simp[V0,H0,JJ,Ref.nm]) ?_;intro i hi _;by_cases ja:i<all.length
 ·have hT:(all.take (i+1)).foldl (Dm name) 0=Dm name ((all.take i).foldl (Dm name) 0) (all.getD i default):=by grind[BM]
  have hnT:(i<all.length)=True:=Za8 ja;generalize (all.take i).foldl (Dm name) 0=n at hT;by_cases hn:(all.getD i default).name=name
  ·refine A8 (cj (BV ja) (cj hn hnT)) ?_;rw[hT,Dm,Zaa hn];refine Zae (fun n=>D.i (I.int .i64 n)) ?_;split<;>split<;>omega
  ·refine A8 (cj (BV ja) (cj hn hnT)) ?_;rw[hT,Dm,Zac hn]
 ·have e:all.take i=all:=Zgf (by omega);rw[e];have hnF:((i:Int)<(all.length:Int))=False:=Hi ja;exact A8 hnF trivial
end
section
theorem Eo(l:List Ftr)(name:AQ):(BN l name=-1/\BL l name=none)\/∃i:Nat,BN l name=(i:Int)/\i<l.length/\BL l name=some (l.getD i default):=by
 have h0:BN l name=-1\/0<=BN l name:=by grind[BN,Br]
 rcases Rb (fun f:Ftr=>decide (f.name=name)) l with⟨h1,h2⟩|⟨h1,h2,h3⟩
 ·have h1:BN l name<0:=h1;exact .inl ⟨by omega,h2⟩
 ·have h1:0<=BN l name:=h1;exact .inr ⟨(BN l name).toNat,by omega,h2,h3⟩
theorem Ci(f:Ftr):Af f=[.str f.name,.str f.entity,.int .i64 f.typ.kind,.sl (f.typ.unit.map Ax),.str f.typ.of,.int .i64 f.body.kind,.str f.body.op,.str f.body.name,.str f.body.table,.int .i64 f.body.val.kind,.int .i64 f.body.val.n,.str f.body.val.s,.sl (f.body.unit.map Ax),.int .i64 f.body.param,.int .i64 f.body.win.kind,.int .i64 f.body.win.size,.sl (f.body.args.map eE),.int .i64 f.version]:=by simp[Af,Aq,OW]
theorem RA(l:List Ftr)(name:AQ):∀n,Gn l name n=-1\/∃i:Nat,Gn l name n=(i:Int)/\i<n/\(l.getD i default).name=name
 |0=>.inl rfl
 |n+1=>by
  unfold Gn;split
  ·rename_i h;exact .inr ⟨n,rfl,by omega,h⟩
  ·rcases RA l name n with h|⟨i,h1,h2,h3⟩
   ·exact .inl h
   ·exact .inr ⟨i,h1,by omega,h3⟩
theorem RB{α:Type}(l:List α)(k:Nat):(A5 l k).length<=l.length:=by grind[A5]
theorem wJ(l:List Ftr)(f:Ftr):(BS l f).length=l.length+1:=by grind[BS,Bg]
def ID(c:Cat)(name:AQ):Cat×Int:=if BN c.drafts name<0 then(BD,4)else({c with drafts:=A5 c.drafts (BN c.drafts name).toNat},0)
theorem wK(c:Cat)(name:AQ)(h2:c.drafts.length<=1073741824):Is mx 180 [.agg (Ap c),.str name] (KK (ID c name)):=by
 have i1:=NB (mx:=mx) c.drafts name h2;refine MX oM ?_;rcases Eo c.drafts name with⟨e,_⟩|⟨i,e,hi,_⟩
 ·rw[e]at i1;rw[ID,e];exact EV (cj i1 @KK.eq_1) trivial
 ·rw[e]at i1;have hR:ID c name=({c with drafts:=A5 c.drafts i},0):=by grind[ID]
  rw[hR];have hF:((i:Int)<0)=False:=Za9 (by omega);have w1:=PB (mx:=mx) c.drafts i h2 hi;exact EV (cj i1 (cj w1 (cj @KK.eq_1 hF))) trivial
def Gp(c:Cat)(name:AQ):Cat×Int:=
 if BN c.drafts name<0 then(BD,4)
 else if BN c.features name<0 then(⟨c.tables,BS c.features (c.drafts.getD (BN c.drafts name).toNat default),A5 c.drafts (BN c.drafts name).toNat,c.past⟩,0)
 else(⟨c.tables,BS (A5 c.features (BN c.features name).toNat) (c.drafts.getD (BN c.drafts name).toNat default),A5 c.drafts (BN c.drafts name).toNat,BS c.past (c.features.getD (BN c.features name).toNat default)⟩,0)
theorem wL(c:Cat)(name:AQ)(h1:c.features.length<=1073741823)(h2:c.drafts.length<=1073741823)(h3:c.past.length<=1073741823):Is mx 178 [.agg (Ap c),.str name] (KK (Gp c name)):=by
 have i1:=NB (mx:=mx) c.drafts name (by omega);have i2:=NB (mx:=mx) c.features name (by omega);refine MX mB ?_;rcases Eo c.drafts name with⟨e,_⟩|⟨i,e,hi,_⟩
 ·rw[e]at i1;rw[Gp,e];exact EV (cj i1 @KK.eq_1) trivial
 ·rw[e]at i1;have hF:((i:Int)<0)=False:=Za9 (by omega);have w1:=PB (mx:=mx) c.drafts i (by omega) hi;rcases Eo c.features name with⟨e',_⟩|⟨j,e',hj,_⟩
  ·rw[e']at i2;have hR:Gp c name=(⟨c.tables,BS c.features (c.drafts.getD i default),A5 c.drafts i,c.past⟩,0):=by grind[Gp]
   rw[hR];have s1:=NC (mx:=mx) c.features (c.drafts.getD i default) h1;exact EV (cj i1 (cj w1 (cj i2 (cj s1 (cj @KK.eq_1 (cj hF (BV hi))))))) trivial
  ·rw[e']at i2;have hR:Gp c name=(⟨c.tables,BS (A5 c.features j) (c.drafts.getD i default),A5 c.drafts i,BS c.past (c.features.getD j default)⟩,0):=by grind[Gp]
   rw[hR];have hF2:(0<=(j:Int))=True:=Za8 (by omega);have w2:=PB (mx:=mx) c.features j (by omega) hj;have s1:=NC (mx:=mx) (A5 c.features j) (c.drafts.getD i default) (by have:=RB c.features j;omega);have s2:=NC (mx:=mx) c.past (c.features.getD j default) h3
   (repeat' first|simp(disch:=omega)only[go_sem,simprocAttr,KK,hF,hF2,BV hi,BV hj]|refine Sx.s ?_ ?_<;>try(intro h;have h':=h;try simp only[HB]at h';try simp only[h])|refine Ab (i1) ?_|refine Ab (w1) ?_|refine Ab (i2) ?_|refine Ab (w2) ?_|refine Ab (s1) ?_|refine Ab (s2) ?_|refine Ac ?_|refine Au ?_|refine Sz.s ?_)
   all_goals(try rfl)
def Fk(c:Cat)(name:AQ):Cat×Int:=
 if BN c.features name<0 then(BD,4)
 else if HS c.past name<0\/0<=BN c.drafts name then(BD,140)
 else(⟨c.tables,BS (A5 c.features (BN c.features name).toNat) (c.past.getD (HS c.past name).toNat default),BS c.drafts (c.features.getD (BN c.features name).toNat default),A5 c.past (HS c.past name).toNat⟩,0)
theorem wM(c:Cat)(name:AQ)(h1:c.features.length<=1073741823)(h2:c.drafts.length<=1073741823)(h3:c.past.length<=1073741823):Is mx 179 [.agg (Ap c),.str name] (KK (Fk c name)):=by
 have i1:=NB (mx:=mx) c.drafts name (by omega);have i2:=NB (mx:=mx) c.features name (by omega);have i3:=wF (mx:=mx) c.past name (by omega);refine MX nE ?_;rcases Eo c.features name with⟨e,_⟩|⟨j,e,hj,_⟩
 ·rw[e]at i2;rw[Fk,e];exact EV (cj i2 @KK.eq_1) trivial
 ·rw[e]at i2;have hF:((j:Int)<0)=False:=Za9 (by omega);rcases RA c.past name c.past.length with e3|⟨o,e3,ho,_⟩
  ·have e3':HS c.past name=-1:=e3;rw[e3']at i3;have hR:Fk c name=(BD,140):=by grind[Fk]
   rw[hR];exact EV (cj i2 (cj i3 (cj @KK.eq_1 hF))) trivial
  ·have e3':HS c.past name=(o:Int):=e3;rw[e3']at i3;have hF3:((o:Int)<0)=False:=Za9 (by omega);rcases Eo c.drafts name with⟨e1,_⟩|⟨i,e1,hi,_⟩
   ·rw[e1]at i1;have hR:Fk c name=(⟨c.tables,BS (A5 c.features j) (c.past.getD o default),BS c.drafts (c.features.getD j default),A5 c.past o⟩,0):=by rw[Fk,e,e1,e3',Zac (by omega),Zac (by omega)];rfl
    rw[hR];have w2:=PB (mx:=mx) c.features j (by omega) hj;have w3:=PB (mx:=mx) c.past o (by omega) ho;have s1:=NC (mx:=mx) (A5 c.features j) (c.past.getD o default) (by have:=RB c.features j;omega);have s2:=NC (mx:=mx) c.drafts (c.features.getD j default) h2
    (repeat' first|simp(disch:=omega)only[go_sem,simprocAttr,KK,hF,hF3,BV hj,BV ho]|refine Sx.s ?_ ?_<;>try(intro h;have h':=h;try simp only[HB]at h';try simp only[h])|refine Ab (i1) ?_|refine Ab (i2) ?_|refine Ab (i3) ?_|refine Ab (w2) ?_|refine Ab (w3) ?_|refine Ab (s1) ?_|refine Ab (s2) ?_|refine Ac ?_|refine Au ?_|refine Sz.s ?_)
    all_goals(try rfl)
   ·rw[e1]at i1
    have hF2:(0<=(i:Int))=True:=Za8 (by omega)
    have hR:Fk c name=(BD,140):=by simp_all[Fk,e1]
    rw[hR]
    exact EV (cj i1 (cj i2 (cj i3 (cj @KK.eq_1 (cj hF (cj hF2 hF3)))))) trivial
theorem az{name:AQ}:∀(l:List Ftr) (n:Int),n<=l.foldl (Dm name) n
 |[],n=>Zck _
 |f::l,n=>by
  have h1:n<=Dm name n f:=by grind[Dm]
  exact Int.le_trans h1 (az l _)
theorem wN(c:Cat)(name:AQ):0<=Fj c name:=az _ _
def Ha(f:Ftr)(v:Int):Ftr:=⟨f.name,f.entity,f.typ,f.body,v⟩
def Jv(c:Cat)(f:Ftr):Cat×Int:=
 if f.version≠0 then(BD,1)else if 0<=BN c.drafts f.name then(BD,121)else if Dz c f≠0 then(BD,Dz c f)
 else if 1099511627776<=Fj c f.name then(BD,2)else({c with drafts:=BS c.drafts (Ha f (Fj c f.name+1))},0)
theorem wO(c:Cat)(f:Ftr)(hc:AR c<=1073741823)(hf:Bd f<=1073741823)(h1:c.features.length<=1073741)(h2:c.drafts.length<=1073741)(h3:c.past.length<=1073741):Is mx 177 [.agg (Ap c),.agg (Af f)] (KK (Jv c f)):=by
 have i1:=NB (mx:=mx) c.drafts f.name (by omega);have f1:=Z0 (mx:=mx) c f (by omega) (by omega);have n1:=wI (mx:=mx) c f.name h1 h2 h3;have hge:=wN c f.name;have hR:=Jv.eq_1 c f;rw[Ci]at f1⊢;refine MX pN ?_;by_cases hv:f.version=0
 ·rw[Zac (by omega)]at hR;rcases Eo c.drafts f.name with⟨e,_⟩|⟨i,e,hi,_⟩
  ·rw[e]at i1 hR;rw[Zac (by omega)]at hR;by_cases qk:Dz c f=0
   ·rw[Zac (by omega)]at hR;rw[qk]at f1;by_cases hnw:1099511627776<=Fj c f.name
    ·rw[Zaa hnw]at hR;rw[hR]
     (repeat' first|simp(disch:=omega)only[go_sem,simprocAttr,KK,Za8 hv,Zaj,Za3,Za2,Za1,Za8 hnw]|refine Sx.s ?_ ?_<;>try(intro h;have h':=h;try simp only[HB]at h';try simp only[h])|refine Ab (i1) ?_|refine Ab (f1) ?_|refine Ab (n1) ?_|refine Ac ?_|refine Sz.s ?_|fail)
     all_goals(try rfl)
    ·rw[Zac hnw]at hR;rw[hR];have s1:=NC (mx:=mx) c.drafts (Ha f (Fj c f.name+1)) (by omega);rw[Ci]at s1;simp only[Ha]at s1
     (repeat' first|simp(disch:=omega)only[go_sem,simprocAttr,KK,Za8 hv,Zaj,Za3,Za2,Za1,Za9 hnw]|refine Sx.s ?_ ?_<;>try(intro h;have h':=h;try simp only[HB]at h';try simp only[h])|refine Ab (i1) ?_|refine Ab (f1) ?_|refine Ab (n1) ?_|refine Ab (s1) ?_|refine Ac ?_|refine Sz.s ?_|fail)
     all_goals(try rfl)
   ·rw[Zaa qk]at hR;rw[hR];have hn:(Dz c f=0)=False:=Za9 qk
    (repeat' first|simp(disch:=omega)only[go_sem,simprocAttr,KK,Za8 hv,Zaj,Za3,Zat,Za2,Za1,hn]|refine Sx.s ?_ ?_<;>try(intro h;have h':=h;try simp only[HB]at h';try simp only[h])|refine Ab (i1) ?_|refine Ab (f1) ?_|refine Ac ?_|refine Sz.s ?_|fail)
    all_goals(try rfl)
  ·rw[e]at i1 hR;rw[Zaa (by omega)]at hR;rw[hR];have hF2:(0<=(i:Int))=True:=Za8 (by omega);exact AU (cj i1 (cj @KK.eq_1 (cj hv hF2))) trivial
 ·rw[Zaa hv]at hR;rw[hR];have hn:(f.version=0)=False:=Za9 hv;exact A8 (cj @KK.eq_1 hn) trivial
end
section
def RC(a b:Chg):Bool:=decide (a.kind=b.kind)&&decide (a.name=b.name)&&FJ a.table b.table&&Ge a.feature b.feature
theorem UK(a b:Chg)(ha:D5 a<=1073741824)(hb:D5 b<=1073741824):Is mx 175 [.agg (AF a),.agg (AF b)] (.bool (RC a b)):=by
 have a3:=Gd a;have b3:=Gd b;have h2:=Ui (mx:=mx) a.table b.table (by omega) (by omega);have h3:=Uj (mx:=mx) a.feature b.feature (by omega) (by omega);refine MX nC ?_
 (repeat' first|exact Ao _|simp only[go_sem,simprocAttr]|refine' Av (fun hq=>?_) (fun f=>?_)<;>try(have jd:=hq;try simp only[HB]at jd)|refine Ab (h2) ?_|refine Ab (h3) ?_|refine Sz.s ?_|fail)
 all_goals rfl
def Jw(x:Chg):Chg:=if x.kind=1 then⟨x.kind,x.table,Cs,[]⟩else if x.kind=2 then⟨x.kind,Bk,x.feature,[]⟩else⟨x.kind,Bk,Cs,x.name⟩
def Gq(x:Chg):Bool:=if 1<=x.kind/\x.kind<=5 then RC x (Jw x)else false
theorem wP(x:Chg)(hx:D5 x<=1073741000):Is mx 127 [.agg (AF x)] (.bool (Gq x)):=by
 have hb:=Gd x;have n1:Bd Cs=4:=by decide
 have n2:Dh Bk=1:=by decide
 have c1:=UK (mx:=mx) x ⟨x.kind,x.table,Cs,[]⟩ (by omega) (by rw[Gd];simp only[n1];simp;omega);have c2:=UK (mx:=mx) x ⟨x.kind,Bk,x.feature,[]⟩ (by omega) (by rw[Gd];simp only[n2];simp;omega);have c3:=UK (mx:=mx) x ⟨x.kind,Bk,Cs,x.name⟩ (by omega) (by rw[Gd];simp only[n1,n2];omega);have e1:=Ci x.feature;by_cases hk:1<=x.kind/\x.kind<=5
 ·have jk:x.kind=1\/x.kind=2\/x.kind=3\/x.kind=4\/x.kind=5:=by omega
  have hR:Gq x=RC x (Jw x):=by grind[Gq]
  rw[hR];have q1:x.kind≠1->x.kind≠2->Jw x=⟨x.kind,Bk,Cs,x.name⟩:=fun h1 h2=>by grind[Jw]
  rw[Bw ⟨x.kind,x.table,Cs,[]⟩]at c1;rw[Bw ⟨x.kind,Bk,x.feature,[]⟩]at c2;rw[Bw ⟨x.kind,Bk,Cs,x.name⟩]at c3;refine MX Yy ?_;rcases jk with h|h|h|h|h
  ·rw[show Jw x=⟨x.kind,x.table,Cs,[]⟩ by rw[Jw,Zaa h]];rw[h]at c1⊢;exact EV (cj c1 h) trivial
  ·rw[show Jw x=⟨x.kind,Bk,x.feature,[]⟩ by rw[Jw,Zac (by omega),Zaa h]];rw[h]at c2⊢;exact EV (cj c2 (cj h @Ci)) trivial
  ·rw[q1 (by omega) (by omega)];rw[h]at c3⊢;exact EV (cj c3 h) trivial
  ·rw[q1 (by omega) (by omega)];rw[h]at c3⊢;exact EV (cj c3 h) trivial
  ·rw[q1 (by omega) (by omega)];rw[h]at c3⊢;exact EV (cj c3 h) trivial
 ·rw[Gq,Zac hk];have f1:(x.kind=1)=False:=Za9 (by omega);have f2:(x.kind=2)=False:=Za9 (by omega);have f3:(x.kind=3)=False:=Za9 (by omega);have f4:(x.kind=4)=False:=Za9 (by omega);have f5:(x.kind=5)=False:=Za9 (by omega);refine MX Yy ?_;exact FU (cj f1 (cj f2 (cj f3 (cj f4 f5)))) trivial
def CJ(c:Cat)(x:Chg):Cat×Int:=
 if x.kind=1 then G9 c x.table else if x.kind=2 then Jv c x.feature else if x.kind=3 then Gp c x.name else if x.kind=4 then Fk c x.name else ID c x.name
theorem wQ(c:Cat)(x:Chg)(hc:AR c<=1073741)(hx:D5 x<=1073741):Is mx 128 [.agg (Ap c),.agg (AF x)] (KK (CJ c x)):=by
 have hb:=Gd x;have hcb:=BR c;have l0:=G3 c.tables;have l1:=C1 c.features;have l2:=C1 c.drafts;have l3:=C1 c.past;have c1:=wH (mx:=mx) c x.table (by omega);have c2:=wO (mx:=mx) c x.feature (by omega) (by omega) (by omega) (by omega) (by omega);have c3:=wL (mx:=mx) c x.name (by omega) (by omega) (by omega);have c4:=wM (mx:=mx) c x.name (by omega) (by omega) (by omega);have c5:=wK (mx:=mx) c x.name (by omega);unfold CJ;refine MX mq ?_;by_cases h1:x.kind=1
 ·rw[Zaa h1];exact EV (cj c1 (cj @KK.eq_1 h1)) trivial
 rw[Zac h1];by_cases h2:x.kind=2
 ·rw[Zaa h2];exact EV (cj c2 (cj @KK.eq_1 (cj h1 h2))) trivial
 rw[Zac h2];by_cases h3:x.kind=3
 ·rw[Zaa h3];exact EV (cj c3 (cj @KK.eq_1 (cj h1 (cj h2 h3)))) trivial
 rw[Zac h3];by_cases h4:x.kind=4
 ·rw[Zaa h4];exact EV (cj c4 (cj @KK.eq_1 (cj h1 (cj h2 (cj h3 h4))))) trivial
 ·rw[Zac h4];exact EV (cj c5 (cj @KK.eq_1 (cj h1 (cj h2 (cj h3 h4))))) trivial
theorem Hb{α:Type}(b:α->Nat)(l r:List α):Ag b (l++r)=Ag b l+Ag b r:=by
 induction l with
 |nil=>simp[Ag]
 |cons a l ih=>simp only[Zc3,Ag,ih];omega
theorem UL{α:Type}(b:α->Nat)(l:List α)(k:Nat):Ag b (l.take k)+Ag b (l.drop k)=Ag b l:=by rw[<-Hb,Zga]
theorem LZ{α:Type}(b:α->Nat)(l:List α)(k:Nat)(x:α):Ag b (Bg l k x)=Ag b l+b x:=by grind[UL,Bg,Hb,Ag]
theorem wR(l:List Ftr)(f:Ftr):Ag Bd (BS l f)=Ag Bd l+Bd f:=LZ Bd l _ f
theorem PC{α:Type}[Inhabited α](b:α->Nat)(l:List α)(k:Nat)(h:k<l.length):Ag b (A5 l k)+b (l.getD k default)=Ag b l:=by grind[UL,Dj,A5,Hb,Ag]
theorem wS(f:Ftr)(v:Int):Bd (Ha f v)=Bd f:=rfl
theorem RD(c:Cat)(x:Chg):AR (CJ c x).1<=AR c+D5 x:=by
 have hx:=Gd x;have hc:=BR c;have hn:AR BD=1:=rfl;unfold CJ;split
 ·unfold G9;split
  ·show AR BD<=_;omega
  ·show AR {c with tables:=En c.tables x.table}<=_;have:=LZ Dh c.tables (ER c.tables x.table.name) x.table;rw[BR];simp only[En];omega
 split
 ·unfold Jv;repeat' split
  all_goals first|(show AR BD<=_;omega)|skip
  have h2:=wS x.feature (Fj c x.feature.name+1);generalize Ha x.feature (Fj c x.feature.name+1)=g at h2⊢;have h1:=wR c.drafts g;have h3:=BR ⟨c.tables,c.features,BS c.drafts g,c.past⟩;simp only at h3;rw[h1,h2]at h3;exact(show AR ⟨c.tables,c.features,BS c.drafts g,c.past⟩<=_ by rw[h3];omega)
 split
 ·unfold Gp;rcases Eo c.drafts x.name with⟨e,_⟩|⟨i,e,hi,_⟩
  ·rw[e,Zaa (by omega)];show AR BD<=_;omega
  ·rw[e,Zac (by omega)];have d1:=PC Bd c.drafts i hi;rcases Eo c.features x.name with⟨e',_⟩|⟨j,e',hj,_⟩
   ·rw[e',Zaa (by omega)];simp only[Zco];have:=LZ Bd c.features (Fi c.features (c.drafts.getD i default).name) (c.drafts.getD i default);rw[BR];simp only[BS];omega
   ·rw[e',Zac (by omega)];simp only[Zco];have d2:=PC Bd c.features j hj;have s1:=LZ Bd (A5 c.features j) (Fi (A5 c.features j) (c.drafts.getD i default).name) (c.drafts.getD i default);have s2:=LZ Bd c.past (Fi c.past (c.features.getD j default).name) (c.features.getD j default);rw[BR];simp only[BS];omega
 split
 ·unfold Fk;rcases Eo c.features x.name with⟨e,_⟩|⟨j,e,hj,_⟩
  ·rw[e,Zaa (by omega)];show AR BD<=_;omega
  ·rw[e,Zac (by omega)];split
   ·show AR BD<=_;omega
   ·rename_i hq;rcases RA c.past x.name c.past.length with e3|⟨o,e3,ho,_⟩
    ·have e3':HS c.past x.name=-1:=e3;omega
    ·have e3':HS c.past x.name=(o:Int):=e3;rw[e3'];simp only[Zco];have d2:=PC Bd c.features j hj;have d3:=PC Bd c.past o ho;have s1:=LZ Bd (A5 c.features j) (Fi (A5 c.features j) (c.past.getD o default).name) (c.past.getD o default);have s2:=LZ Bd c.drafts (Fi c.drafts (c.features.getD j default).name) (c.features.getD j default);rw[BR];simp only[BS];omega
 ·unfold ID;rcases Eo c.drafts x.name with⟨e,_⟩|⟨i,e,hi,_⟩
  ·rw[e,Zaa (by omega)];show AR BD<=_;omega
  ·rw[e,Zac (by omega)];simp only[Zco];have d1:=PC Bd c.drafts i hi;rw[BR];simp only;omega
def L0(c:Cat)(x:Chg):Int:=if(CJ c x).2=0 then G8 (CJ c x).1 else(CJ c x).2
def Cu(c:Cat)(x:Chg):Cat×Int:=if Gq x=false then(BD,1)else if L0 c x≠0 then(BD,L0 c x)else((CJ c x).1,0)
theorem aA(c:Cat)(x:Chg)(hb:AR c+D5 x<=1073741):Is mx 84 [.agg (Ap c),.agg (AF x)] (KK (Cu c x)):=by
 have hch:=RD c x;have c1:=wP (mx:=mx) x (by omega);have c2:=wQ (mx:=mx) c x (by omega) (by omega);have c3:=vZ (mx:=mx) (CJ c x).1 (by omega);have hR:=Cu.eq_1 c x;have hE:=L0.eq_1 c x;generalize CJ c x=r at c2 c3 hR hE;refine MX F84 ?_;cases hp:Gq x
 ·rw[hp]at c1;rw[Zaa hp]at hR;rw[hR];exact EV (cj c1 @KK.eq_1) trivial
 ·rw[hp]at c1;rw[Zac (by rw[hp];simp)]at hR;by_cases h0:r.2=0
  ·rw[Zaa h0]at hE;by_cases hk:G8 r.1=0
   ·rw[Zac (by omega)]at hR;rw[hR];exact AU (cj c1 (cj c2 (cj c3 (cj @KK.eq_1 (cj h0 hk))))) trivial
   ·rw[Zaa (by omega),hE]at hR;rw[hR];exact AU (cj c1 (cj c2 (cj c3 (cj @KK.eq_1 (cj h0 hk))))) trivial
  ·rw[Zac h0]at hE;rw[Zaa (by omega),hE]at hR;rw[hR];exact AU (cj c1 (cj c2 (cj @KK.eq_1 h0))) trivial
def Bs(l:List Ent)(tick:Int):Nat->Cat
 |0=>BD
 |i+1=>if(l.getD i default).kind≠3\/tick<(l.getD i default).tick then Bs l tick i else if(Cu (Bs l tick i) (l.getD i default).change).2=0 then(Cu (Bs l tick i) (l.getD i default).change).1 else Bs l tick i
def atR(l:List Ent)(tick:Int):Cat:=Bs l tick l.length
theorem aB(c:Cat)(x:Chg):AR (Cu c x).1<=AR c+D5 x:=by
 have:=RD c x;have hn:AR BD=1:=rfl;have hc:=BR c;unfold Cu;repeat' split
 ·grind
 ·grind
 ·exact this
theorem PD(l:List Ent)(tick:Int):∀i,i<=l.length->AR (Bs l tick i)<=Ag AB (l.take i)+1
 |0,_=>by simp[Bs,Ag];decide
 |i+1,h=>by
  have h0:=PD l tick i (by omega);have h1:Ag AB (l.take (i+1))=Ag AB (l.take i)+AB (l.getD i default):=by grind[BM,Hb,Ag]
  have h2:=El (l.getD i default);have h3:=aB (Bs l tick i) (l.getD i default).change;rw[h1];simp only[Bs];repeat' split
  all_goals omega
theorem NF{α:Type}(b:α->Nat)(l:List α)(k:Nat):Ag b (l.take k)<=Ag b l:=by have:=UL b l k;omega
theorem aC(l:List Ent)(tick:Int)(hl:Ag AB l<=1073740):Is mx 64 [.sl (l.map Ae),iI tick] (.agg (Ap (atR l tick))):=by
 have je:=LM l;refine MX F64 ?_
 (repeat' first|simp(disch:=omega)only[go_sem,simprocAttr]|fail)
 refine Df [0,1,4,5] (by simp only[V0,JK,reduceIte,Nat.reduceEqDiff];rfl) (fun i=>[(6,.i (iI i))]) (fun i=>[(5,.cells ((Ap (Bs l tick i)).map .i)),(4,.cells LY)]) (fun _=>True) l.length 0 (by omega) trivial (by simp[V0,H0,Ref.nm,Bs,Ap,D.nms,Oe]) ?_;intro i hi _;have hb:=PD l tick i hi;have qy:=NF AB l (i+1);by_cases ja:i<l.length
 ·have hts:Ag AB (l.take (i+1))=Ag AB (l.take i)+AB (l.getD i default):=by rw[BM ja,Hb];simp[Ag]
  have hbe:=El (l.getD i default);have hS:Bs l tick (i+1)=if(l.getD i default).kind≠3\/tick<(l.getD i default).tick then Bs l tick i else if(Cu (Bs l tick i) (l.getD i default).change).2=0 then(Cu (Bs l tick i) (l.getD i default).change).1 else Bs l tick i:=rfl
  have c1:=aA (mx:=mx) (Bs l tick i) (l.getD i default).change (by omega);generalize Bs l tick i=c at hS c1;by_cases hk:(l.getD i default).kind=3
  ·by_cases ht:tick<(l.getD i default).tick
   ·rw[Zaa (.inr ht)]at hS;refine lY (cj (BV ja) (cj hk ht)) ?_;rw[hS]
   ·rw[Zac (by omega)]at hS;generalize Cu c (l.getD i default).change=r at hS c1;by_cases h0:r.2=0
    ·rw[Zaa h0]at hS;refine lY (cj c1 (cj @KK.eq_1 (cj (BV ja) (cj hk (cj ht h0))))) ?_;rw[hS]
    ·rw[Zac h0]at hS;refine lY (cj c1 (cj @KK.eq_1 (cj (BV ja) (cj hk (cj ht h0))))) ?_;rw[hS]
  ·rw[Zaa (.inl hk)]at hS;refine lY (cj (BV ja) hk) ?_;rw[hS]
 ·have e:i=l.length:=by omega
  rw[atR,<-e];exact A8 (Hi ja) trivial
end
section
def Jx(s:AQ):Bool:= !s.any (Cq 33)&&decide (1<=(s.length:Int))&&decide ((s.length:Int)<=32)
theorem wT(s:AQ)(hs:s.length<=1073741824):Is mx 126 [.str s] (.bool (Jx s)):=by
 refine MX oE ?_;refine Od ?_;refine lS [0] (fun i=>[(3,.i (iI i))]) (fun _=>[]) (fun i=>(s.take i).all (fun c=>!Cq 33 c)=true) s.length ?_;intro i hi jb;by_cases ja:i<s.length
 ·refine Ka (BV ja) (cj ?_ ?_)
  ·intro h h';have hb:Cq 33 (s.getD i default)=true:=h;have:s.any (Cq 33)=true:=by grind
   rw[Jx,this];rfl
  ·intro h h';have hb:Cq 33 (s.getD i default)=false:=h;exact BW (d:=default) jb ja (by rw[hb];rfl)
 ·rw[Zgf (by omega),Zcu]at jb;have:s.any (Cq 33)=false:=by grind
  rw[Jx,this];exact EV (Hi ja) trivial
abbrev NG:Fid:=⟨[],0⟩
def L1(x:Ers):Bool:=
 if x.kind=1 then C6 x.entity&&Jx x.key&&decide (x.id=NG)
 else decide (x.kind=2)&&C6 x.id.source&&decide (1<=x.id.seq)&&decide (x.id.seq<=1099511627776)&&decide (x.entity=[])&&decide (x.key=[])
theorem Hc(a b:Fid):decide (a=b)=(decide (a.source=b.source)&&decide (a.seq=b.seq)):=by cases a;cases b;simp
theorem DA(a b:AQ):(a==b)=decide (a=b):=by grind
theorem DB(a b:Int):(a==b)=decide (a=b):=by rfl
theorem wU(x:Ers)(hx:Iq x<=1073741824):Is mx 83 [.agg (Cy x)] (.bool (L1 x)):=by
 have h0:x.key.length<=1073741824:=by grind[Iq,LH]
 have h1:=wT (mx:=mx) x.key h0;refine MX F83 ?_
 (repeat' first|exact Ao _|simp(disch:=omega)only[go_sem,simprocAttr]|refine' Av (fun hq=>?_) (fun f=>?_)<;>try(have jd:=hq;try simp only[HB]at jd)|refine Sx.s ?_ ?_<;>try(intro h;have h':=h;try simp only[HB]at h';try rewrite [h];try simp only[h])|refine Ab (Iw _) ?_|refine Ab (h1) ?_|refine Ac ?_|refine Sz.s ?_|fail)
 all_goals(refine Zae I.bool ?_;simp only[L1,Hc,DA,DB];first|done|(grind(splits:=20)))
def NH(f:Fct):Bool:=decide (f.id=NG)&&decide (f.kind=0)&&decide (f.ref=0)&&decide (f.table=[])&&decide (f.key=[])&&decide (f.event=0)&&decide ((f.fields.length:Int)=0)
theorem wV(f:Fct):Is mx 121 [.agg (BJ f)] (.bool (NH f)):=by
 refine MX nr ?_;refine eP ?_
 all_goals intros
 all_goals(refine Zae I.bool ?_;simp only[NH,Hc,DA,DB];first|done|(grind(splits:=20)))
def NI(x:Chg):Bool:=FJ x.table Bk&&Ge x.feature Cs&&decide (x.kind=0)&&decide (x.name=[])
theorem wW(x:Chg)(hx:D5 x<=1073741824):Is mx 122 [.agg (AF x)] (.bool (NI x)):=by
 have a3:=Gd x;have h2:=Ui (mx:=mx) x.table Bk (by omega) (by decide);have h3:=Uj (mx:=mx) x.feature Cs (by omega) (by decide);refine MX oD ?_;refine EV (cj h2 h3) ?_
 all_goals intros
 all_goals(refine Zae I.bool ?_;simp only[NI];first|done|(grind(splits:=20)))
abbrev Jy:Ers:=⟨0,[],[],NG⟩
def FM(x:Ent):Bool:=
 decide (x.kind=1)&&decide (x.erasure=Jy)&&NI x.change||decide (x.kind=2)&&NH x.fact&&NI x.change||decide (x.kind=3)&&NH x.fact&&decide (x.erasure=Jy)
theorem aD(a b:Ers):decide (a=b)=(decide (a.kind=b.kind)&&(decide (a.entity=b.entity)&&(decide (a.key=b.key)&&decide (a.id=b.id)))):=by cases a;cases b;simp
theorem wX(x:Ent)(hx:AB x<=1073741824):Is mx 80 [.agg (Ae x)] (.bool (FM x)):=by
 have a1:=El x;have h1:=wV (mx:=mx) x.fact;have h2:=wW (mx:=mx) x.change (by omega);refine MX F80 ?_;refine EV (cj h1 h2) ?_
 all_goals intros
 all_goals(refine Zae I.bool ?_;simp only[FM,aD,Hc,DA,DB];first|done|(grind(splits:=20)))
def Jz(l:List Ent)(at_:Nat)(x:Ent):Bool:=decide (x.kind=1)&&decide (x.fact.id=(l.getD at_ default).fact.id)
def FN(l:List Ent)(at_:Nat):Bool:=(l.take at_).any (Jz l at_)
theorem wY(l:List Ent)(at_:Nat)(hl:l.length<=1073741824)(ha:at_<l.length):Is mx 82 [.sl (l.map Ae),iI at_] (.bool (FN l at_)):=by
 refine MX F82 ?_;refine Od ?_;refine lS [0,1] (fun i=>[(5,.i (iI i))]) (fun _=>[]) (fun i=>(l.take i).all (fun x=>!Jz l at_ x)=true) at_ ?_;intro i hi jb;by_cases ja:i<at_
 ·have wl:i<l.length:=by omega
  have hs:∀b1 b2,decide ((l.getD i default).kind=1)=b1->decide ((l.getD i default).fact.id=(l.getD at_ default).fact.id)=b2->Jz l at_ (l.getD i default)=(b1&&b2):=fun b1 b2 h1 h2=>by grind[Jz]
  have hyes:Jz l at_ (l.getD i default)=true->FN l at_=true:=fun e=>by rw[FN,Zcz];refine⟨l.getD i default,?_,e⟩;have:=At (n:=i) (l:=l.take at_) (by simp;omega);grind
  have hno:Jz l at_ (l.getD i default)=false->(l.take (i+1)).all (fun x=>!Jz l at_ x)=true:=fun e=>BW (d:=default) jb wl (by rw[e];rfl)
  cases h1:decide ((l.getD i default).kind=1)
  ·refine La (cj (BV ja) (cj (BV wl) h1)) ?_;exact hno (hs _ _ h1 rfl)
  ·cases h2:decide ((l.getD i default).fact.id=(l.getD at_ default).fact.id)
   ·have h3:=h2;rw[Hc]at h3;refine La (cj (BV ja) (cj (BV wl) (cj (BV ha) (cj h1 (cj @DA (cj @DB h3)))))) ?_;exact hno (hs _ _ h1 h2)
   ·have h3:=h2;rw[Hc]at h3;refine FU (cj (BV ja) (cj (BV wl) (cj (BV ha) (cj h1 (cj @DA (cj @DB h3)))))) ?_;rw[hyes (hs _ _ h1 h2)]
 ·refine FU (Hi ja) ?_;have e:i=at_:=by omega
  rw[e]at jb;have:FN l at_=false:=by grind[FN]
  rw[this]
end
end Go.Proofs.YtojgbkiejjingaaGreatDoor
