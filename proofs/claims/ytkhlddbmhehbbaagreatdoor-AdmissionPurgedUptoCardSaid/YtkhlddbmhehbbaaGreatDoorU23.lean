/-Lemmas.-/
import Derived.Test.YtkhlddbmhehbbaaGreatDoorU22
set_option linter.all false
set_option maxRecDepth 100000
set_option maxHeartbeats 8000000
namespace Go.Proofs.YtkhlddbmhehbbaaGreatDoor
open Go Go.Dl Go.As Go.Proofs
variable {mx:Int}
attribute[local irreducible] Ah Ai MC W2 EM ev evD step Ad
section
def Lk(c:Cat)(name:AT):Cat×Int:=if BY c.drafts name<0 then(c,4)else IU c name
theorem aBx(c:Cat)(x:Chg)(h2:c.drafts.length<=1073741824):Is mx 137 [.agg (At c),.agg (AE x)] (Ln (Lk c x.name)):=by
 have i1:=Om (mx:=mx) c.drafts x.name h2;refine MX oR ?_;rcases EF c.drafts x.name with⟨e,_⟩|⟨i,e,hi,_⟩
 ·rw[e]at i1;have hR:Lk c x.name=(c,4):=by grind[Lk]
  rw[hR];exact Dp (cj i1 (cj @Ln.eq_1 @Bw)) trivial
 ·rw[e]at i1;have hR:Lk c x.name=({c with drafts:=Bd c.drafts i},0):=by rw[Lk,e,if_neg (by omega),IU,e,if_neg (by omega)];rfl
  rw[hR];have hF:((i:Int)<0)=False:=eq_false (by omega);have w1:=Qf (mx:=mx) c.drafts i h2 hi;exact Dp (cj i1 (cj w1 (cj @Ln.eq_1 (cj @Bw hF)))) trivial
def I4(c:Cat)(name:AT):Cat×Int:=if BY c.drafts name<0 then(c,4)else GQ c name
theorem aBy(c:Cat)(x:Chg)(h1:c.features.length<=1073741823)(h2:c.drafts.length<=1073741823)(h3:c.past.length<=1073741823):Is mx 134 [.agg (At c),.agg (AE x)] (Ln (I4 c x.name)):=by
 have i1:=Om (mx:=mx) c.drafts x.name (by omega);have i2:=Om (mx:=mx) c.features x.name (by omega);refine MX pU ?_;rcases EF c.drafts x.name with⟨e,_⟩|⟨i,e,hi,_⟩
 ·rw[e]at i1;have hR:I4 c x.name=(c,4):=by grind[I4]
  rw[hR];exact Dp (cj i1 (cj @Ln.eq_1 @Bw)) trivial
 ·rw[e]at i1;have hF:((i:Int)<0)=False:=eq_false (by omega);have w1:=Qf (mx:=mx) c.drafts i (by omega) hi;rcases EF c.features x.name with⟨e',_⟩|⟨j,e',hj,_⟩
  ·rw[e']at i2;have hR:I4 c x.name=(⟨c.tables,B4 c.features (c.drafts.getD i default),Bd c.drafts i,c.past⟩,0):=by rw[I4,e,if_neg (by omega),GQ,e,e',if_neg (by omega),if_pos (by omega)];rfl
   rw[hR];have s1:=On (mx:=mx) c.features (c.drafts.getD i default) h1;exact Dp (cj i1 (cj w1 (cj i2 (cj s1 (cj @Ln.eq_1 (cj @Bw (cj hF (Cq hi)))))))) trivial
  ·rw[e']at i2;have hR:I4 c x.name=(⟨c.tables,B4 (Bd c.features j) (c.drafts.getD i default),Bd c.drafts i,B4 c.past (c.features.getD j default)⟩,0):=by rw[I4,e,if_neg (by omega),GQ,e,e',if_neg (by omega),if_neg (by omega)];rfl
   rw[hR];have hF2:(0<=(j:Int))=True:=eq_true (by omega);have w2:=Qf (mx:=mx) c.features j (by omega) hj;have s1:=On (mx:=mx) (Bd c.features j) (c.drafts.getD i default) (by have:=RT c.features j;omega);have s2:=On (mx:=mx) c.past (c.features.getD j default) h3
   (repeat' first|simp(disch:=omega)only[go_sem,simprocAttr,Ln,Bw,hF,hF2,Cq hi,Cq hj]|refine Sx.s ?_ ?_<;>try(intro h;have h':=h;try simp only[HB]at h';try rewrite [h];try simp only[h])|refine Ab (i1) ?_|refine Ab (w1) ?_|refine Ab (i2) ?_|refine Ab (w2) ?_|refine Ab (s1) ?_|refine Ab (s2) ?_|refine Ae ?_|refine AG ?_|refine Sz.s ?_|fail)
   all_goals(try rfl)
def Hs(c:Cat)(name:AT):Cat×Int:=if BY c.features name<0 then(c,4)else if H9 c.past name<0\/0<=BY c.drafts name then(c,140)else FG c name
theorem aBz(l:List Ftr)(name:AT)(i:Nat):GP l name (i+1)=if(l.getD i default).name=name then(i:Int)else GP l name i:=rfl
theorem aC0(c:Cat)(x:Chg)(h1:c.features.length<=1073741823)(h2:c.drafts.length<=1073741823)(h3:c.past.length<=1073741823):Is mx 136 [.agg (At c),.agg (AE x)] (Ln (Hs c x.name)):=by
 have i1:=Om (mx:=mx) c.drafts x.name (by omega);have i2:=Om (mx:=mx) c.features x.name (by omega);refine MX nF ?_;rcases EF c.features x.name with⟨e,_⟩|⟨j,e,hj,_⟩
 ·rw[e]at i2;have hR:Hs c x.name=(c,4):=by grind[Hs]
  rw[hR];exact Dp (cj i2 (cj @Ln.eq_1 @Bw)) trivial
 ·rw[e]at i2;have hF:((j:Int)<0)=False:=eq_false (by omega);refine Dp (cj i2 (cj @Ln.eq_1 (cj @Bw hF))) ?_;refine lT [2,3,4,6,19,20] (fun i:Nat=>[(7,.i (iI (GP c.past x.name i))),(21,.i (iI i))]) (fun _=>[(2,.cells ((At c).map .i)),(4,.cells ME)]) (fun i=>i<=c.past.length) (fun i=>c.past.length-i) 0 ?_;intro k hk;by_cases jk:k<c.past.length
  ·have jh:=aBz c.past x.name k;by_cases hn:(c.past.getD k default).name=x.name
   ·rw[if_pos hn]at jh;refine Hw (cj @Cx (cj (Cq jk) hn)) ?_;refine⟨k+1,by omega,by omega,?_⟩;exact⟨by rw[jh],rfl⟩
   ·rw[if_neg hn]at jh;refine Hw (cj @Cx (cj (Cq jk) hn)) ?_;refine⟨k+1,by omega,by omega,?_⟩;exact⟨by rw[jh],rfl⟩
  ·have ek:k=c.past.length:=by omega
   subst ek;have hL:H9 c.past x.name=GP c.past x.name c.past.length:=rfl;rcases RS c.past x.name c.past.length with e3|⟨o,e3,ho,_⟩
   ·have hR:Hs c x.name=(c,140):=by rw[Hs,e,hL,e3,if_neg (by omega),if_pos (.inl (by omega))]
    rw[hR,e3];exact Hw (Ih jk) trivial
   ·have hF3:((o:Int)<0)=False:=eq_false (by omega);rcases EF c.drafts x.name with⟨e1,_⟩|⟨i,e1,hi,_⟩
    ·rw[e1]at i1;have hR:Hs c x.name=(⟨c.tables,B4 (Bd c.features j) (c.past.getD o default),B4 c.drafts (c.features.getD j default),Bd c.past o⟩,0):=by rw[Hs,e,e1,hL,e3,if_neg (by omega),if_neg (by omega),FG,e,e1,hL,e3,if_neg (by omega),if_neg (by omega)];rfl
     rw[hR,e3];have w2:=Qf (mx:=mx) c.features j (by omega) hj;have w3:=Qf (mx:=mx) c.past o (by omega) ho;have s1:=On (mx:=mx) (Bd c.features j) (c.past.getD o default) (by have:=RT c.features j;omega);have s2:=On (mx:=mx) c.drafts (c.features.getD j default) h2;exact Dp (cj i1 (cj w2 (cj w3 (cj s1 (cj s2 (cj (Ih jk) (cj hF3 (cj (Cq hj) (Cq ho))))))))) trivial
    ·rw[e1]at i1;have hF2:(0<=(i:Int))=True:=eq_true (by omega);have hR:Hs c x.name=(c,140):=by grind[Hs]
     rw[hR,e3];exact Dp (cj i1 (cj (Ih jk) (cj hF2 hF3))) trivial
end
section
theorem aC1(n:Nat)(hn:n<=1073741824):MC Tryz.prog (OE mx) 231 [.ref (.sl 5500 18 0 0),.i (iI n)] [(5500,.arr 62 18 [])] [5500]
  (fun r s=>∃nm,(nm=5500\/nm=6000)/\r=.ref (.sl nm 18 0 0)/\s=[(nm,.rows 62 18 [])]):=by
 refine MC.rowsOut (R:=fun r s=>∃nm,(nm=5500\/nm=6000)/\r=.ref (.sl nm 18 0 0)/\∃j,s=[(nm,.arr 62 18 (([]:List (List I)).map some++j))]) ?_ fun r s ⟨nm,hn,hr,j,hs⟩=>⟨nm,_,_,[],j,[],hs,nm,hn,hr,rfl⟩
 have hF:((n:Int)<0)=False:=eq_false (by omega);refine MX rX ?_;by_cases h0:n=0
 ·subst h0
  (repeat' first|simp(disch:=omega)only[go_sem,simprocAttr,Nat.sub_zero,List.length_nil]|refine Ae ?_|fail)
  refine EX [(5500,5500)] ?_;exact⟨5500,.inl rfl,rfl,[],rfl⟩
 ·have hp:((n:Int)>0)=True:=eq_true (by omega);have hp1:((0:Int)<(n:Int))=True:=eq_true (by omega);have hp2:(0<n)=True:=eq_true (by omega);have hp3:(n<=0)=False:=eq_false (by omega)
  (repeat' first|simp(disch:=omega)only[go_sem,simprocAttr,hF,hp,hp2,hp3,Nat.sub_zero,List.length_nil,Int.sub_zero,Int.toNat_natCast,List.length_replicate,Nat.zero_add,false_implies,true_implies,true_and,and_true]|refine Ae ?_|(refine And.intro ?_ ?_;focus omega))
  refine⟨⟨fun r hr=>by rw[(List.mem_replicate.1 hr).2];rfl,fun r hr=>by rw[(List.mem_replicate.1 hr).2];rfl⟩,[],rfl,⟨by simp,by simp⟩,by omega,by omega,fun c=>?_⟩;generalize List.replicate n _=zs
  (repeat' first|simp(disch:=omega)only[go_sem,simprocAttr,List.nil_append]|(refine And.intro ?_ ?_;focus omega))
  refine EX [(22,6000)] ?_;exact⟨6000,.inr rfl,rfl,_,rfl⟩
theorem aC2(nm:Nat)(jl:nm<5000)(n:Nat)(hn:n<=1073741824):MC Tryz.prog (OE mx) 231 [.ref (.sl nm 18 0 0),.i (iI n)] [(nm,.arr 62 18 [])] [nm]
  (fun r s=>∃m,(m=nm\/m=6000)/\r=.ref (.sl m 18 0 0)/\s=[(m,.rows 62 18 [])]):=by
 have e1:MS [(5500,nm)] 5500=nm:=by rfl
 have e2:MS [(5500,nm)] 6000=6000:=by
  have:¬(6000=nm):=by omega
  simp[MS,sw,this]
 have h:=(MC.as [(5500,nm)] (aC1 (mx:=mx) n hn)).mono (R':=fun r s=>∃m,(m=nm\/m=6000)/\r=.ref (.sl m 18 0 0)/\s=[(m,.rows 62 18 [])]) (by
  rintro r s ⟨m,hm,h1,h2⟩;have k:=Ex (f:=J6 [(5500,nm)]) (g:=MS [(5500,nm)]) (Cb _) r;have k2:=FQ (f:=J6 [(5500,nm)]) (g:=MS [(5500,nm)]) (Cb _) s;rw[h1]at k;rw[h2]at k2;rcases hm with rfl|rfl
  ·refine⟨nm,.inl rfl,?_,?_⟩
   ·rw[<-k];simp only[J8,Qs,e1]
   ·rw[<-k2];simp only[J5,MR,e1]
  ·refine⟨6000,.inr rfl,?_,?_⟩
   ·rw[<-k];simp only[J8,Qs,e2]
   ·rw[<-k2];simp only[J5,MR,e2])
 simp only[List.map_cons,List.map_nil,J8,Qs,J5,MR,e1]at h;exact h
def VQ(l:List Ftr):List I:=[.sl (l.map Ag)]
def CV(L:List (List Ftr))(i:Nat):List Ftr:=(L.take i).flatten
theorem VR{L:List (List Ftr)}{i:Nat}(h:i<L.length):CV L (i+1)=CV L i++L.getD i default:=by unfold CV;rw[Cg h,List.flatten_append];simp
theorem VS(L:List (List Ftr))(i:Nat):(CV L i).length<=L.flatten.length:=by
 unfold CV;have:L.flatten=(L.take i).flatten++(L.drop i).flatten:=by rw[<-List.flatten_append,List.take_append_drop]
 grind
theorem aC3(L:List (List Ftr))(hL:L.length<=1000)(hl:L.flatten.length<=1073741):Is mx 187 [.sl (L.map VQ)] (.sl (L.flatten.map Ag)):=by
 have ju:∀i,i<L.length->(L.map VQ).getD i []=[.sl ((L.getD i default).map Ag)]:=fun i h=>by rw[List.getD_eq_getElem?_getD,List.getElem?_map,List.getElem?_eq_getElem h,AS h];rfl
 refine MX oZ ?_
 (repeat' first|simp(disch:=omega)only[go_sem,simprocAttr]|fail)
 refine BG [0,9,10] (by simp only[V0,MQ,reduceIte,Nat.reduceEqDiff];rfl) (fun i:Nat=>[(3,.i (iI ((CV L i).length:Int))),(11,.i (iI i))]) (fun _=>[]) (fun i=>i<=L.length) (fun i=>L.length-i) 0 (by omega) (by simp[V0,I9,L9,CV]) ?_;intro i hi;by_cases ja:i<L.length
 ·have hs:=VR ja;have h1:=VS L (i+1);have hr:=ju i ja;have jd:((CV L (i+1)).length:Int)=(CV L i).length+(L.getD i default).length:=by rw[hs];simp
  have hneg:(((CV L i).length:Int)+(L.getD i default).length<0)=False:=eq_false (by omega);refine Hw (cj (Cq ja) (cj hr hneg)) ?_;exact⟨i+1,by omega,by omega,by rw[jd],rfl⟩
 ·have e:i=L.length:=by omega
  subst e;have jg:CV L L.length=L.flatten:=by simp[CV]
  rw[jg];have m1:=aC2 (mx:=mx) 2024 (by decide) L.flatten.length (by omega);refine Hw (Ih ja) ?_;refine VB m1 rfl rfl (by simp[Br,Aa]) (by simp[Qo,OL,Blk.nms,D.nms,Ref.nm,Aa]) (fun r sto' hR=>?_);obtain⟨nm,jl,rfl,rfl⟩:=hR;rcases jl with rfl|rfl
  ·refine OG ?_;refine lT [25,26] (fun i:Nat=>[(6,.ref (.sl 2024 18 0 (CV L i).length)),(27,.i (iI i))]) (fun i=>[(2024,.rows 62 18 ((CV L i).map Ag))]) (fun i=>i<=L.length) (fun i=>L.length-i) 0 ?_;intro i hi;by_cases ja:i<L.length
   ·have hs:=VR ja;have h1:=VS L (i+1);have hr:=ju i ja;have jd:(CV L (i+1)).length=(CV L i).length+(L.getD i default).length:=by rw[hs];simp
    have hrw:=Bi (L.getD i default) C9 Do;have ke:List.take (CV L i).length ((CV L i).map Ag)=(CV L i).map Ag:=List.take_of_length_le (by simp);refine By (cj (Cq ja) (cj hr ke)) ?_;exact⟨hrw.1,hrw.2,by omega,by omega,i+1,by omega,by omega,⟨by rw[jd],rfl⟩,by rw[hs,List.map_append]⟩
   ·have e:i=L.length:=by omega
    subst e;refine Hw (Ih ja) ?_;rw[jg]
  ·refine OG ?_;refine lT [25,26] (fun i:Nat=>[(6,.ref (.sl 24 18 0 (CV L i).length)),(27,.i (iI i))]) (fun i=>[(24,.rows 62 18 ((CV L i).map Ag))]) (fun i=>i<=L.length) (fun i=>L.length-i) 0 ?_;intro i hi;by_cases ja:i<L.length
   ·have hs:=VR ja;have h1:=VS L (i+1);have hr:=ju i ja;have jd:(CV L (i+1)).length=(CV L i).length+(L.getD i default).length:=by rw[hs];simp
    have hrw:=Bi (L.getD i default) C9 Do;have ke:List.take (CV L i).length ((CV L i).map Ag)=(CV L i).map Ag:=List.take_of_length_le (by simp);refine By (cj (Cq ja) (cj hr ke)) ?_;exact⟨hrw.1,hrw.2,by omega,by omega,i+1,by omega,by omega,⟨by rw[jd],rfl⟩,by rw[hs,List.map_append]⟩
   ·have e:i=L.length:=by omega
    subst e;refine Hw (Ih ja) ?_;rw[jg]
end
section
def vP(name:AT)(n:Int)(g:Ftr):Int:=if g.name=name then max n (g.version+1)else n
theorem eB(name:AT):∀(l:List Ftr) (n:Int),l.foldl (vP name) (n+1)=l.foldl (DF name) n+1
 |[],_=>rfl
 |g::r,n=>by
  have e:vP name (n+1) g=DF name n g+1:=by unfold vP DF;grind
  rw[List.foldl_cons,List.foldl_cons,e,eB name r]
theorem eC(name:AT):∀(l:List Ftr) (n:Int),(∀g∈l,g.name≠name)->l.foldl (DF name) n=n
 |[],_,_=>rfl
 |g::r,n,h=>by
  have e:DF name n g=n:=by unfold DF;rw[if_neg (h g List.mem_cons_self)]
  rw[List.foldl_cons,e];exact eC name r n fun x hx=>h x (List.mem_cons_of_mem _ hx)
theorem eD(name:AT)(M:Int):∀(l:List Ftr) (n:Int),M<=l.foldl (DF name) n↔M<=n\/∃g∈l,g.name=name/\M<=g.version
 |[],n=>by simp
 |g::r,n=>by rw[List.foldl_cons,eD name M r];simp only[List.mem_cons,exists_eq_or_imp];unfold DF;grind
theorem aC4{c:Cat}{name:AT}(h:BY c.drafts name=-1):FF c name=(c.features++c.past).foldl (DF name) 0:=by
 have hd:∀g∈c.drafts,g.name≠name:=by
  rcases EF c.drafts name with⟨_,e⟩|⟨i,e,_,_⟩
  ·intro g hg;unfold BX at e;grind
  ·omega
 unfold FF Cf;simp_all[eC]
def Qi(c:Cat)(f:Ftr):Cat×Int:=
 if f.version≠0 then(c,1)else if 0<=BY c.drafts f.name then(c,121)else if DU c f≠0 then(c,DU c f)
 else if 1099511627776<=FF c f.name then(c,2)else JO c f
theorem eF(c:Cat)(f:Ftr)(hc:AP c<=1073741823)(hf:Bl f<=1073741823):Is mx 140 [.agg (At c),.agg (Ag f)] (iI (DU c f)):=by have h0:=Hj f;have h4:Ek f.typ=Af A5 f.typ.unit+f.typ.of.length+1:=rfl;have k9:=Ft f.typ.unit;have hcB:Hg c:=uY (by omega);rw[<-aAq];exact uG c f hcB (by unfold uB;omega) (by omega)
theorem VT(f:Ftr)(v:Int):Ag (Ho f v)=[.str f.name,.str f.entity,.int .i64 f.typ.kind,.sl (f.typ.unit.map Aw),.str f.typ.of,.int .i64 f.body.kind,.str f.body.op,.str f.body.name,.str f.body.table,.int .i64 f.body.val.kind,.int .i64 f.body.val.n,.str f.body.val.s,.sl (f.body.unit.map Aw),.int .i64 f.body.param,.int .i64 f.body.win.kind,.int .i64 f.body.win.size,.sl (f.body.args.map eE),.int .i64 v]:=Cx (Ho f v)
theorem aC5(c:Cat)(x:Chg)(hb:AP c+Cl x<=1073741)(hver:∀g∈c.features++c.past,0<=g.version):Is mx 131 [.agg (At c),.agg (AE x)] (Ln (Qi c x.feature)):=by
 have w5:=Ce c;have hxb:=GD x;have l1:=Dm c.features;have l2:=Dm c.drafts;have l3:=Dm c.past;have i1:=Om (mx:=mx) c.drafts x.feature.name (by omega);have f1:=eF (mx:=mx) c x.feature (by omega) (by omega);have k1:=aC3 (mx:=mx) [c.features,c.past] (by simp) (by simp;omega);simp only[List.map_cons,List.map_nil,VQ,List.flatten_cons,List.flatten_nil,List.append_nil]at k1;have hVl:(c.features++c.past).length<=1073741:=by simp;omega
 have hR:=Qi.eq_1 c x.feature;have hR2:=JO.eq_1 c x.feature;have hN2:=aC4 (c:=c) (name:=x.feature.name);generalize c.features++c.past=V at k1 hVl hN2 hver;rw[Cx]at f1;refine MX rE ?_;by_cases hv:x.feature.version=0
 ·rw[if_neg (by omega)]at hR hR2;rcases EF c.drafts x.feature.name with⟨e,_⟩|⟨i,e,hi,_⟩
  ·have hN2:=hN2 e;rw[e]at i1 hR hR2;rw[if_neg (by omega)]at hR hR2;by_cases qa:DU c x.feature=0
   ·rw[if_neg (by omega)]at hR hR2;rw[qa]at f1;have hmost:=eD x.feature.name 1099511627776 V 0;rw[<-hN2]at hmost;have hvp:=eB x.feature.name V 0;rw[<-hN2]at hvp
    (repeat' first|simp(disch:=omega)only[go_sem,simprocAttr,Ln,Bw,eq_true hv,ne_eq,not_true_eq_false,decide_false]|refine Sx.s ?_ ?_<;>try(intro h;have h':=h;try simp only[HB]at h';try rewrite [h];try simp only[h])|refine Ab (i1) ?_|refine Ab (f1) ?_|refine Ab (k1) ?_|refine Ae ?_|fail)
    refine BG [2,4,6,36,37] (by simp only[V0,MQ,reduceIte,Nat.reduceEqDiff];rfl) (fun i:Nat=>[(38,.i (iI i))]) (fun i=>[(6,.cells ((Ag (Ho x.feature ((V.take i).foldl (vP x.feature.name) 1))).map .i)),(2,.cells ((At c).map .i)),(4,.cells ME)]) (fun i=>i<=V.length/\∀g∈V.take i,¬(g.name=x.feature.name/\1099511627776<=g.version)) (fun i=>V.length-i) 0 ⟨by omega,by simp⟩ (by simp[V0,I9,Ref.nm,VT,At,D.nms,OL]) ?_;rintro i ⟨hi,qb⟩;by_cases ja:i<V.length
    ·have jr:(V.take (i+1)).foldl (vP x.feature.name) 1=vP x.feature.name ((V.take i).foldl (vP x.feature.name) 1) (V.getD i default):=by rw[Cg ja,List.foldl_append];rfl
     have hnx:¬((V.getD i default).name=x.feature.name/\1099511627776<=(V.getD i default).version)->∀g∈V.take (i+1),¬(g.name=x.feature.name/\1099511627776<=g.version):=fun h g hg=>by rw[Cg ja]at hg;grind
     have hm:=AA ja;have hv0:=hver _ hm;generalize (V.take i).foldl (vP x.feature.name) 1=v0 at jr;by_cases hn:(V.getD i default).name=x.feature.name
     ·by_cases hM:1099511627776<=(V.getD i default).version
      ·rw[if_pos (hmost.2 (.inr ⟨_,hm,hn,hM⟩))]at hR;rw[hR];exact By (cj (Cq ja) (cj @Cx (cj @Ho.eq_1 (cj hn hM)))) trivial
      ·have v7:vP x.feature.name v0 (V.getD i default)=max v0 ((V.getD i default).version+1):=by unfold vP;rw[if_pos hn]
       rw[v7]at jr
       (repeat' first|simp(disch:=omega)only[go_sem,simprocAttr,Cq ja,Cx,Ho,List.map_cons,List.map_nil,eq_true hn,eq_false hM,decide_true,decide_false]|refine Ae ?_|fail)
       all_goals(refine⟨i+1,⟨by omega,hnx (fun h=>hM h.2)⟩,by omega,rfl,?_⟩;rw[jr,show max v0 ((V.getD i default).version+1)=if(V.getD i default).version+1>v0 then(V.getD i default).version+1 else v0 by split<;>omega])
     ·have v7:vP x.feature.name v0 (V.getD i default)=v0:=by unfold vP;rw[if_neg hn]
      rw[v7]at jr
      (repeat' first|simp(disch:=omega)only[go_sem,simprocAttr,Cq ja,Cx,Ho,List.map_cons,List.map_nil,eq_false hn,decide_false]|refine Ae ?_|fail)
      all_goals exact⟨i+1,⟨by omega,hnx (fun h=>hn h.1)⟩,by omega,rfl,by rw[jr]⟩
    ·have ei:i=V.length:=by omega
     subst ei;rw[List.take_length]at qb;have hnl:¬1099511627776<=FF c x.feature.name:=fun h=>by grind
     rw[if_neg hnl]at hR hR2;rw[hR,hR2];have hvp2:V.foldl (vP x.feature.name) 1=FF c x.feature.name+1:=hvp;have s1:=On (mx:=mx) c.drafts (Ho x.feature (FF c x.feature.name+1)) (by omega);rw[VT]at s1;rw[List.take_length,hvp2];exact A4 (cj s1 (cj (Ih ja) @VT)) trivial
   ·rw[if_pos qa]at hR;rw[hR];have hn:(DU c x.feature=0)=False:=eq_false qa
    (repeat' first|simp(disch:=omega)only[go_sem,simprocAttr,Ln,Bw,eq_true hv,ne_eq,not_true_eq_false,not_false_eq_true,decide_false,decide_true,hn]|refine Sx.s ?_ ?_<;>try(intro h;have h':=h;try simp only[HB]at h';try rewrite [h];try simp only[h])|refine Ab (i1) ?_|refine Ab (f1) ?_|refine Ae ?_|refine Sz.s ?_|fail)
    all_goals(try rfl)
  ·rw[e]at i1 hR;rw[if_pos (by omega)]at hR;rw[hR];have hF2:(0<=(i:Int))=True:=eq_true (by omega);exact A4 (cj i1 (cj @Ln.eq_1 (cj @Bw (cj hv hF2)))) trivial
 ·rw[if_pos hv]at hR;rw[hR];have hn:(x.feature.version=0)=False:=eq_false hv;exact By (cj @Ln.eq_1 (cj @Bw hn)) trivial
end
section
abbrev Ver:=AT×Int
abbrev Sn(v:Ver):I:=.agg [.str v.1,.int .i64 v.2]
theorem eG:Md Sn:=fun a b=>by obtain⟨a1,a2⟩:=a;obtain⟨b1,b2⟩:=b;simp[Bc,cellsI,DL];grind
def Ox(f:Ftr):Ver:=(f.name,f.version)
def Gk(l:List Ftr):List (Ver×Bool):=l.foldl (fun m f=>AO m (Ox f) true) []
def vmE(m:List (Ver×Bool)):List (I×I):=m.map fun p=>(Sn p.1,.bool p.2)
def inV(m:List (Ver×Bool))(v:Ver):Bool:=(Al m v).getD false
theorem aC6(m:List (Ver×Bool))(s:AT)(n:Int):C0 (vmE m) (.agg [.str s,.int .i64 n]) (.bool false) false=.bool (inV m (s,n)):=NC (eK:=Sn) (f:=I.bool) eG m (s,n) false
theorem aC7(m:List (Ver×Bool))(s:AT)(n:Int):Ee (vmE m) (.agg [.str s,.int .i64 n]) (.bool true)=vmE (AO m (s,n) true):=NB (eK:=Sn) (f:=I.bool) eG m (s,n) true
theorem aC8(m:List (Ver×Bool)):(∀e∈vmE m,AB [.g,.s,.i .i64] e.1=true)=True:=eq_true fun e he=>by obtain⟨p,_,rfl⟩:=List.mem_map.1 he;rfl
theorem aC9(l:List Ftr)(f:Ftr):Gk (l++[f])=AO (Gk l) (f.name,f.version) true:=by unfold Gk;rw[List.foldl_append];rfl
theorem aCa(l:List Ftr)(v:Ver):∀m:List (Ver×Bool),inV (l.foldl (fun m f=>AO m (Ox f) true) m) v=(inV m v||l.any fun g=>decide (Ox g=v)):=by
 induction l with
 |nil=>intro m;simp
 |cons g r ih=>
  intro m;rw[List.foldl_cons,ih,List.any_cons];have h:inV (AO m (Ox g) true) v=(inV m v||decide (Ox g=v)):=by unfold inV;rw[Rg];grind
  grind
theorem aCb(l:List Ftr)(f:Ftr):inV (Gk l) (f.name,f.version)=l.any (H5 f):=by unfold Gk;rw[aCa];have h0:inV [] (f.name,f.version)=false:=rfl;rw[h0,Bool.false_or];congr 1;funext g;unfold H5 Ox;simp
def DJ(c:Cat)(n:Nat):List Ftr:=if n=0 then c.features else if n=1 then c.drafts else c.past
def B1(c:Cat)(n:Nat):List Ftr:=if n=0 then[]else if n=1 then c.features else if n=2 then c.features++c.drafts else Cf c
def Oy(c:Cat)(n:Nat):List Ftr:=if n=0 then Cf c else if n=1 then c.drafts++c.past else if n=2 then c.past else[]
theorem aCc{c:Cat}{n:Nat}(h:n<3):B1 c n++DJ c n=B1 c (n+1):=by
 have:n=0\/n=1\/n=2:=by omega
 rcases this with rfl|rfl|rfl<;>simp[B1,DJ,Cf]
theorem aCd{c:Cat}{n:Nat}(h:n<3):DJ c n++Oy c (n+1)=Oy c n:=by
 have:n=0\/n=1\/n=2:=by omega
 rcases this with rfl|rfl|rfl<;>simp[Oy,DJ,Cf]
theorem aCe{c:Cat}{n i:Nat}(h:n<3)(hi:i<(DJ c n).length)(f:Ftr):
  H6 c.features.length (c.features.length+c.drafts.length) (B1 c n++(DJ c n).take i).length ((B1 c n++(DJ c n).take i).getD ((B1 c n++(DJ c n).take i).length-1) default) f=
  (decide (0<i)&&(Op.bytesLess f.name ((DJ c n).getD (i-1) default).name||(decide (n<2)&&decide (f.name=((DJ c n).getD (i-1) default).name)))):=by
 have hl:(B1 c n++(DJ c n).take i).length=(B1 c n).length+i:=by simp;omega
 have hp:0<i->(B1 c n++(DJ c n).take i).getD ((B1 c n).length+i-1) default=(DJ c n).getD (i-1) default:=fun h0=>by grind
 have hn:n=0\/n=1\/n=2:=by omega
 rw[hl];unfold H6 N6;by_cases h0:i=0
 ·subst h0;have e:(decide ((B1 c n).length+0=0)||decide ((B1 c n).length+0=c.features.length)||decide ((B1 c n).length+0=c.features.length+c.drafts.length))=true:=by grind[B1]
  rw[e];simp
 ·rw[hp (by omega)];have e:(decide ((B1 c n).length+i=0)||decide ((B1 c n).length+i=c.features.length)||decide ((B1 c n).length+i=c.features.length+c.drafts.length))=false:=by grind[B1,DJ]
  have e2:decide ((B1 c n).length+i<c.features.length+c.drafts.length)=decide (n<2):=by grind[B1,DJ]
  rw[e,e2,decide_eq_true (show 0<i by omega)];simp
theorem aCf{c:Cat}{n:Nat}(h:n<3):[[I.sl (c.features.map Ag)],[I.sl (c.drafts.map Ag)],[I.sl (c.past.map Ag)]].getD n []=[.sl ((DJ c n).map Ag)]:=by
 have:n=0\/n=1\/n=2:=by omega
 rcases this with rfl|rfl|rfl<;>rfl
theorem aCg(c:Cat)(hc:AP c<=1073741823):Is mx 139 [.agg (At c)] (iI (EE c.features.length (c.features.length+c.drafts.length) [] (Cf c))):=by
 have hb:=Ce c;have hlf:=Dm c.features;have hld:=Dm c.drafts;have hlp:=Dm c.past;have hln:∀n,n<3->(DJ c n).length<=1073741823:=fun n hn=>by grind[DJ]
 have kl:∀n,n<3->∀f∈DJ c n,f∈Cf c:=fun n hn f hf=>by
  have:n=0\/n=1\/n=2:=by omega
  rcases this with rfl|rfl|rfl<;>simp[DJ]at hf<;>simp[Cf,hf]
 generalize hT:EE c.features.length (c.features.length+c.drafts.length) [] (Cf c)=T;refine MX rG ?_
 (repeat' first|simp(disch:=omega)only[go_sem,simprocAttr]|fail)
 refine BG [3,18,19] (by simp only[V0,MQ,reduceIte,Nat.reduceEqDiff];rfl) (fun n:Nat=>[(20,.i (iI n))]) (fun n=>[(11,.map [.g,.s,.i .i64] (vmE (Gk (B1 c n))))]) (fun n=>n<=3/\EE c.features.length (c.features.length+c.drafts.length) (B1 c n) (Oy c n)=T) (fun n=>3-n) 0 ⟨by omega,hT⟩ (by simp[V0,I9,L9,Ref.nm,B1,Gk,vmE]) ?_;rintro n ⟨hn,jb⟩;by_cases hn':n<3
 ·have h3:((n:Int)<3)=True:=eq_true (by omega);have h3':((n:Int)<((0:Nat):Int)+1+1+1)=True:=eq_true (by omega);have jd:=hln n hn';have hme:=kl n hn';have wy:=fun i hi f=>aCe (c:=c) (n:=n) (i:=i) hn' hi f
  rw[<-aCd hn']at jb;have ju:=aCf (c:=c) hn';have we:=aCc (c:=c) hn';generalize DJ c n=l at jd hme wy jb ju we;refine Hw (cj h3 ju) ?_;refine lT [3,4,5,18,19,20,25,26] (fun i:Nat=>[(27,.i (iI i))]) (fun i=>[(11,.map [.g,.s,.i .i64] (vmE (Gk (B1 c n++l.take i))))]) (fun i=>i<=l.length/\EE c.features.length (c.features.length+c.drafts.length) (B1 c n++l.take i) (l.drop i++Oy c (n+1))=T) (fun i=>l.length-i) 0 ?_ ⟨by omega,by simpa using jb⟩;rintro i ⟨hi,hiv⟩;by_cases ja:i<l.length
  ·have hm:=AA ja;have hbf:=bk hc (hme _ hm);have h0:=Hj (l.getD i default);have h4:Ek (l.getD i default).typ=Af A5 (l.getD i default).typ.unit+(l.getD i default).typ.of.length+1:=rfl;have k9:=Ft (l.getD i default).typ.unit;have q1:=Rk (mx:=mx) (l.getD i default).typ (by omega);have q2:=Us (mx:=mx) (l.getD i default).body (by omega);rw[<-RG]at q1;rw[dw,HP]at q2;rw[El ja,List.cons_append,U2,wy i ja,<-aCb]at hiv;have hsn:B1 c n++l.take (i+1)=(B1 c n++l.take i)++[l.getD i default]:=by simp_all
   have hvs:Gk (B1 c n++l.take (i+1))=AO (Gk (B1 c n++l.take i)) ((l.getD i default).name,(l.getD i default).version) true:=by rw[hsn,aC9]
   have ho:=GO.eq_1 (l.getD i default);simp only[Hk]at ho;have kp:=aC6 (Gk (B1 c n++l.take i)) (l.getD i default).name (l.getD i default).version;have j6:=aC8 (Gk (B1 c n++l.take i));have hpt:=aC7 (Gk (B1 c n++l.take i)) (l.getD i default).name (l.getD i default).version;by_cases hA:(!CQ (l.getD i default).name||!CQ (l.getD i default).entity||decide ((l.getD i default).version<1)||decide (1099511627776<(l.getD i default).version))=true
   ·have hA2:(!(CQ (l.getD i default).name&&CQ (l.getD i default).entity)||decide ((l.getD i default).version<1)||decide (1099511627776<(l.getD i default).version))=true:=by rw[<-hA,Bool.not_and]
    rw[if_pos hA2]at ho;rw[ho,if_pos (by decide)]at hiv;rw[<-hiv];exact Dp (cj @FZ (cj (Cq ja) (cj @Cx hA))) trivial
   ·have hA2:¬(!(CQ (l.getD i default).name&&CQ (l.getD i default).entity)||decide ((l.getD i default).version<1)||decide (1099511627776<(l.getD i default).version))=true:=by rw[Bool.not_and];exact hA
    rw[Bool.not_eq_true]at hA;rw[if_neg hA2]at ho;by_cases ht:E4 (l.getD i default).typ=0
    ·rw[if_neg (by omega)]at ho;rw[ht]at q1;rw[ho]at hiv;by_cases hs:FB (l.getD i default).body=0
     ·rw[hs]at q2;rw[if_neg (by omega)]at hiv;have j9:((i:Int)-1).toNat=i-1:=by omega
      have hcI:(decide ((0:Int)<(i:Int))&&(Op.bytesLess (l.getD i default).name (l.getD (i-1) default).name||(decide ((n:Int)<2)&&decide ((l.getD i default).name=(l.getD (i-1) default).name))))=(decide (0<i)&&(Op.bytesLess (l.getD i default).name (l.getD (i-1) default).name||(decide (n<2)&&decide ((l.getD i default).name=(l.getD (i-1) default).name)))):=by grind
      cases hbad:(decide (0<i)&&(Op.bytesLess (l.getD i default).name (l.getD (i-1) default).name||(decide (n<2)&&decide ((l.getD i default).name=(l.getD (i-1) default).name))))
      ·rw[hbad]at hiv hcI;rw[if_neg (by simp)]at hiv;cases hV:inV (Gk (B1 c n++l.take i)) ((l.getD i default).name,(l.getD i default).version)
       ·rw[hV,if_neg (by simp),<-hsn]at hiv;rw[hV]at kp;refine Kas (cj @FZ (cj q1 (cj q2 (cj (Cq ja) (cj @Cx (cj hA (cj j9 (cj hcI (cj kp (cj hpt (cj @AB.eq_1 (cj @AL.eq_1 @Bp.eq_1)))))))))))) ?_
        all_goals intros
        all_goals exact⟨i+1,⟨by omega,hiv⟩,by omega,rfl,by rw[hvs]⟩
       ·rw[hV,if_pos rfl]at hiv;rw[hV]at kp;rw[<-hiv];exact Kas (cj @FZ (cj q1 (cj q2 (cj (Cq ja) (cj @Cx (cj hA (cj j9 (cj hcI (cj kp (cj @AB.eq_1 (cj @AL.eq_1 @Bp.eq_1))))))))))) trivial
      ·rw[hbad]at hiv hcI;rw[if_pos rfl]at hiv;rw[<-hiv];exact Kas (cj @FZ (cj q1 (cj q2 (cj (Cq ja) (cj @Cx (cj hA (cj j9 hcI))))))) trivial
     ·rw[if_pos hs]at hiv;rw[<-hiv];exact A4 (cj @FZ (cj q1 (cj q2 (cj (Cq ja) (cj @Cx (cj hA hs)))))) trivial
    ·rw[if_pos ht]at ho;rw[ho,if_pos ht]at hiv;rw[<-hiv];exact A4 (cj @FZ (cj q1 (cj (Cq ja) (cj @Cx (cj hA ht))))) trivial
  ·have e:i=l.length:=by omega
   subst e;rw[List.take_length,we,List.drop_length,List.nil_append]at hiv;refine Hw (Ih ja) ?_;exact⟨n+1,⟨by omega,hiv⟩,by omega,rfl,by rw[List.take_length,we]⟩
 ·have h3:((n:Int)<3)=False:=eq_false (by omega);have h3':((n:Int)<((0:Nat):Int)+1+1+1)=False:=eq_false (by omega);have e:n=3:=by omega
  subst e;have hT0:T=0:=by rw[<-jb];simp only[Oy];rw[show(if(3:Nat)=0 then Cf c else if(3:Nat)=1 then c.drafts++c.past else if(3:Nat)=2 then c.past else[])=[]from rfl,bj]
  rw[hT0];exact Lbn trivial
end
section
theorem eH{nf np:Nat}:∀{l seen:List Ftr},EE nf np seen l=0->∀f∈l,GO f=0
 |g::r,seen,h,f,hf=>by
  rw[U2]at h;split at h
  ·rename_i q;exact absurd h q
  ·rename_i q;split at h
   ·simp at h
   ·split at h
    ·simp at h
    ·rcases List.mem_cons.1 hf with e|e
     ·rw[e];exact Classical.not_not.1 q
     ·exact eH h f e
theorem aCh{f:Ftr}(h:GO f=0):1<=f.version:=by unfold GO at h;grind
theorem aCi{c:Cat}(h:H7 c=0):∀f∈c.features++c.past,0<=f.version:=by
 unfold H7 at h;split at h
 ·simp at h
 ·split at h
  ·rename_i q;exact absurd h q
  ·split at h
   ·rename_i q;exact absurd h q
   ·rename_i q;intro f hf;have:=aCh (eH (Classical.not_not.1 q) f (by unfold Cf;simp only[List.mem_append]at hf⊢;rcases hf with q|q<;>simp[q]));omega
theorem aCj(c:Cat)(hc:AP c<=1073741823):Is mx 103 [.agg (At c)] (iI (H7 c)):=
 aBv c hc (aCg c hc) (fun f hf=>eF c f hc (by have:=Cd (b:=Bl) hf;have:=Ce c;omega)) (fun h1 h2=>aBw c hc h1 h2)
def rP(c:Cat)(x:Chg):Cat×Int:=if x.kind=1 then Oq c x.table else if x.kind=2 then Qi c x.feature else if x.kind=3 then I4 c x.name else if x.kind=4 then Hs c x.name else Lk c x.name
theorem aCk(c:Cat)(x:Chg):(rP c x).2=(DH c x).2:=by
 unfold rP DH
 repeat' split
 ·unfold Oq K4;split<;>rfl
 ·unfold Qi JO;repeat' split
  all_goals rfl
 ·unfold I4;split
  ·unfold GQ;rw[if_pos (by assumption)]
  ·rfl
 ·unfold Hs;split
  ·unfold FG;rw[if_pos (by assumption)]
  ·split
   ·unfold FG;rw[if_neg (by assumption),if_pos (by assumption)]
   ·rfl
 ·unfold Lk;split
  ·unfold IU;rw[if_pos (by assumption)]
  ·rfl
theorem aCl(c:Cat)(x:Chg):(rP c x).2=0->rP c x=DH c x:=by
 unfold rP DH
 repeat' split
 ·unfold Oq K4;split
  all_goals grind
 ·unfold Qi JO;repeat' split
  all_goals first|(intro _;rfl)|(intro h;simp at h;done)|(intro h;exact absurd h (by assumption))
 ·grind[I4]
 ·grind[Hs]
 ·grind[Lk]
theorem VU(c:Cat)(x:Chg)(hb:AP c+Cl x<=1073741)(hver:∀f∈c.features++c.past,0<=f.version):Is mx 72 [.agg (At c),.agg (AE x)] (Ln (Cn c x)):=by
 have hch:=U7 c x;have w5:=Ce c;have lt:=H2 c.tables;have lf:=Dm c.features;have ld:=Dm c.drafts;have lp:=Dm c.past;refine aA2 c x (rP c x) (fun h1 h5 hp=>?_) (aCk c x) (aCl c x) (fun _=>aCj _ (by omega));have hk:x.kind=1\/x.kind=2\/x.kind=3\/x.kind=4\/x.kind=5:=by omega
 unfold rP Vy;rcases hk with e|e|e|e|e<;>simp only[e,Int.reduceEq,if_true,if_false]
 ·exact zV c x (by omega)
 all_goals grind[aC5,aBy,aC0,aBx]
def Oz(c:Cat):Prop:=∀f∈c.features++c.past,0<=f.version
theorem So:Oz B3:=fun f hf=>by cases hf
theorem eI(c:Cat)(x:Chg):Oz (Cn c x).1:=by
 unfold Cn;split
 ·exact So
 ·split
  ·exact So
  ·rename_i q;have q:=Classical.not_not.1 q;unfold MG at q;split at q
   ·exact aCi q
   ·rename_i q2;exact absurd q q2
theorem aCm{l:List Ent}{i:Nat}{c:Cat}(h:Oz c):Oz (CA l i c).1:=by
 unfold CA
 repeat' split
 all_goals first|exact h|exact eI _ _
theorem VV(l:List Ent):∀i,Oz (A1 l i).1
 |0=>So
 |i+1=>by
  simp only[A1];split
  ·exact VV l i
  ·exact aCm (VV l i)
theorem Sp(l:List Ent)(tick:Int):∀i,Oz (AZ l tick i)
 |0=>So
 |i+1=>by
  simp only[AZ]
  repeat' split
  ·exact Sp l tick i
  ·exact eI _ _
  ·exact Sp l tick i
theorem eJ{l:List Ent}{i:Nat}(hi:i<l.length):Af Am (l.take i)+Cl (l.getD i default).change<=Af Am l:=by have h1:=Hp Am l (i+1);rw[Cg hi,Gi]at h1;have h2:=DS (l.getD i default);simp only[Af]at h1;omega
theorem Sq(l:List Ent)(hl:Af Am l<=1073739):Is mx 24 [.sl (l.map Ac)] (iI (AW l)):=
 aA5 l (by omega) fun i hi _ _=>VU _ _ (by have:=RX l i (by omega);have:=eJ hi;omega) (VV l i)
theorem eM(l:List Ent)(tick:Int)(hl:Af Am l<=1073739):Is mx 23 [.sl (l.map Ac),iI tick] (.agg (At (atR l tick))):=
 aA8 l tick (by have:=KW l;omega) fun i hi _ _=>VU _ _ (by have:=K5 l tick i (by omega);have:=eJ hi;omega) (Sp l tick i)
end
section
theorem DK(p:Pol):Bf p=[.int .i64 p.perKey,.int .i64 p.perSource,.int .i64 p.late,.int .i64 p.lead]:=rfl
theorem aCn:(∀p,pk false (Bf p) 0 1=.int .i64 p.perKey)/\(∀p,pk false (Bf p) 1 1=.int .i64 p.perSource)/\(∀p,pk false (Bf p) 2 1=.int .i64 p.late)/\(∀p,pk false (Bf p) 3 1=.int .i64 p.lead)/\(∀p,pk true (Bf p) 0 4=.agg (Bf p))/\(∀p,(Bf p).length=4)/\∀p,(Bf p).all I.one=true:=by and_intros<;>intro p<;>rfl
attribute [go_sem] aCn
theorem aCo(n:Int):Is mx 45 [iI n] (.bool (Da n)):=by refine MX F45 ?_;refine WB ?_;rfl
theorem VW(p:Pol):Is mx 14 [.agg (Bf p)] (iI (CM p)):=by
 have e:CM p=if(!Da p.perKey||!Da p.perSource||!Da p.late||!Da p.lead)=true then 1 else 0:=by grind[CM]
 rw[e];cases hb:(!Da p.perKey||!Da p.perSource||!Da p.late||!Da p.lead)
 all_goals
  refine MX F14 ?_;exact Dp (cj @aCo hb) trivial
theorem VX(l:List Ent)(hl:Af Am l<=1073739):Is mx 41 [.sl (l.map Ac)] (.agg (At (A2 l))):=by have h:=bu (mx:=mx) l 1099511627776 (by omega);refine MX F41 ?_;exact Dp (cj h @At.eq_1) trivial
theorem VY(l:List Ent)(tick:Int)(hl:l.length<=1073741824):Is mx 59 [.sl (l.map Ac),iI tick] (.bool (BT l tick)):=by
 have hi:((l.length:Int)-1).toNat=l.length-1:=by omega
 refine MX F59 ?_;by_cases h0:0<l.length
 ·have d0:decide (0<(l.length:Int))=true:=decide_eq_true (by omega);have e:BT l tick=(decide (tick<(l.getD (l.length-1) default).tick)||decide (1099511627776<tick)):=by unfold BT;rw[if_neg (by omega)];rfl
  rw[e];exact Ka (cj d0 hi) trivial
 ·have d0:decide (0<(l.length:Int))=false:=decide_eq_false (by omega);have e:BT l tick=(decide (tick<0)||decide (1099511627776<tick)):=by unfold BT;rw[if_pos (by omega)]
  rw[e];exact Dp d0 trivial
theorem Ss{p:Pol}(h:CM p=0):(0<=p.perKey/\p.perKey<=1099511627776)/\(0<=p.perSource/\p.perSource<=1099511627776)/\(0<=p.late/\p.late<=1099511627776)/\0<=p.lead/\p.lead<=1099511627776:=by simp only[CM,Da]at h;grind
theorem aCp(p:Pol)(tick:Int)(f:Fct)(hp:CM p=0)(h0:0<=tick)(h1:tick<=1099511627776):Is mx 62 [.agg (Bf p),iI tick,.agg (Ap f)] (iI (GU p tick f)):=by
 obtain⟨_,_,b1,b2⟩:=Ss hp;have w1:IntKind.i64.wrap (tick-p.late)=tick-p.late:=BH (by omega) (by omega);have w2:IntKind.i64.wrap (tick+p.lead)=tick+p.lead:=BH (by omega) (by omega);have e:GU p tick f=if f.kind=3 then 0 else if(decide (p.late≠0)&&decide (f.event<tick-p.late))=true then 331 else if(decide (p.lead≠0)&&decide (tick+p.lead<f.event))=true then 332 else 0:=by grind[GU]
 rw[e];by_cases hk:f.kind=3
 ·refine MX F62 ?_;exact Dp (cj w1 (cj w2 hk)) trivial
 cases h2:(decide (p.late≠0)&&decide (f.event<tick-p.late))<;>cases h3:(decide (p.lead≠0)&&decide (tick+p.lead<f.event))
 all_goals
  refine MX F62 ?_;exact Dp (cj w1 (cj w2 (cj hk (cj h2 h3)))) trivial
theorem Ht{l:List Ent}(hl:Af Am l<=1073739):l.length<=1073741824:=by have:=KW l;omega
theorem OA(f:Fct):f.fields.length<=Bz f:=by have:=PG f.fields;rw[IM];omega
theorem eN{l:List Ent}{i:Nat}(h:i<l.length):Bz (l.getD i default).fact<=Af Am l:=by have:=Cd (b:=Am) (AA h);rw[DS]at this;omega
theorem aCq(l:List Ent)(f:Fct)(hl:Af Am l<=1073739)(hf:Bz f<=1073741824):Is mx 61 [.sl (l.map Ac),.agg (Ap f)] (iI (DX l f)):=by
 have jd:=Ht hl;refine MX F61 ?_;refine OG ?_;refine lS [0,3] (fun i=>[(5,.i (iI i))]) (fun _=>[]) (fun i=>(l.take i).all (fun e=>!CB f e)=true) l.length ?_;intro i hi jb;by_cases ja:i<l.length
 ·have c1:Is mx 92 [.agg (Ap (l.getD i default).fact),.agg (Ap f)] (.bool (Dn (l.getD i default).fact f)):=Z9 _ _ (by have:=OA (l.getD i default).fact;have:=eN ja;omega) (by have:=OA f;omega);have v8:CB f (l.getD i default)=(decide ((l.getD i default).kind=1)&&decide ((l.getD i default).fact.id=f.id)):=rfl;have kw:(decide ((l.getD i default).fact.id.source=f.id.source)&&decide ((l.getD i default).fact.id.seq=f.id.seq))=decide ((l.getD i default).fact.id=f.id):=(FH _ _).symm;cases hn:CB f (l.getD i default)
  ·rw[v8]at hn;refine Ka (cj (Cq ja) (cj @Cy (cj @Cz (cj kw hn)))) ?_;exact BR (d:=default) jb ja (by rw[v8,hn];rfl)
  ·have hw:Fd l f=some (l.getD i default):=by unfold Fd;rw[List.find?_eq_some_iff_getElem];refine⟨hn,i,ja,by simp[List.getD,List.getElem?_eq_getElem ja],fun j hj=>?_⟩;exact List.all_eq_true.1 jb _ (List.mem_take_iff_getElem.2 ⟨j,by omega,rfl⟩)
   have hs:DX l f=if Dn (l.getD i default).fact f=true then 1 else 2:=by unfold DX;rw[hw]
   rw[hs];rw[v8]at hn;generalize Dn (l.getD i default).fact f=b at c1;cases b
   ·exact Dp (cj c1 (cj (Cq ja) (cj @Cy (cj @Cz (cj kw hn))))) trivial
   ·exact Dp (cj c1 (cj (Cq ja) (cj @Cy (cj @Cz (cj kw hn))))) trivial
 ·have:Fd l f=none:=by rw[List.take_of_length_le (by omega),List.all_eq_true]at jb;unfold Fd;rw[List.find?_eq_none];intro x hx;have:=jb x hx;simpa using this
  have hs:DX l f=0:=by unfold DX;rw[this]
  rw[hs];exact Dp (Ih ja) trivial
theorem VZ(l:List Ent)(e:Ent)(hl:Af Am l<=1073739)(qb:0<l.length→-4611686018427387904<=(A6 l).no/\(A6 l).no<=4611686018427387904):Is mx 63 [.sl (l.map Ac),.agg (Ac e)] (.tup [.sl ((Db l e).1.map Ac),iI (Db l e).2]):=by
 have jd:=Ht hl;have hi:((l.length:Int)-1).toNat=l.length-1:=by omega
 by_cases h0:0<l.length
 ·have d0:decide (0<(l.length:Int))=true:=decide_eq_true (by omega);have hn:MU l=(A6 l).no+1:=by unfold MU;rw[if_neg (by omega)]
  have hw:IntKind.i64.wrap ((l.getD (l.length-1) default).no+1)=MU l:=by rw[hn];exact BH (by have:=qb h0;show _<=(A6 l).no+1;omega) (by have:=qb h0;show(A6 l).no+1<=_;omega)
  have e1:Db l e=if(decide (4096<=(l.length:Int))||decide (1099511627776<MU l))=true then([],2)else([Ba e (MU l)],0):=by grind[Db]
  rw[e1];cases hc:(decide (4096<=(l.length:Int))||decide (1099511627776<MU l))
  ·refine MX F63 ?_;refine Ka (cj d0 (cj hi (cj hw (cj hc @AV)))) ?_;simp only[List.map_cons,List.map_nil,AV,Ba]
  ·refine MX F63 ?_;exact Ka (cj d0 (cj hi (cj hw (cj hc @AV)))) trivial
 ·have d0:decide (0<(l.length:Int))=false:=decide_eq_false (by omega);have hn:MU l=1:=by unfold MU;rw[if_pos (by omega)]
  have hc:decide (4096<=(l.length:Int))=false:=decide_eq_false (by omega);have e1:Db l e=([Ba e 1],0):=by grind[Db]
  rw[e1];refine MX F63 ?_;refine Ka (cj d0 (cj hc @AV)) ?_;simp only[List.map_cons,List.map_nil,AV,Ba]
theorem eO{l:List Ent}{tick:Int}(h:BT l tick=false)(hl:0<l.length->0<=(A6 l).tick):0<=tick/\tick<=1099511627776:=by
 unfold BT at h;rw[Bool.or_eq_false_iff,decide_eq_false_iff_not,decide_eq_false_iff_not]at h;by_cases h0:l.length=0
 ·rw[if_pos h0]at h;omega
 ·rw[if_neg h0]at h;have:=hl (by omega);omega
theorem aCr(l:List Ent)(tick:Int)(x:Ers)(hl:Af Am l<=1073739)(hx:DD x<=1073741824)(qb:0<l.length→-4611686018427387904<=(A6 l).no/\(A6 l).no<=4611686018427387904):Is mx 27 [.sl (l.map Ac),iI tick,.agg (BL x)] (.tup [.sl ((CC l tick x).1.map Ac),iI (CC l tick x).2]):=by
 have c1:=VY (mx:=mx) l tick (Ht hl);have c2:=bv (mx:=mx) x hx;have c3:=VZ (mx:=mx) l (EI tick x) hl qb;have ee:Ac (EI tick x)=[.int .i64 0,.int .i64 tick,.int .i64 2]++Ap CT++BL x++AE CU:=rfl;rw[AV]at c3;cases hb:(BT l tick||!D8 x)
 ·have e1:CC l tick x=Db l (EI tick x):=by grind[CC]
  rw[e1];refine MX F27 ?_;exact Ka (cj c1 (cj c2 (cj c3 hb))) trivial
 ·have e1:CC l tick x=([],1):=by grind[CC]
  rw[e1];refine MX F27 ?_;exact Ka (cj c1 (cj c2 hb)) trivial
end
section
@[go_sem] abbrev Ww(r:List Ent×Int):I:=.tup [.sl (r.1.map Ac),iI r.2]
theorem aCs(l:List Ent)(tick:Int)(x:Chg)(hl:Af Am l<=1073739)(hx:Af Am l+Cl x<=1073739)(hc:AP (A2 l)+Cl x<=1073741)(qb:0<l.length→-4611686018427387904<=(A6 l).no/\(A6 l).no<=4611686018427387904):Is mx 29 [.sl (l.map Ac),iI tick,.agg (AE x)] (Ww (IY l tick x)):=by
 have c1:=VY (mx:=mx) l tick (Ht hl);have c2:=VX (mx:=mx) l hl;have c4:=U8 (mx:=mx) (A2 l) x hc;have c3:=VZ (mx:=mx) l (K8 tick x) hl qb;unfold IY;cases hb:BT l tick
 ·rw[hb]at c1;generalize Cn (A2 l) x=r at c4⊢;by_cases h0:r.2=0
  ·rw[if_neg (by simp),if_neg (by simp[h0])];refine MX F29 ?_;exact Ka (cj c1 (cj c2 (cj c3 (cj c4 (cj @Ln.eq_1 h0))))) trivial
  ·rw[if_neg (by simp),if_pos h0];refine MX F29 ?_;exact Ka (cj c1 (cj c2 (cj c4 (cj @Ln.eq_1 h0)))) trivial
 ·rw[hb]at c1;rw[if_pos rfl];refine MX F29 ?_;exact Ka c1 trivial
end
section
def BK(c:Cat)(gone:List Fid)(f:Fct)(l:List Ent):Nat->Int×Int
 |0=>(0,0)
 |i+1=>Dx c gone f (BK c gone f l i) (l.getD i default)
theorem V9(c:Cat)(gone:List Fid)(f:Fct)(l:List Ent):∀i,i<=l.length->BK c gone f l i=(l.take i).foldl (Dx c gone f) (0,0)
 |0,_=>rfl
 |i+1,h=>by rw[BK,V9 c gone f l i (by omega),Cg (by omega),List.foldl_append];rfl
theorem eP(l:List Ent)(f:Fct):BK (A2 l) (AF l) f l l.length=A7 l f:=by rw[V9 _ _ _ _ _ (Nat.le_refl _),List.take_length];rfl
theorem eQ(c:Cat)(gone:List Fid)(f:Fct)(l:List Ent)(i:Nat)(h:i<=l.length):0<=(BK c gone f l i).1/\(BK c gone f l i).1<=i/\0<=(BK c gone f l i).2/\(BK c gone f l i).2<=i:=by have:=Ve c gone f (l.take i) (0,0);rw[V9 c gone f l i h];rw[List.length_take,Nat.min_eq_left h]at this;simpa using this
theorem Wc{l:List Ent}(hl:Af Am l<=1073739):AP (A2 l)<=1073740:=by have h1:=K5 l 1099511627776 l.length (Nat.le_refl _);have h2:=Hp Am l l.length;show AP (AZ l 1099511627776 l.length)<=_;omega
theorem eR{l:List Ent}(hl:Af Am l<=1073739):(A2 l).tables.length<=1073741824:=by
 have h1:=Wc hl;have h3:=H2 (A2 l).tables;have h4:Af Dt (A2 l).tables<=AP (A2 l):=by unfold AP;omega
 omega
theorem eS(l:List Ent)(f:Fct)(hl:Af Am l<=1073739)(h30:l.length<=30000):Is mx 12 [.sl (l.map Ac),.agg (Ap f)] (.tup [iI (A7 l f).1,iI (A7 l f).2]):=by
 have w5:=eR hl;have wq:(AF l).length<=1073741824:=by have:=Oe (l:=l) h30;omega
 have c1:=VX (mx:=mx) l hl;have c2:=bz (mx:=mx) l (by omega) h30;have c3:=PP (mx:=mx) (A2 l) f.table w5;rw[<-eP];have vq:∀x,IX (A2 l) f x=((AU (A2 l).tables f.table).isSome&&(AU (A2 l).tables x.table).isSome&&decide (f.kind≠3)&&decide (x.kind≠3)&&decide (x.key=f.key)&&decide (((AU (A2 l).tables x.table).getD BB).entity=((AU (A2 l).tables f.table).getD BB).entity)):=fun _=>rfl
 generalize hgo:AU (A2 l).tables f.table=o at c3 vq;generalize hgg:AF l=gone at c2 wq⊢;generalize hgc:A2 l=c at c1 c3 w5 vq⊢;refine MX F12 ?_;refine Dp (cj c1 (cj c2 (cj c3 (cj @Hm.eq_1 (cj @At.eq_1 @AR.eq_1))))) ?_;refine lS [0,3,6,7,8,9] (fun i=>[(10,.i (iI (BK c gone f l i).1)),(11,.i (iI (BK c gone f l i).2)),(12,.i (iI i))]) (fun _=>[]) (fun _=>True) l.length ?_;intro i hi _;have hb:=eQ c gone f l i hi;by_cases ja:i<l.length
 ·have jt:=Cq ja;have c4:=U4 (mx:=mx) (l.getD i default).fact;have c5:=RY (mx:=mx) gone (Ay (l.getD i default).fact) wq;have c6:=PP (mx:=mx) c (l.getD i default).fact.table w5;have hs:=vq (l.getD i default).fact;have hS:BK c gone f l (i+1)=Dx c gone f (BK c gone f l i) (l.getD i default):=rfl;have w1:IntKind.i64.wrap ((BK c gone f l i).1+1)=(BK c gone f l i).1+1:=BH (by omega) (by omega);have w2:IntKind.i64.wrap ((BK c gone f l i).2+1)=(BK c gone f l i).2+1:=BH (by omega) (by omega);generalize AU c.tables (l.getD i default).fact.table=u at c6 hs;have wn:Dx c gone f (BK c gone f l i) (l.getD i default)=if(decide ((l.getD i default).kind≠1)||Be gone (Ay (l.getD i default).fact))=true then BK c gone f l i else(if IX c f (l.getD i default).fact=true then(BK c gone f l i).1+1 else(BK c gone f l i).1,if(l.getD i default).fact.id.source=f.id.source then(BK c gone f l i).2+1 else(BK c gone f l i).2):=by unfold Dx;simp only[Bool.or_eq_true,decide_eq_true_eq]
  rw[wn]at hS;generalize Be gone (Ay (l.getD i default).fact)=b at c5 hS;cases hk:(decide ((l.getD i default).kind≠1)||b)
  ·rw[hk,if_neg (by simp)]at hS;cases hq:IX c f (l.getD i default).fact<;>rw[hq]at hS hs<;>by_cases he:(l.getD i default).fact.id.source=f.id.source
   all_goals
    simp only[he,if_true,if_false,Bool.false_eq_true]at hS;refine Dp (cj jt (cj c4 (cj c5 (cj c6 (cj hk (cj hs.symm (cj he (cj w1 (cj w2 (cj @Hm.eq_1 (cj @Cy (cj @Cz @AR.eq_1)))))))))))) ?_;rw[hS];exact⟨ja,rfl,rfl⟩
  ·rw[hk,if_pos rfl]at hS;refine Dp (cj jt (cj c4 (cj c5 hk))) ?_;rw[hS];exact⟨ja,rfl,rfl⟩
 ·have e:i=l.length:=by omega
  subst e;exact Dp (Ih ja) trivial
theorem aCt(l:List Ent)(p:Pol)(tick:Int)(f:Fct)(hl:Af Am l<=1073739)(h30:l.length<=30000)(hf:Bz f<=1073739)(qb:0<l.length->(-4611686018427387904<=(A6 l).no/\(A6 l).no<=4611686018427387904)/\0<=(A6 l).tick):Is mx 17 [.sl (l.map Ac),.agg (Bf p),iI tick,.agg (Ap f)] (Ww (Bg l p tick f)):=by
 have c1:=VW (mx:=mx) p;have c2:=VY (mx:=mx) l tick (Ht hl);have c3:=VX (mx:=mx) l hl;have c4:=bo (mx:=mx) (A2 l) f (by have:=Wc hl;omega) (by omega);have c5:=bz (mx:=mx) l (by omega) h30;have c6:=U4 (mx:=mx) f;have c7:=RY (mx:=mx) (AF l) (Ay f) (by have:=Oe (l:=l) h30;omega);have c8:=aCq (mx:=mx) l f hl (by omega);have c10:=eS (mx:=mx) l f hl h30;have c11:=VZ (mx:=mx) l (BN tick f) hl (fun h=>(qb h).1);have hq:Ib p f (A7 l f)=(decide (p.perKey≠0)&&decide (f.kind≠3)&&decide (p.perKey<=(A7 l f).1)||decide (p.perSource≠0)&&decide (p.perSource<=(A7 l f).2)):=rfl;unfold Bg;generalize Ib p f (A7 l f)=bq at hq⊢;generalize A7 l f=n at c10 hq;generalize Db l (BN tick f)=r at c11⊢;generalize Be (AF l) (Ay f)=b7 at c7⊢;generalize AF l=gone at c5 c7;by_cases h1:CM p≠0\/BT l tick=true
 ·rw[if_pos h1];have hb:(decide (CM p≠0)||BT l tick)=true:=by simpa using h1
  refine MX F17 ?_;exact Dp (cj c1 (cj c2 (cj hb (cj @DK @Ww.eq_1)))) trivial
 rw[if_neg h1];have hb:(decide (CM p≠0)||BT l tick)=false:=by simpa using h1
 have h1a:CM p=0:=by simp at hb;exact hb.1
 have h1b:BT l tick=false:=by simp at hb;exact hb.2
 obtain⟨t0,t1⟩:=eO h1b (fun h=>(qb h).2);have c9:=aCp (mx:=mx) p tick f h1a t0 t1;generalize DX l f=s3 at c8⊢;generalize GU p tick f=tm at c9⊢;generalize A2 l=c at c3 c4⊢;generalize C2 c f=fr at c4⊢;by_cases h2:fr=0
 ·have d2:decide (fr≠0)=false:=by simp[h2]
  rw[if_neg (by simp[h2])];cases h3:b7
  ·rw[h3]at c7;rw[if_neg (by simp)];by_cases h4:s3=1
   ·rw[if_pos h4];refine MX F17 ?_;exact Dp (cj c1 (cj c2 (cj hb (cj c3 (cj c4 (cj d2 (cj c5 (cj c6 (cj c7 (cj c8 (cj h4 (cj @DK @Ww.eq_1)))))))))))) trivial
   ·have d4:decide (s3=1)=false:=by simp[h4]
    rw[if_neg h4];by_cases h5:s3=2
    ·rw[if_pos h5];refine MX F17 ?_;exact Dp (cj c1 (cj c2 (cj hb (cj c3 (cj c4 (cj d2 (cj c5 (cj c6 (cj c7 (cj c8 (cj h5 (cj @DK @Ww.eq_1)))))))))))) trivial
    ·have d5:decide (s3=2)=false:=by simp[h5]
     rw[if_neg h5];by_cases h6:tm=0
     ·have d6:decide (tm≠0)=false:=by simp[h6]
      rw[if_neg (by simp[h6])];cases bq
      ·rw[if_neg (by simp)];refine MX F17 ?_;exact Dp (cj c1 (cj c2 (cj hb (cj c3 (cj c4 (cj d2 (cj c5 (cj c6 (cj c7 (cj c8 (cj d4 (cj d5 (cj c9 (cj d6 (cj c10 (cj c11 (cj hq.symm (cj @DK @Ww.eq_1)))))))))))))))))) trivial
      ·rw[if_pos rfl];refine MX F17 ?_;exact Dp (cj c1 (cj c2 (cj hb (cj c3 (cj c4 (cj d2 (cj c5 (cj c6 (cj c7 (cj c8 (cj d4 (cj d5 (cj c9 (cj d6 (cj c10 (cj hq.symm (cj @DK @Ww.eq_1))))))))))))))))) trivial
     ·have d6:decide (tm≠0)=true:=by simp[h6]
      rw[if_pos h6];refine MX F17 ?_;exact Dp (cj c1 (cj c2 (cj hb (cj c3 (cj c4 (cj d2 (cj c5 (cj c6 (cj c7 (cj c8 (cj d4 (cj d5 (cj c9 (cj d6 (cj @DK @Ww.eq_1))))))))))))))) trivial
  ·rw[h3]at c7;rw[if_pos rfl];refine MX F17 ?_;exact Dp (cj c1 (cj c2 (cj hb (cj c3 (cj c4 (cj d2 (cj c5 (cj c6 (cj c7 (cj @DK @Ww.eq_1)))))))))) trivial
 ·have d2:decide (fr≠0)=true:=by simp[h2]
  rw[if_pos h2];refine MX F17 ?_;exact Dp (cj c1 (cj c2 (cj hb (cj c3 (cj c4 (cj d2 (cj @DK @Ww.eq_1))))))) trivial
end
section
theorem eT(p:Pol):Is mx 13 [.agg (Bf p)] (iI (CM p)):=by
 have hp:CM p=if([p.perKey,p.perSource,p.late,p.lead].all Da)=true then 0 else 1:=by simp[CM,Bool.and_assoc]
 rw[hp];refine MX F13 ?_;refine Dp @DK ?_;refine lS [13,14] (fun i=>[(15,.i (iI i))]) (fun _=>[]) (fun i=>([p.perKey,p.perSource,p.late,p.lead].take i).all Da=true) 4 ?_;intro i hi jb;have hc:i=0\/i=1\/i=2\/i=3\/i=4:=by omega
 rcases hc with rfl|rfl|rfl|rfl|rfl
 ·cases hb:(decide (p.perKey<0)||decide (1099511627776<p.perKey))
  ·refine Dp hb ?_;simp[Da]at jb⊢;grind
  ·refine Dp hb ?_;refine congrArg (I.int .i64) ?_;simp only[Da];grind
 ·cases hb:(decide (p.perSource<0)||decide (1099511627776<p.perSource))
  ·refine Dp hb ?_;simp[Da]at jb⊢;grind
  ·refine Dp hb ?_;refine congrArg (I.int .i64) ?_;simp only[Da];grind
 ·cases hb:(decide (p.late<0)||decide (1099511627776<p.late))
  ·refine Dp hb ?_;simp[Da]at jb⊢;grind
  ·refine Dp hb ?_;refine congrArg (I.int .i64) ?_;simp only[Da];grind
 ·cases hb:(decide (p.lead<0)||decide (1099511627776<p.lead))
  ·refine Dp hb ?_;simp[Da]at jb⊢;grind
  ·refine Dp hb ?_;refine congrArg (I.int .i64) ?_;simp only[Da];grind
 ·refine WB ?_;refine congrArg (I.int .i64) ?_;simp at jb;grind
theorem Wd(l:List Ent)(hl:Af Am l<=1073739):Is mx 37 [.sl (l.map Ac)] (.agg (At (A2 l))):=by have h:=eM (mx:=mx) l 1099511627776 hl;refine MX F37 ?_;exact Dp (cj h @At.eq_1) trivial
def ofR(c:Cat)(f:Fct):AT×Bool:=(((AU c.tables f.table).getD BB).entity,(AU c.tables f.table).isSome&&decide (f.kind≠3))
theorem eU(c:Cat)(f:Fct)(hc:c.tables.length<=1073741824):Is mx 38 [.agg (Ap f),.elt (At c) 0] (.tup [.str (ofR c f).1,.bool (ofR c f).2]):=by have t1:=bQ (mx:=mx) c f.table hc;unfold ofR;generalize AU c.tables f.table=o at t1⊢;refine MX F38 ?_;exact Dp (cj t1 (cj @Hm.eq_1 @AR.eq_1)) trivial
structure Rul where
 code:Int
 fn:Nat
 caps:List I
 says:Bool
deriving Inhabited
def BO(r:Rul):List I:=[.int .i64 r.code,.fn r.fn [] r.caps]
theorem aCu:(∀r,pk false (BO r) 0 1=.int .i64 r.code)/\(∀r,pk false (BO r) 1 1=.fn r.fn [] r.caps)/\(∀r,pk true (BO r) 0 2=.agg (BO r))/\(∀r,(BO r).length=2)/\∀r,(BO r).all I.one=true:=by and_intros<;>intro r<;>rfl
attribute [go_sem] aCu
def Dd(rs:List Rul):Int:=((rs.find? fun r=>r.says).map Rul.code).getD 0
theorem Su(rs:List Rul)(hl:rs.length<=1000)(hr:∀r∈rs,Is mx r.fn r.caps (.bool r.says)):Is mx 48 [.sl (rs.map BO)] (iI (Dd rs)):=by
 refine MX F48 ?_;refine OG ?_;refine lS [5,6] (fun i=>[(7,.i (iI i))]) (fun _=>[]) (fun i=>(rs.take i).all (fun r=>!r.says)=true) rs.length ?_;intro i hi jb;by_cases ja:i<rs.length
 ·have c1:=hr _ (AA ja);cases hs:(rs.getD i default).says
  ·rw[hs]at c1;refine Ka (cj (Cq ja) (cj c1 @BO.eq_1)) ?_;exact BR (d:=default) jb ja (by rw[hs];rfl)
  ·rw[hs]at c1;have:Dd rs=(rs.getD i default).code:=by
    unfold Dd;have:rs.find? (fun r=>r.says)=some (rs.getD i default):=by rw[List.find?_eq_some_iff_getElem];refine⟨hs,i,ja,by simp[List.getD,List.getElem?_eq_getElem ja],fun j hj=>?_⟩;exact List.all_eq_true.1 jb _ (List.mem_take_iff_getElem.2 ⟨j,by omega,rfl⟩)
    rw[this];rfl
   rw[this];exact Ka (cj (Cq ja) (cj c1 @BO.eq_1)) trivial
 ·have:Dd rs=0:=by rw[List.take_of_length_le (by omega),List.all_eq_true]at jb;unfold Dd;rw[List.find?_eq_none.2 (fun x hx=>by simpa using jb x hx)];rfl
  rw[this];exact Dp (Ih ja) trivial
end
section
theorem Sv(l:List Ent)(hl:l.length<=1073741824):(0<l.length/\decide (0<(l.length:Int))=true/\((l.length:Int)-1).toNat=l.length-1)\/(l.length=0/\decide (0<(l.length:Int))=false):=by
 by_cases h:0<l.length
 ·exact .inl ⟨h,decide_eq_true (by omega),by omega⟩
 ·exact .inr ⟨by omega,decide_eq_false (by omega)⟩
def FK(l:List Ent)(tick:Int):Bool:=decide (tick<0)||decide (1099511627776<tick)||(decide (0<l.length)&&decide (tick<(A6 l).tick))
theorem We{l:List Ent}{tick:Int}(h:0<l.length->0<=(A6 l).tick):FK l tick=BT l tick:=by
 unfold FK BT;by_cases h0:0<l.length
 ·have:=h h0;rw[if_neg (by omega)];grind
 ·rw[if_pos (by omega)];grind
theorem Wf(l:List Ent)(tick:Int)(hl:l.length<=1073741824):Is mx 88 [.elt [iI tick] 0,.elt [.sl (l.map Ac)] 0] (.bool (FK l tick)):=by
 rcases Sv l hl with⟨h0,d0,hi⟩|⟨h0,d0⟩
 ·have e:FK l tick=(decide (tick<0)||decide (1099511627776<tick)||decide (tick<(l.getD (l.length-1) default).tick)):=by unfold FK;rw[decide_eq_true h0,Bool.true_and];rfl
  rw[e];refine MX F88 ?_;exact Ka (cj d0 hi) trivial
 ·have e:FK l tick=(decide (tick<0)||decide (1099511627776<tick)):=by unfold FK;simp[h0]
  rw[e];refine MX F88 ?_;exact Ka d0 trivial
theorem Wg(l:List Ent)(tick:Int):Is mx 50 [.sl (l.map Ac),iI tick] (.agg (BO ⟨1,88,[.elt [iI tick] 0,.elt [.sl (l.map Ac)] 0],FK l tick⟩)):=by refine MX F50 ?_;exact Dp @BO.eq_1 trivial
def I5(l:List Ent):Bool:=decide (4096<=l.length)||(decide (0<l.length)&&decide (1099511627776<=(A6 l).no))
theorem aCv(l:List Ent)(hl:l.length<=1073741824):Is mx 120 [.elt [.sl (l.map Ac)] 0] (.bool (I5 l)):=by
 have hk:decide (4096<=(l.length:Int))=decide (4096<=l.length):=by rw[Bool.eq_iff_iff];simp;omega
 rcases Sv l hl with⟨h0,d0,hi⟩|⟨h0,d0⟩
 ·have e:I5 l=(decide (4096<=l.length)||decide (1099511627776<=(l.getD (l.length-1) default).no)):=by unfold I5;rw[decide_eq_true h0,Bool.true_and];rfl
  rw[e];refine MX Y4 ?_;exact Ka (cj d0 (cj hi hk)) trivial
 ·have e:I5 l=decide (4096<=l.length):=by unfold I5;simp[h0]
  rw[e];refine MX Y4 ?_;exact Ka (cj d0 hk) trivial
theorem aCw(l:List Ent):Is mx 89 [.sl (l.map Ac)] (.agg (BO ⟨2,120,[.elt [.sl (l.map Ac)] 0],I5 l⟩)):=by refine MX F89 ?_;exact Dp @BO.eq_1 trivial
theorem aCx(p:Pol):Is mx 49 [.elt (Bf p) 0] (.bool (decide (CM p≠0))):=by have c:=eT (mx:=mx) p;refine MX F49 ?_;exact Dp c trivial
theorem aCy(e:Ent)(f:Fct):Is mx 52 [.agg (Ac e),.elt (Ap f) 0] (.bool (CB f e)):=by have kw:(decide (e.fact.id.source=f.id.source)&&decide (e.fact.id.seq=f.id.seq))=decide (e.fact.id=f.id):=(FH _ _).symm;refine MX F52 ?_;exact Dp (cj kw (cj @Cy (cj @Cz @CB.eq_1))) trivial
theorem aCz(p:Pol)(f:Fct)(tick:Int)(said:Bool)(hp:CM p=0)(h0:0<=tick)(h1:tick<=1099511627776):Is mx 56 [.elt [.bool said] 0,.elt (Bf p) 0,.elt (Ap f) 0,.elt [iI tick] 0] (.bool (said&&decide (p.late≠0)&&decide (f.event<tick-p.late))):=by obtain⟨_,_,b1,b2⟩:=Ss hp;have w1:IntKind.i64.wrap (tick-p.late)=tick-p.late:=BH (by omega) (by omega);refine MX F56 ?_;exact Dp w1 trivial
theorem aD0(p:Pol)(f:Fct)(tick:Int)(said:Bool)(hp:CM p=0)(h0:0<=tick)(h1:tick<=1099511627776):Is mx 57 [.elt [.bool said] 0,.elt (Bf p) 0,.elt (Ap f) 0,.elt [iI tick] 0] (.bool (said&&decide (p.lead≠0)&&decide (tick+p.lead<f.event))):=by obtain⟨_,_,b1,b2⟩:=Ss hp;have w1:IntKind.i64.wrap (tick+p.lead)=tick+p.lead:=BH (by omega) (by omega);refine MX F57 ?_;exact Dp w1 trivial
end
section
theorem aD1(a b:List Val)(ha:a.length<=1073741824)(hb:b.length<=1073741824):Is mx 65 [.sl (a.map Bn),.sl (b.map Bn)] (.bool (eqL CJ a b)):=by
 refine MX F65 ?_;refine WB (cj ?_ ?_)
 ·intro _ _;exact congrArg I.bool (eqL_len (by omega)).symm
 ·intro h h';refine lS [0,1,12] (fun i=>[(13,.i (iI i))]) (fun _=>[]) (fun i=>eqL CJ a b=eqL CJ (a.drop i) (b.drop i)) a.length ?_;intro i hi jb;by_cases ja:i<a.length
  ·have jt:i<b.length:=by omega
   have jh:=HU jb ja jt;refine Ka (cj (Cq ja) (Cq jt)) (cj ?_ ?_)
   ·intro h h';exact congrArg I.bool (JH jh (by simp only[CJ];grind))
   ·intro h h';exact IH jh (by simp only[CJ];grind)
  ·refine Hw (Ih ja) ?_;exact congrArg I.bool (HV jb (by omega) (by omega)).symm
theorem eV(a b:Fct)(ha:a.fields.length<=1073741824)(hb:b.fields.length<=1073741824):Is mx 20 [.agg (Ap a),.agg (Ap b)] (.bool (Dn a b)):=by have c:=aD1 (mx:=mx) a.fields b.fields ha hb;unfold Dn;generalize eqL CJ a.fields b.fields=bb at c⊢;refine MX F20 ?_;exact Dp c trivial
theorem aD2(l:List Fid)(id:Fid)(hl:l.length<=1073741824):Is mx 84 [.sl (l.map Ao),.agg (Ao id)] (iI (Bk (fun y=>decide (y=id)) l)):=by
 refine MX F84 ?_;refine OG ?_;refine lS [0,3,7] (fun i=>[(8,.i (iI i))]) (fun _=>[]) (fun i=>∀j (h:j<l.length),j<i->decide (l[j]=id)=false) l.length ?_;intro i hi jb;by_cases ja:i<l.length
 ·have kw:(decide (id.source=(l.getD i default).source)&&decide (id.seq=(l.getD i default).seq))=decide (l.getD i default=id):=by rw[<-FH];exact decide_eq_decide.2 eq_comm
  cases hn:decide (l.getD i default=id)
  ·rw[hn]at kw;refine Ka (cj (Cq ja) (cj @Cy (cj @Cz kw))) ?_;intro j hj hji;by_cases e:j=i
   ·subst e;rw[<-AS hj];exact hn
   ·exact jb j hj (by omega)
  ·rw[hn]at kw;refine Ka (cj (Cq ja) (cj @Cy (cj @Cz kw))) ?_;refine congrArg (I.int .i64) ?_;exact(KP (p:=fun y=>decide (y=id)) (by omega) (by rw[<-AS (by omega)];exact hn) jb).symm
 ·refine Dp (Ih ja) ?_;refine congrArg (I.int .i64) ?_;exact(KQ (p:=fun y=>decide (y=id)) fun j hj=>jb j hj (by omega)).symm
theorem eW(l:List Fid)(id:Fid)(hl:l.length<=1073741824):Is mx 40 [.sl (l.map Ao),.agg (Ao id)] (.bool (Be l id)):=by
 have c:=aD2 (mx:=mx) l id hl;have e:Be l id=decide (0<=Bk (fun y=>decide (y=id)) l):=by
  unfold Be;rcases Mq (fun y=>decide (y=id)) l with⟨h1,h2⟩|⟨h1,h2,h3⟩
  ·rw[decide_eq_false (by omega),List.any_eq_false];intro x hx;have:=List.find?_eq_none.1 h2 x hx;simpa using this
  ·rw[decide_eq_true h1,List.any_eq_true];have h4:=List.find?_some h3;have h5:=List.mem_of_find?_eq_some h3;exact⟨_,h5,h4⟩
 rw[e];generalize Bk (fun y=>decide (y=id)) l=k at c⊢;refine MX F40 ?_;exact Dp c trivial
theorem aD3(l:List Ent)(f:Fct)(hg:(AF l).length<=1073741824)(he:Is mx 31 [.sl (l.map Ac)] (.sl ((AF l).map Ao))):Is mx 53 [.elt [.sl (l.map Ac)] 0,.elt (Ap f) 0] (.bool (Be (AF l) (Ay f))):=by have c1:=Oh (mx:=mx) f;have c2:=eW (mx:=mx) (AF l) (Ay f) hg;refine MX F53 ?_;exact Dp (cj he (cj c1 c2)) trivial
theorem aD4(l:List Ent)(f:Fct):Is mx 54 [.elt [iI (-1)] 0,.elt [.sl (l.map Ac)] 0,.elt (Ap f) 0] (.bool false):=by refine MX F54 ?_;exact WB trivial
theorem aD5(l:List Ent)(f:Fct)(i:Nat)(h:i<l.length)(hl:Af Am l<=1073739)(hf:Bz f<=1073739):Is mx 54 [.elt [iI i] 0,.elt [.sl (l.map Ac)] 0,.elt (Ap f) 0] (.bool (!Dn (l.getD i default).fact f)):=by
 have c:=eV (mx:=mx) (l.getD i default).fact f (by have:=OA (l.getD i default).fact;have:=eN h;omega) (by have:=OA f;omega);have hi:((i:Int)).toNat=i:=by omega
 have h0:decide (0<=(i:Int))=true:=decide_eq_true (by omega);refine MX F54 ?_;exact Ka (cj c (cj hi (cj h0 (Cq h)))) trivial
theorem eX(l:List Ent)(f:Fct)(hl:Af Am l<=1073739)(h30:l.length<=30000)(he:Is mx 31 [.sl (l.map Ac)] (.sl ((AF l).map Ao))):Is mx 11 [.sl (l.map Ac),.agg (Ap f)] (.tup [iI (A7 l f).1,iI (A7 l f).2]):=by
 have w5:=eR hl;have wq:(AF l).length<=1073741824:=by have:=Oe (l:=l) h30;omega
 have c1:=Wd (mx:=mx) l hl;have c3:=eU (mx:=mx) (A2 l) f w5;rw[<-eP];generalize hgg:AF l=gone at he wq⊢;generalize hgc:A2 l=c at c1 c3 w5⊢;have vq:∀x,IX c f x=((ofR c f).2&&(ofR c x).2&&decide ((ofR c x).1=(ofR c f).1)&&decide (x.key=f.key)):=by intro x;unfold IX ofR;grind
 refine MX F11 ?_;refine Dp (cj c1 (cj c3 (cj he @At.eq_1))) ?_;refine lS [3,7,8,9,10,26,27] (fun i=>[(4,.i (iI (BK c gone f l i).1)),(5,.i (iI (BK c gone f l i).2)),(28,.i (iI i))]) (fun _=>[]) (fun _=>True) l.length ?_;intro i hi _;have hb:=eQ c gone f l i hi;by_cases ja:i<l.length
 ·have jt:=Cq ja;have c4:=Oh (mx:=mx) (l.getD i default).fact;have c5:=eW (mx:=mx) gone (Ay (l.getD i default).fact) wq;have c6:=eU (mx:=mx) c (l.getD i default).fact w5;have hs:=vq (l.getD i default).fact;have hS:BK c gone f l (i+1)=Dx c gone f (BK c gone f l i) (l.getD i default):=rfl;have w1:IntKind.i64.wrap ((BK c gone f l i).1+1)=(BK c gone f l i).1+1:=BH (by omega) (by omega);have w2:IntKind.i64.wrap ((BK c gone f l i).2+1)=(BK c gone f l i).2+1:=BH (by omega) (by omega);have wn:Dx c gone f (BK c gone f l i) (l.getD i default)=if(decide ((l.getD i default).kind≠1)||Be gone (Ay (l.getD i default).fact))=true then BK c gone f l i else(if IX c f (l.getD i default).fact=true then(BK c gone f l i).1+1 else(BK c gone f l i).1,if(l.getD i default).fact.id.source=f.id.source then(BK c gone f l i).2+1 else(BK c gone f l i).2):=by unfold Dx;simp only[Bool.or_eq_true,decide_eq_true_eq]
  rw[wn]at hS;generalize Be gone (Ay (l.getD i default).fact)=b at c5 hS;cases hk:(decide ((l.getD i default).kind≠1)||b)
  ·rw[hk,if_neg (by simp)]at hS;cases hq:IX c f (l.getD i default).fact<;>rw[hq]at hS hs<;>by_cases he:(l.getD i default).fact.id.source=f.id.source
   all_goals
    simp only[he,if_true,if_false,Bool.false_eq_true]at hS;refine Dp (cj jt (cj c4 (cj c5 (cj c6 (cj hk (cj hs.symm (cj he (cj w1 (cj w2 (cj @Cy @Cz)))))))))) ?_;rw[hS];exact⟨ja,rfl,rfl⟩
  ·rw[hk,if_pos rfl]at hS;refine Dp (cj jt (cj c4 (cj c5 hk))) ?_;rw[hS];exact⟨ja,rfl,rfl⟩
 ·have e:i=l.length:=by omega
  subst e;exact Dp (Ih ja) trivial
end
section
def Gl(rs:List Rul)(l:List Ent)(e:Ent):List Ent×Int:=if Dd rs≠0 then([],Dd rs)else if I5 l=true then([],2)else([Ba e (MU l)],0)
theorem aD6(rs:List Rul)(l:List Ent)(e:Ent)(hl:Af Am l<=1073739)(hrs:rs.length<=100)(hr:∀r∈rs,Is mx r.fn r.caps (.bool r.says))(h0:∀r∈rs,r.code≠0)(qb:0<l.length->0<=(A6 l).no/\(A6 l).no<=4611686018427387904):MC Tryz.prog (OE mx) 55 [.i (.sl (l.map Ac)),.i (.agg (Ac e)),.ref (.sl 5500 2 0 rs.length)] [(5500,.rows 104 2 (rs.map BO))] [5500] (fun r s=>r=.i (Ww (Gl rs l e))/\s=[]):=by
 obtain⟨rm,hrm⟩:∃rm:Rul,rm=⟨2,120,[.elt [.sl (l.map Ac)] 0],I5 l⟩:=⟨_,rfl⟩;have c1:=aCw (mx:=mx) l;have c2:=aCv (mx:=mx) l (Ht hl);rw[<-hrm]at c1;have c3:=Su (mx:=mx) (rs++[rm]) (by simp;omega) (by
  intro r h;rw[List.mem_append,List.mem_singleton]at h;rcases h with h|rfl
  ·exact hr r h
  ·rw[hrm];exact c2)
 have ha:Dd (rs++[rm])=if Dd rs≠0 then Dd rs else if I5 l=true then 2 else 0:=by
  unfold Dd;rw[List.find?_append];cases hf:rs.find? fun r=>r.says with
  |none=>simp[hrm];split<;>simp_all
  |some r=>have:=h0 r (List.mem_of_find?_eq_some hf);simp[this]
 have f1:(∀r∈[BO rm],r.length=2)=True:=eq_true (by simp[go_sem]);have f2:(∀r∈[BO rm],r.all I.one=true)=True:=eq_true (by intro r h;rw[List.mem_singleton]at h;rw[h];rfl);have b1:((rs.length+1)*16<=140737488355328)=True:=eq_true (by omega);have b2:(rs.length<=140737488355327)=True:=eq_true (by omega);have hm:List.map BO rs++[BO rm]=List.map BO (rs++[rm]):=by simp
 have h4:(rs.map BO).length=rs.length:=by simp
 have h5:(List.map BO (rs++[rm])).length=rs.length+1:=by simp
 have h6:(List.map BO (rs++[rm])).take (rs.length+1)=List.map BO (rs++[rm]):=List.take_of_length_le (by simp);generalize Dd (rs++[rm])=k at c3 ha;generalize hL:List.map BO (rs++[rm])=L at hm h5 h6 c3;by_cases hk:k=0
 ·have dk:decide (k≠0)=false:=by simp[hk]
  have e1:Gl rs l e=([Ba e (MU l)],0):=by unfold Gl;grind
  rw[e1];have jd:=Ht hl;rcases Sv l (Ht hl)with⟨g0,d0,hi⟩|⟨g0,d0⟩
  ·have hn:MU l=(A6 l).no+1:=by unfold MU;rw[if_neg (by omega)]
   have hw:IntKind.i64.wrap ((l.getD (l.length-1) default).no+1)=MU l:=by rw[hn];exact BH (by have:=qb g0;show _<=(A6 l).no+1;omega) (by have:=qb g0;show(A6 l).no+1<=_;omega)
   refine MX F55 ?_;refine Ka (cj c1 (cj c3 (cj h4 (cj h5 (cj h6 (cj hm (cj f1 (cj f2 (cj b1 (cj b2 (cj dk (cj d0 (cj hi (cj hw (cj @AV (cj @Nat.zero_add @Nat.sub_zero)))))))))))))))) ?_;refine Gw ?_;simp only[go_sem,Ba];exact⟨rfl,rfl⟩
  ·have hn:MU l=1:=by unfold MU;rw[if_pos (by omega)]
   rw[hn];refine MX F55 ?_;refine Ka (cj c1 (cj c3 (cj h4 (cj h5 (cj h6 (cj hm (cj f1 (cj f2 (cj b1 (cj b2 (cj dk (cj d0 (cj @AV (cj @Nat.zero_add @Nat.sub_zero)))))))))))))) ?_;refine Gw ?_;simp only[go_sem,Ba];exact⟨rfl,rfl⟩
 ·have dk:decide (k≠0)=true:=by simp[hk]
  have e1:Gl rs l e=([],k):=by unfold Gl;grind
  rw[e1];refine MX F55 ?_;refine Ka (cj c1 (cj c3 (cj h4 (cj h5 (cj h6 (cj hm (cj f1 (cj f2 (cj b1 (cj b2 (cj dk (cj @Nat.zero_add @Nat.sub_zero)))))))))))) ?_;refine Gw ?_;simp only[go_sem];exact⟨rfl,rfl⟩
end
section
theorem Wh(nm:Nat)(hn:nm<5000)(rs:List Rul)(l:List Ent)(e:Ent)(hl:Af Am l<=1073739)(hrs:rs.length<=100)(hr:∀r∈rs,Is mx r.fn r.caps (.bool r.says))(h0:∀r∈rs,r.code≠0)(qb:0<l.length->0<=(A6 l).no/\(A6 l).no<=4611686018427387904):MC Tryz.prog (OE mx) 55 [.i (.sl (l.map Ac)),.i (.agg (Ac e)),.ref (.sl nm 2 0 rs.length)] [(nm,.rows 104 2 (rs.map BO))] [nm] (fun r s=>r=.i (Ww (Gl rs l e))/\s=[]):=by
 have e1:MS [(5500,nm)] 5500=nm:=by rfl
 have h:=(MC.as [(5500,nm)] (aD6 (mx:=mx) rs l e hl hrs hr h0 qb)).mono (R':=fun r s=>r=.i (Ww (Gl rs l e))/\s=[]) (by
  rintro r s ⟨h1,h2⟩;have k:=Ex (f:=J6 [(5500,nm)]) (g:=MS [(5500,nm)]) (Cb _) r;have k2:=FQ (f:=J6 [(5500,nm)]) (g:=MS [(5500,nm)]) (Cb _) s;rw[h1]at k;rw[h2]at k2;exact⟨k.symm,k2.symm⟩)
 simp only[List.map_cons,List.map_nil,J8,Qs,J5,MR,e1]at h;exact h
theorem Wi(l:List Ent)(e:Ent)(h:0<l.length->0<=(A6 l).no):Gl [] l e=Db l e:=by
 have ha:Dd []=0:=rfl;unfold Gl Db I5;rw[ha,if_neg (by simp)];by_cases h0:0<l.length
 ·have hn:MU l=(A6 l).no+1:=by unfold MU;rw[if_neg (by omega)]
  rw[hn];simp[h0];grind
 ·have hn:MU l=1:=by unfold MU;rw[if_pos (by omega)]
  rw[hn,if_neg (by simp;omega),if_neg (by omega)]
theorem Qj(r:Rul)(rs:List Rul)(l:List Ent)(e:Ent)(h:r.code≠0):Gl (r::rs) l e=if r.says=true then([],r.code)else Gl rs l e:=by
 have ha:Dd (r::rs)=if r.says=true then r.code else Dd rs:=by unfold Dd;cases hs:r.says<;>simp[List.find?,hs]
 unfold Gl;rw[ha];cases hs:r.says<;>simp[h]
theorem aD7{l:List Ent}{tick:Int}(h:0<l.length->0<=(A6 l).tick):Dd [⟨1,88,[.elt [iI tick] 0,.elt [.sl (l.map Ac)] 0],FK l tick⟩]=if BT l tick=true then 1 else 0:=by rw[<-We h];unfold Dd;cases FK l tick<;>rfl
theorem aD8(l:List Ent)(tick:Int)(x:Chg)(hl:Af Am l<=1073739)(hc:AP (A2 l)+Cl x<=1073741)(hver:∀f∈(A2 l).features++(A2 l).past,0<=f.version)(qb:0<l.length->(0<=(A6 l).no/\(A6 l).no<=4611686018427387904)/\0<=(A6 l).tick):Is mx 28 [.sl (l.map Ac),iI tick,.agg (AE x)] (Ww (IY l tick x)):=by
 have c1:=Wg (mx:=mx) l tick;have c2:=Su (mx:=mx) [⟨1,88,[.elt [iI tick] 0,.elt [.sl (l.map Ac)] 0],FK l tick⟩] (by simp) (by
  intro r h;rw[List.mem_singleton]at h;rw[h];exact Wf l tick (Ht hl))
 have c3:=Wd (mx:=mx) l hl;have c4:=VU (mx:=mx) (A2 l) x hc hver;rw[aD7 (fun h=>(qb h).2)]at c2;have m1:=(Wh (mx:=mx) 2033 (by decide) [] l (K8 tick x) hl (by decide) (by simp) (by simp) (fun h=>(qb h).1)).arrIn [];rw[Wi l _ (fun h=>(qb h).1.1)]at m1;unfold IY;cases hb:BT l tick
 ·rw[hb]at c2;generalize Cn (A2 l) x=r at c4⊢;by_cases h0:r.2=0
  ·rw[if_neg (by simp),if_neg (by simp[h0])];have d0:decide (r.2≠0)=false:=by simp[h0]
   generalize Db l (K8 tick x)=res at m1⊢;refine MX F28 ?_;refine Ka (cj c1 (cj c2 (cj c3 (cj c4 (cj @Ln.eq_1 (cj d0 (cj @BO.eq_1 h0))))))) ?_;refine VB m1 rfl rfl (by simp[Br,Aa]) (by simp[Qo,OL,Blk.nms,D.nms,Ref.nm,Aa]) (fun r sto' hR=>?_);obtain⟨rfl,rfl⟩:=hR;exact Dp @Ww.eq_1 trivial
  ·have d0:decide (r.2≠0)=true:=by simp[h0]
   rw[if_neg (by simp),if_pos h0];refine MX F28 ?_;exact Ka (cj c1 (cj c2 (cj c3 (cj c4 (cj @Ln.eq_1 (cj d0 @BO.eq_1)))))) trivial
 ·rw[hb]at c2;rw[if_pos rfl];refine MX F28 ?_;exact Ka (cj c1 (cj c2 @BO.eq_1)) trivial
end
section
theorem aD9(x:Ers):AW [⟨1,0,2,CT,x,CU⟩]=if D8 x=false then 1 else 0:=by
 have hf:Fb ⟨1,0,2,CT,x,CU⟩=true:=by
  have h1:JR CT=true:=by decide
  have h2:IV CU=true:=by decide
  simp[Fb,h1,h2]
 simp[AW,A1,CA,EG,Dw,hf,List.getD];cases D8 x<;>rfl
theorem aDa(x:Ers)(hx:DD x<=1073000):Is mx 73 [.elt [.sl [Ac ⟨1,0,2,CT,x,CU⟩]] 0] (.bool (!D8 x)):=by
 have hb:Af Am [⟨1,0,2,CT,x,CU⟩]<=1073739:=by
  have h4:Bz CT<=40:=by decide
  have h5:Cl CU<=40:=by decide
  have h1:=DS ⟨1,0,2,CT,x,CU⟩;simp only[Af]at*;omega
 have c:=Sq (mx:=mx) [⟨1,0,2,CT,x,CU⟩] hb;have e:(!D8 x)=decide (AW [⟨1,0,2,CT,x,CU⟩]≠0):=by rw[aD9];cases D8 x<;>rfl
 rw[e];generalize AW _=k at c⊢;refine MX F73 ?_;exact Dp c trivial
theorem aDb(a t:Int)(x:Ers):([.int .i64 a,.int .i64 t,.int .i64 2,.str [],.int .i64 0,.int .i64 0,.int .i64 0,.str [],.str [],.int .i64 0,.sl [],.int .i64 x.kind,.str x.entity,.str x.key,.str x.id.source,.int .i64 x.id.seq,.int .i64 0,.str [],.str [],.sl [],.int .i64 0,.str [],.str [],.int .i64 0,.sl [],.str [],.int .i64 0,.str [],.str [],.str [],.int .i64 0,.int .i64 0,.str [],.sl [],.int .i64 0,.int .i64 0,.int .i64 0,.sl [],.int .i64 0,.str []]:List I)=Ac ⟨a,t,2,CT,x,CU⟩:=rfl
theorem aDc(l:List Ent)(tick:Int)(x:Ers)(hl:Af Am l<=1073739)(hx:DD x<=1073000)(qb:0<l.length->(0<=(A6 l).no/\(A6 l).no<=4611686018427387904)/\0<=(A6 l).tick):Is mx 26 [.sl (l.map Ac),iI tick,.agg (BL x)] (Ww (CC l tick x)):=by
 have c1:=Wg (mx:=mx) l tick;have c2:=Wf (mx:=mx) l tick (Ht hl);have c3:=aDa (mx:=mx) x hx;obtain⟨r1,h1⟩:∃r:Rul,r=⟨1,88,[.elt [iI tick] 0,.elt [.sl (l.map Ac)] 0],FK l tick⟩:=⟨_,rfl⟩;obtain⟨r2,h2⟩:∃r:Rul,r=⟨1,73,[.elt [.sl [Ac ⟨1,0,2,CT,x,CU⟩]] 0],!D8 x⟩:=⟨_,rfl⟩;have m1:=Wh (mx:=mx) 21 (by decide) [r1,r2] l (EI tick x) hl (by simp) (by
  intro r h;simp only[List.mem_cons,List.not_mem_nil,or_false]at h;rcases h with rfl|rfl
  ·rw[h1];exact c2
  ·rw[h2];exact c3) (by intro r h;simp only[List.mem_cons,List.not_mem_nil,or_false]at h;rcases h with rfl|rfl;rw[h1];simp;rw[h2];simp) (fun h=>(qb h).1)
 have he:Gl [r1,r2] l (EI tick x)=CC l tick x:=by rw[Qj _ _ _ _ (by rw[h1];simp),Qj _ _ _ _ (by rw[h2];simp),Wi l _ (fun h=>(qb h).1.1),h1,h2];unfold CC;rw[<-We (fun h=>(qb h).2)];cases FK l tick<;>cases D8 x<;>rfl
 rw[he]at m1;rw[<-h1]at c1;have e2:BO r2=[.int .i64 1,.fn 73 [] [.elt [.sl [Ac ⟨1,0,2,CT,x,CU⟩]] 0]]:=by rw[h2];rfl
 have e3:Ac ⟨0,tick,2,CT,x,CU⟩=Ac (EI tick x):=rfl;simp only[List.map_cons,List.map_nil,e2]at m1;generalize Ac (EI tick x)=ex at m1 e3;generalize h9:Ac ⟨1,0,2,CT,x,CU⟩=e1 at m1;have p1:e1.length=40:=by rw[<-h9];exact JT _
 have p2:e1.all I.one=true:=by rw[<-h9];exact JU _
 generalize CC l tick x=res at m1⊢;refine MX F26 ?_;refine Hw (cj c1 (cj @aDb (cj e3 (cj h9 (cj p1 (cj p2 @Ww.eq_1)))))) ?_;refine EW m1 rfl (fun r sto' hR=>?_);obtain⟨rfl,rfl⟩:=hR;exact Dp @Ww.eq_1 trivial
end
section
theorem aDd(p:Ent->Bool)(l:List Ent)(f:Nat)(fs cs:List I)(hl:l.length<=1073741824)(hp:∀x∈l,Is mx f (fs++[.agg (Ac x)]++cs) (.bool (p x))):
  Is mx 51 [.sl (l.map Ac),.fn f fs cs] (iI (Bk p l)):=by
 refine MX F51 ?_;refine OG ?_;refine lS [0,1,7] (fun i=>[(8,.i (iI i))]) (fun _=>[]) (fun i=>∀j (h:j<l.length),j<i->p l[j]=false) l.length ?_;intro i hi jb;refine Ka @hp (cj ?_ (cj ?_ ?_))
 ·intro _ _ _ _;refine congrArg (I.int .i64) ?_;exact(KP (by omega) (by rw[<-AS (by omega)];assumption) jb).symm
 ·intro _ _ _ _;intro j hj hji;by_cases e:j=i
  ·subst e;rw[<-AS hj];assumption
  ·exact jb j hj (by omega)
 ·intro _ _;refine congrArg (I.int .i64) ?_;exact(KQ fun j hj=>jb j hj (by omega)).symm
theorem aDe(l:List Ent)(p:Pol)(f:Fct)(hl:Af Am l<=1073739)(h30:l.length<=30000)(he:Is mx 31 [.sl (l.map Ac)] (.sl ((AF l).map Ao))):Is mx 58 [.elt [.sl (l.map Ac)] 0,.elt (Ap f) 0,.elt [.bool (decide (f.kind≠3))] 0,.elt (Bf p) 0] (.bool (Ib p f (A7 l f))):=by
 have c:=eX (mx:=mx) l f hl h30 he;generalize A7 l f=n at c⊢;have e:Ib p f n=(decide (f.kind≠3)&&decide (p.perKey≠0)&&decide (p.perKey<=n.1)||decide (p.perSource≠0)&&decide (p.perSource<=n.2)):=by unfold Ib;cases decide (f.kind≠3)<;>cases decide (p.perKey≠0)<;>rfl
 rw[e];refine MX F58 ?_;exact Dp c trivial
theorem Sw(r:Rul)(rs:List Rul):Dd (r::rs)=if r.says=true then r.code else Dd rs:=by unfold Dd;cases hs:r.says<;>simp[List.find?,hs]
theorem eY:Dd []=0:=rfl
theorem eZ{P:Rul->Prop}{a b:Rul}(h:P a)(k:P b):∀r∈[a,b],P r:=by intro r hr;simp only[List.mem_cons,List.not_mem_nil,or_false]at hr;rcases hr with rfl|rfl<;>assumption
theorem fb{P:Rul->Prop}{a b c:Rul}(h:P a)(k:P b)(j:P c):∀r∈[a,b,c],P r:=by intro r hr;simp only[List.mem_cons,List.not_mem_nil,or_false]at hr;rcases hr with rfl|rfl|rfl<;>assumption
theorem aDf{α:Type}{p:α->Bool}{l:List α}(h:Bk p l<0):Bk p l=-1:=by unfold Bk at h⊢;split<;>simp_all;omega
theorem aDg(l:List Ent)(p:Pol)(tick:Int)(f:Fct)(hl:Af Am l<=1073739)(h30:l.length<=30000)(hf:Bz f<=1073739)(qb:0<l.length->(0<=(A6 l).no/\(A6 l).no<=4611686018427387904)/\0<=(A6 l).tick)
  (he:Is mx 31 [.sl (l.map Ac)] (.sl ((AF l).map Ao))):Is mx 16 [.sl (l.map Ac),.agg (Bf p),iI tick,.agg (Ap f)] (Ww (Bg l p tick f)):=by
 have c1:=Wg (mx:=mx) l tick;have c2:=Wd (mx:=mx) l hl;have c3:=Vv (mx:=mx) (A2 l) f (by have:=Wc hl;omega) (by omega);have c4:=aDd (mx:=mx) (CB f) l 52 [] [.elt (Ap f) 0] (Ht hl) (fun x _=>aCy x f);obtain⟨r1,h1⟩:∃r:Rul,r=⟨1,49,[.elt (Bf p) 0],decide (CM p≠0)⟩:=⟨_,rfl⟩;obtain⟨rt,ht⟩:∃r:Rul,r=⟨1,88,[.elt [iI tick] 0,.elt [.sl (l.map Ac)] 0],FK l tick⟩:=⟨_,rfl⟩;have a1:=Su (mx:=mx) [r1,rt] (by simp) (eZ (by rw[h1];exact aCx p) (by rw[ht];exact Wf l tick (Ht hl)));have v1:Dd [r1,rt]=if(decide (CM p≠0)||BT l tick)=true then 1 else 0:=by rw[Sw,Sw,eY,h1,ht,<-We (fun h=>(qb h).2)];cases decide (CM p≠0)<;>cases FK l tick<;>rfl
 rw[v1]at a1;rw[<-ht]at c1;have e1:BO r1=[.int .i64 1,.fn 49 [] [.elt (Bf p) 0]]:=by rw[h1];rfl
 simp only[List.map_cons,List.map_nil,e1]at a1;unfold Bg;cases hb:decide (CM p≠0)||BT l tick
 case true=>
  rw[hb,if_pos rfl]at a1;rw[if_pos (by simpa using hb)];refine MX F16 ?_;exact Dp (cj c1 a1) trivial
 rw[hb,if_neg (by simp)]at a1;rw[if_neg (by simpa using hb)];have hpol:CM p=0:=by simp at hb;exact hb.1
 have hear:BT l tick=false:=by simp at hb;exact hb.2
 obtain⟨t0,t1⟩:=eO hear (fun h=>(qb h).2);by_cases h2:C2 (A2 l) f=0
 case neg=>
  rw[if_pos h2];have d2:decide (C2 (A2 l) f≠0)=true:=by simp[h2]
  generalize C2 (A2 l) f=fr at c3 d2⊢;refine MX F16 ?_;exact Dp (cj c1 (cj a1 (cj c2 (cj c3 d2)))) trivial
 rw[if_neg (by simp[h2])];rw[h2]at c3;have q3:=aD3 (mx:=mx) l f (by have:=Oe (l:=l) h30;omega) he;obtain⟨r3,h3⟩:∃r:Rul,r=⟨333,53,[.elt [.sl (l.map Ac)] 0,.elt (Ap f) 0],Be (AF l) (Ay f)⟩:=⟨_,rfl⟩;have e3:BO r3=[.int .i64 333,.fn 53 [] [.elt [.sl (l.map Ac)] 0,.elt (Ap f) 0]]:=by rw[h3];rfl
 have hs3:DX l f=if Bk (CB f) l<0 then 0 else if Dn (l.getD (Bk (CB f) l).toNat default).fact f=true then 1 else 2:=by
  unfold DX Fd;rcases Mq (CB f) l with⟨i1,i2⟩|⟨i1,i2,i3⟩
  ·rw[i2,if_pos i1]
  ·rw[i3,if_neg (by omega)]
 rw[hs3];generalize wd:Bk (CB f) l=at_ at*;obtain⟨r4,h4⟩:∃r:Rul,r=⟨151,54,[.elt [iI at_] 0,.elt [.sl (l.map Ac)] 0,.elt (Ap f) 0],!decide (at_<0)&&!Dn (l.getD at_.toNat default).fact f⟩:=⟨_,rfl⟩;have e4:BO r4=[.int .i64 151,.fn 54 [] [.elt [iI at_] 0,.elt [.sl (l.map Ac)] 0,.elt (Ap f) 0]]:=by rw[h4];rfl
 have q4:Is mx r4.fn r4.caps (.bool r4.says):=by
  rw[h4];rcases Mq (CB f) l with⟨i1,i2⟩|⟨i1,i2,i3⟩
  ·rw[wd]at i1;have:=aDf (p:=CB f) (l:=l) (by omega);rw[wd]at this;rw[this];exact aD4 l f
  ·rw[wd]at i1 i2;have h:=aD5 (mx:=mx) l f at_.toNat i2 hl hf;rw[show((at_.toNat:Nat):Int)=at_ by omega]at h;rw[decide_eq_false (by omega:¬at_<0)];exact h
 have a2:=Su (mx:=mx) [r3,r4] (by simp) (eZ (by rw[h3];exact q3) q4);have v2:Dd [r3,r4]=if Be (AF l) (Ay f)=true then 333 else if(!decide (at_<0)&&!Dn (l.getD at_.toNat default).fact f)=true then 151 else 0:=by rw[Sw,Sw,eY,h3,h4]
 rw[v2]at a2;simp only[List.map_cons,List.map_nil,e3,e4]at a2;have q7:=aDe (mx:=mx) l p f hl h30 he;generalize Be (AF l) (Ay f)=gone at a2⊢;cases gone
 case true=>
  rw[if_pos rfl]at a2⊢;refine MX F16 ?_;exact Dp (cj c1 (cj a1 (cj c2 (cj c3 (cj c4 a2))))) trivial
 rw[if_neg (by simp)]at a2⊢;by_cases h5:at_<0
 case neg=>
  rw[if_neg h5];have d5:decide (0<=at_)=true:=by simp;omega
  rw[decide_eq_false h5]at a2;generalize Dn (l.getD at_.toNat default).fact f=b at a2⊢;cases b
  ·replace a2:Is mx _ _ (iI 151):=a2;show Is mx _ _ (Ww ([],151));refine MX F16 ?_;exact Dp (cj c1 (cj a1 (cj c2 (cj c3 (cj c4 a2))))) trivial
  ·replace a2:Is mx _ _ (iI 0):=a2;show Is mx _ _ (Ww ([],0));refine MX F16 ?_;exact Dp (cj c1 (cj a1 (cj c2 (cj c3 (cj c4 (cj a2 d5)))))) trivial
 rw[if_pos h5,if_neg (by simp),if_neg (by simp)];have d5:decide (0<=at_)=false:=by simp;omega
 rw[decide_eq_true h5]at a2;rw[if_neg (by simp)]at a2;obtain⟨r5,h6⟩:∃r:Rul,r=⟨331,56,[.elt [.bool (decide (f.kind≠3))] 0,.elt (Bf p) 0,.elt (Ap f) 0,.elt [iI tick] 0],decide (f.kind≠3)&&decide (p.late≠0)&&decide (f.event<tick-p.late)⟩:=⟨_,rfl⟩;obtain⟨r6,h7⟩:∃r:Rul,r=⟨332,57,[.elt [.bool (decide (f.kind≠3))] 0,.elt (Bf p) 0,.elt (Ap f) 0,.elt [iI tick] 0],decide (f.kind≠3)&&decide (p.lead≠0)&&decide (tick+p.lead<f.event)⟩:=⟨_,rfl⟩;obtain⟨r7,h8⟩:∃r:Rul,r=⟨330,58,[.elt [.sl (l.map Ac)] 0,.elt (Ap f) 0,.elt [.bool (decide (f.kind≠3))] 0,.elt (Bf p) 0],Ib p f (A7 l f)⟩:=⟨_,rfl⟩;have e5:BO r5=[.int .i64 331,.fn 56 [] [.elt [.bool (decide (f.kind≠3))] 0,.elt (Bf p) 0,.elt (Ap f) 0,.elt [iI tick] 0]]:=by rw[h6];rfl
 have e6:BO r6=[.int .i64 332,.fn 57 [] [.elt [.bool (decide (f.kind≠3))] 0,.elt (Bf p) 0,.elt (Ap f) 0,.elt [iI tick] 0]]:=by rw[h7];rfl
 have e7:BO r7=[.int .i64 330,.fn 58 [] [.elt [.sl (l.map Ac)] 0,.elt (Ap f) 0,.elt [.bool (decide (f.kind≠3))] 0,.elt (Bf p) 0]]:=by rw[h8];rfl
 have m1:=Wh (mx:=mx) 58 (by decide) [r5,r6,r7] l (BN tick f) hl (by simp) (fb (by rw[h6];exact aCz p f tick _ hpol t0 t1) (by rw[h7];exact aD0 p f tick _ hpol t0 t1) (by rw[h8];exact q7)) (fb (by rw[h6];simp) (by rw[h7];simp) (by rw[h8];simp)) (fun h=>(qb h).1);have ve:Gl [r5,r6,r7] l (BN tick f)=if GU p tick f≠0 then([],GU p tick f)else if Ib p f (A7 l f)=true then([],330)else Db l (BN tick f):=by rw[Qj _ _ _ _ (by rw[h6];simp),Qj _ _ _ _ (by rw[h7];simp),Qj _ _ _ _ (by rw[h8];simp),Wi l _ (fun h=>(qb h).1.1),h6,h7,h8];unfold GU;grind
 rw[ve]at m1;simp only[List.map_cons,List.map_nil,e5,e6,e7]at m1;generalize (if GU p tick f≠0 then(([]:List Ent),GU p tick f)else if Ib p f (A7 l f)=true then([],330)else Db l (BN tick f))=res at m1⊢;have cc:=cj c1 (cj a1 (cj c2 (cj c3 (cj c4 a2))));refine MX F16 ?_
 (repeat' first|simp(disch:=omega)only[go_sem,simprocAttr,d5,Ww.eq_1]|(refine EW m1 ?_ (fun r sto' hR=>?_);(focus rfl);obtain⟨rfl,rfl⟩:=hR)|refine Sx.s ?_ ?_<;>try(intro h;have h':=h;try simp only[HB]at h';try rewrite [h];try simp only[h])|refine Kx @cc ?_|refine Ae ?_|refine AG ?_|refine Sz.s ?_|fail)
end
section
def Bu(l:List Ent)(i:Nat):Cat:=(A1 l i).1
structure Valid(l:List Ent):Prop where
 err:∀i,i<=l.length->(A1 l i).2=0
theorem Ec{l:List Ent}(h:AW l=0):Valid l:=⟨fun i hi=>by
 unfold AW at h;split at h
 ·cases h
 ·rename_i ji;by_cases e:(A1 l i).2=0
  ·exact e
  ·rw[U9 e l.length hi]at h;exact absurd h e⟩
theorem Valid.len{l:List Ent}(h:AW l=0):l.length<=4096:=by grind[AW]
theorem Valid.step{l:List Ent}(h:Valid l){i:Nat}(hi:i<l.length):CA l i (Bu l i)=(Bu l (i+1),0):=by have h1:=h.err (i+1) hi;grind[Bu,A1,CA]
theorem Valid.order{l:List Ent}(h:Valid l){i:Nat}(hi:i<l.length):(EG (l.getD i default)||Dw l i (l.getD i default))=false:=by have:=h.step hi;grind[CA]
theorem Valid.form{l:List Ent}(h:Valid l){i:Nat}(hi:i<l.length):Fb (l.getD i default)=true:=by have:=h.step hi;grind[CA]
theorem Valid.tick{l:List Ent}(h:Valid l){i:Nat}(hi:i<l.length):0<=(l.getD i default).tick/\(l.getD i default).tick<=1099511627776:=by have:=h.order hi;grind[EG]
theorem Valid.kinds{l:List Ent}(h:Valid l){i:Nat}(hi:i<l.length):(l.getD i default).kind=1\/(l.getD i default).kind=2\/(l.getD i default).kind=3:=by have:=h.form hi;grind[Fb]
theorem Valid.fact{l:List Ent}(h:Valid l){i:Nat}(hi:i<l.length)(hk:(l.getD i default).kind=1):Bu l (i+1)=Bu l i/\C2 (Bu l i) (l.getD i default).fact=0:=by have:=h.step hi;grind[CA]
theorem Valid.twice{l:List Ent}(h:Valid l){i:Nat}(hi:i<l.length)(hk:(l.getD i default).kind=1):DV l i=false:=by have h2:=(h.fact hi hk).2;have:=h.step hi;grind[CA,DV]
theorem Valid.erase{l:List Ent}(h:Valid l){i:Nat}(hi:i<l.length)(hk:(l.getD i default).kind=2):Bu l (i+1)=Bu l i:=by have:=h.step hi;grind[CA]
theorem Valid.change{l:List Ent}(h:Valid l){i:Nat}(hi:i<l.length)(hk:(l.getD i default).kind=3):Cn (Bu l i) (l.getD i default).change=(Bu l (i+1),0):=by have:=h.step hi;grind[CA]
theorem fd{l:List Tbl}{t:Tbl}(h:AU l t.name=none)(n:AT):AU (Fa l t) n=if n=t.name then some t else AU l n:=by
 have hm:∀x∈l,¬x.name=t.name:=fun x hx=>by have:=List.find?_eq_none.1 h x hx;simpa using this
 have e:l=l.take (E9 l t.name)++l.drop (E9 l t.name):=(List.take_append_drop _ _).symm;have e2:AU l n=((l.take (E9 l t.name)).find? fun x=>decide (x.name=n)).or ((l.drop (E9 l t.name)).find? fun x=>decide (x.name=n)):=by
  conv=>lhs;rw[e]
  exact List.find?_append
 have e3:AU (Fa l t) n=(((l.take (E9 l t.name)).find? fun x=>decide (x.name=n)).or ([t].find? fun x=>decide (x.name=n))).or ((l.drop (E9 l t.name)).find? fun x=>decide (x.name=n)):=by grind[Fa,Bo,AU]
 grind
theorem aDh{c c':Cat}{x:Chg}(h:Cn c x=(c',0)):(x.kind=1/\AU c.tables x.table.name=none/\c'.tables=Fa c.tables x.table)\/(x.kind≠1/\c'.tables=c.tables):=by
 unfold Cn at h;split at h
 ·cases h
 ·split at h
  ·grind
  ·rename_i ji;rw[Prod.mk.injEq]at h;have hE:MG c x=0:=by omega
   have hc:(DH c x).2=0:=by grind[MG]
   rw[<-h.1];unfold DH at hc⊢;split at hc
   ·rename_i h1;rw[if_pos h1];left;unfold K4 at hc⊢;split at hc
    all_goals simp_all
   ·rename_i h1;rw[if_neg h1];right;refine⟨h1,?_⟩;split at hc
    ·grind[JO]
    ·rename_i h2;rw[if_neg h2];split at hc
     ·rename_i h3;rw[if_pos h3];unfold GQ at hc⊢
      repeat' split
      ·grind
      ·rfl
      ·rfl
     ·rename_i h3;rw[if_neg h3];split at hc
      ·rename_i h4;rw[if_pos h4];unfold FG at hc⊢
       repeat' split
       ·grind
       ·grind
       ·rfl
      ·grind[IU]
theorem Valid.tabs{l:List Ent}(h:Valid l){i:Nat}(hi:i<l.length):
  ((l.getD i default).kind=3/\(l.getD i default).change.kind=1/\AU (Bu l i).tables (l.getD i default).change.table.name=none/\(Bu l (i+1)).tables=Fa (Bu l i).tables (l.getD i default).change.table)
  \/(¬((l.getD i default).kind=3/\(l.getD i default).change.kind=1)/\(Bu l (i+1)).tables=(Bu l i).tables):=by
 rcases h.kinds hi with hk|hk|hk
 ·exact .inr ⟨fun e=>absurd (hk.symm.trans e.1) (by decide),by rw[(h.fact hi hk).1]⟩
 ·exact .inr ⟨fun e=>absurd (hk.symm.trans e.1) (by decide),by rw[h.erase hi hk]⟩
 ·rcases aDh (h.change hi hk)with⟨h1,h2,h3⟩|⟨h1,h2⟩
  ·exact .inl ⟨hk,h1,h2,h3⟩
  ·exact .inr ⟨fun e=>h1 e.2,h2⟩
theorem Valid.mono{l:List Ent}(h:Valid l){i:Nat}(hi:i<l.length){n:AT}{t:Tbl}(ht:AU (Bu l i).tables n=some t):AU (Bu l (i+1)).tables n=some t:=by
 rcases h.tabs hi with⟨_,_,h1,h2⟩|⟨_,h2⟩
 all_goals grind[fd]
theorem Valid.at{l:List Ent}(h:Valid l){i:Nat}(hi:i<=l.length):∀j,j<=i->AZ (l.take i) 1099511627776 j=Bu l j
 |0,_=>rfl
 |j+1,hj=>by
  have ih:=h.at hi j (by omega);have jq:j<l.length:=by omega
  have e:(l.take i).getD j default=l.getD j default:=xH (by omega) hi;unfold AZ;rw[e,ih];have ht:=h.tick jq;rcases h.kinds jq with hk|hk|hk
  ·rw[if_pos (.inl (by rw[hk];decide)),(h.fact jq hk).1]
  ·rw[if_pos (.inl (by rw[hk];decide)),h.erase jq hk]
  ·rw[if_neg (by rw[hk];omega),h.change jq hk];simp
theorem Valid.atR{l:List Ent}(h:Valid l){i:Nat}(hi:i<=l.length):atR (l.take i) 1099511627776=Bu l i:=by
 have e:(l.take i).length=i:=by simp;omega
 unfold Proofs.YtkhlddbmhehbbaaGreatDoor.atR;rw[e];exact h.at hi i (Nat.le_refl _)
theorem Valid.table{l:List Ent}(h:Valid l){i:Nat}(hi:i<l.length)(hk:(l.getD i default).kind=1)(h3:(l.getD i default).fact.kind≠3):∃t,AU (Bu l i).tables (l.getD i default).fact.table=some t:=by have:=(h.fact hi hk).2;grind[C2]
theorem fe{l:List Ent}(h:Valid l):∀i,i<=l.length->∀n,Al (OH l i).kinds n=(AU (Bu l i).tables n).map Tbl.entity
 |0,_,n=>rfl
 |i+1,hi,n=>by
  have ih:=fe h i (by omega) n;have ja:i<l.length:=hi;rw[Lc ja];unfold gq;rcases h.tabs ja with⟨h1,h2,h3,h4⟩|⟨h1,h4⟩
  ·grind[fd,Rg]
  ·rw[if_neg h1,h4,<-ih]
   repeat' split
   all_goals rfl
theorem ff(w:MT)(x:Fid)(v:MT):∀A:List (MT×List Fid),(Al (Hq A w x) v).getD []=if v=w then(Al A v).getD []++[x]else(Al A v).getD []
 |[]=>by simp only[Hq,Al];grind
 |p::r=>by
  have ih:=ff w x v r;simp only[Hq];by_cases e:p.1=w
  ·rw[if_pos e];simp only[Al];grind
  ·rw[if_neg e];simp only[Al];grind
theorem fg{l:List Ent}(h:Valid l):∀i,i<=l.length->∀(w:MT) (y:Fid),y∈(Al (OH l i).about w).getD []↔
   ∃e∈l.take i,e.kind=1/\e.fact.kind≠3/\e.fact.key=w.2/\(∃t,AU (Bu l i).tables e.fact.table=some t/\t.entity=w.1)/\y=Ay e.fact
 |0,_,w,y=>by simp[OH,Al]
 |i+1,hi,w,y=>by
  have ja:i<l.length:=hi;have ih:=fg h i (by omega) w y;have hpast:(∃e∈l.take i,e.kind=1/\e.fact.kind≠3/\e.fact.key=w.2/\(∃t,AU (Bu l (i+1)).tables e.fact.table=some t/\t.entity=w.1)/\y=Ay e.fact)↔y∈(Al (OH l i).about w).getD []:=by
   rw[ih];refine⟨fun⟨e,he,a1,a2,a3,⟨t,a4,a5⟩,a6⟩=>⟨e,he,a1,a2,a3,?_,a6⟩,fun⟨e,he,a1,a2,a3,⟨t,a4,a5⟩,a6⟩=>⟨e,he,a1,a2,a3,⟨t,h.mono ja a4,a5⟩,a6⟩⟩;obtain⟨j,hj,rfl⟩:=List.mem_iff_getElem.1 he;have hji:j<i:=by simp at hj;omega
   have qy:j<l.length:=by omega
   have ej:(l.take i)[j]=l.getD j default:=by rw[AS qy];simp
   rw[ej]at a1 a2 a4⊢;obtain⟨t',ht'⟩:=h.table qy a1 a2;have up:∀k,j<=k->k<=i->AU (Bu l k).tables (l.getD j default).fact.table=some t':=fun k hk hki=>by
    induction k with
    |zero=>
     have:j=0:=by omega
     subst this;exact ht'
    |succ k ihk=>
     by_cases e:j=k+1
     ·subst e;exact ht'
     ·exact h.mono (by omega) (ihk (by omega) (by omega))
   have hti:=up i (by omega) (Nat.le_refl _);have:=h.mono ja hti;rw[this]at a4;have e:t'=t:=Option.some.inj a4;exact⟨t',hti,by rw[e];exact a5⟩
  rw[Lc ja,Cg ja];have hsplit:(∃e∈l.take i++[l.getD i default],e.kind=1/\e.fact.kind≠3/\e.fact.key=w.2/\(∃t,AU (Bu l (i+1)).tables e.fact.table=some t/\t.entity=w.1)/\y=Ay e.fact)↔
    y∈(Al (OH l i).about w).getD []\/((l.getD i default).kind=1/\(l.getD i default).fact.kind≠3/\(l.getD i default).fact.key=w.2/\(∃t,AU (Bu l (i+1)).tables (l.getD i default).fact.table=some t/\t.entity=w.1)/\y=Ay (l.getD i default).fact):=by
   rw[<-hpast];constructor
   ·rintro⟨e,he,q⟩;rcases List.mem_append.1 he with he|he
    ·exact .inl ⟨e,he,q⟩
    ·rw[List.mem_singleton.1 he]at q;exact .inr q
   ·rintro(⟨e,he,q⟩|q)
    ·exact⟨e,List.mem_append.2 (.inl he),q⟩
    ·exact⟨_,List.mem_append.2 (.inr (List.mem_singleton.2 rfl)),q⟩
  rw[hsplit];unfold gq;by_cases hc:(l.getD i default).kind=3/\(l.getD i default).change.kind=1
  ·rw[if_pos hc];refine⟨.inl,fun q=>q.elim id fun q=>?_⟩;rw[hc.1]at q;cases q.1
  ·rw[if_neg hc];by_cases hf:(l.getD i default).kind=1/\(l.getD i default).fact.kind≠3
   ·rw[if_pos hf];simp only[ff];obtain⟨t,ht⟩:=h.table ja hf.1 hf.2;have hk:=fe h i (by omega) (l.getD i default).fact.table;rw[ht]at hk;have ht2:=h.mono ja ht;have hw:R4 (OH l i) (l.getD i default).fact=(t.entity,(l.getD i default).fact.key):=by unfold R4;rw[hk];rfl
    rw[hw];split
    ·rename_i e;rw[List.mem_append,List.mem_singleton];constructor
     ·rintro(q|q)
      ·exact .inl q
      ·exact .inr ⟨hf.1,hf.2,by rw[e],⟨t,ht2,by rw[e]⟩,q⟩
     ·rintro(q|⟨_,_,_,_,q⟩)
      ·exact .inl q
      ·exact .inr q
    ·rename_i e;refine⟨.inl,fun q=>q.elim id fun⟨_,_,q3,⟨t',q4,q5⟩,_⟩=>?_⟩;rw[ht2]at q4;cases q4;exact absurd (Prod.ext q5.symm q3.symm) e
   ·rw[if_neg hf];have qb:¬((l.getD i default).kind=1/\(l.getD i default).fact.kind≠3/\(l.getD i default).fact.key=w.2/\(∃t,AU (Bu l (i+1)).tables (l.getD i default).fact.table=some t/\t.entity=w.1)/\y=Ay (l.getD i default).fact):=fun q=>hf ⟨q.1,q.2.1⟩
    repeat' split
    all_goals exact⟨.inl,fun q=>q.elim id fun q=>absurd q qb⟩
theorem fh(L:List Fid):∀(ids:List (Fid×Bool)) (y:Fid),y∈(Fe ids L).map (·.1)↔y∈ids.map (·.1)\/y∈L:=by
 induction L with
 |nil=>intro ids y;simp[Fe]
 |cons x r ih=>intro ids y;have:=ih (AO ids x true) y;grind[Fe,KL]
theorem aDi(ids:List (Fid×Bool))(x y:Fid):y∈(AO ids x true).map (·.1)↔y=x\/y∈ids.map (·.1):=by have:=fh [x] ids y;grind[Fe]
theorem fi{l:List Ent}(h:Valid l):∀i,i<=l.length->∀y,y∈(OH l i).ids.map (·.1)↔y∈Bm l i
 |0,_,y=>by rfl
 |i+1,hi,y=>by
  have ja:i<l.length:=hi;have ih:=fi h i (by omega) y;rw[Lc ja];rcases h.kinds ja with hk|hk|hk
  ·have k2:(l.getD i default).kind≠2:=by omega
   have k3:¬((l.getD i default).kind=3/\(l.getD i default).change.kind=1):=fun q=>absurd (hk.symm.trans q.1) (by decide)
   have e2:Bm l (i+1)=Bm l i:=by grind[Bm]
   have e1:(gq (OH l i) (l.getD i default)).ids=(OH l i).ids:=by unfold gq;grind
   grind
  ·have k3:¬((l.getD i default).kind=3/\(l.getD i default).change.kind=1):=fun q=>absurd (hk.symm.trans q.1) (by decide)
   have k1:¬((l.getD i default).kind=1/\(l.getD i default).fact.kind≠3):=fun q=>absurd (hk.symm.trans q.1) (by decide)
   by_cases hx:(l.getD i default).erasure.kind=2
   ·have e2:Bm l (i+1)=EH (Bm l i) (l.getD i default).erasure.id:=by grind[Bm]
    have e1:(gq (OH l i) (l.getD i default)).ids=AO (OH l i).ids (l.getD i default).erasure.id true:=by grind[gq]
    rw[e1,e2,P5,aDi,ih]
   ·have e2:Bm l (i+1)=D9 (l.take i) (atR (l.take i) 1099511627776) (l.getD i default).erasure (Bm l i):=by grind[Bm]
    have e1:(gq (OH l i) (l.getD i default)).ids=Fe (OH l i).ids ((Al (OH l i).about ((l.getD i default).erasure.entity,(l.getD i default).erasure.key)).getD []):=by grind[gq]
    rw[e1,e2,fh,R2,ih,fg h i (by omega),h.atR (by omega)]
  ·have k2:(l.getD i default).kind≠2:=by omega
   have k1:¬((l.getD i default).kind=1/\(l.getD i default).fact.kind≠3):=fun q=>absurd (hk.symm.trans q.1) (by decide)
   have e2:Bm l (i+1)=Bm l i:=by grind[Bm]
   have e1:(gq (OH l i) (l.getD i default)).ids=(OH l i).ids:=by unfold gq;grind
   grind
theorem fj{l:List Ent}(h:Valid l)(y:Fid):y∈(OH l l.length).ids.map (·.1)↔y∈AF l:=fi h l.length (Nat.le_refl _) y
theorem fk(ids:List (Fid×Bool))(x:Fid)(h:(ids.map (·.1)).Nodup):((AO ids x true).map (·.1)).Nodup:=by grind[KL]
theorem aDj(L:List Fid):∀ids:List (Fid×Bool),(ids.map (·.1)).Nodup->((Fe ids L).map (·.1)).Nodup:=by
 induction L with
 |nil=>intro ids h;exact h
 |cons x r ih=>intro ids h;exact ih _ (fk ids x h)
theorem fm(l:List Ent):∀i,i<=l.length->((OH l i).ids.map (·.1)).Nodup
 |0,_=>by simp[OH]
 |i+1,hi=>by
  have ih:=fm l i (by omega);rw[Lc hi];unfold gq
  repeat' split
  all_goals first|exact ih|exact fk _ _ ih|exact aDj _ _ ih
theorem aDk{l:List Ent}(h:Valid l):FI ((OH l l.length).ids.map (·.1))=AF l:=by
 have hs:=Vj ((OH l l.length).ids.map (·.1));have hn:(FI ((OH l l.length).ids.map (·.1))).Nodup:=(P7 _).nodup_iff.2 (fm l l.length (Nat.le_refl _));refine Lb Ic ?_ (Oi l l.length) fun x=>by rw[(P7 _).mem_iff];exact fj h x
 rw[List.pairwise_iff_getElem]at hs⊢;intro i j hi hj hij;rcases P4 (FI ((OH l l.length).ids.map (·.1)))[i] (FI ((OH l l.length).ids.map (·.1)))[j]with q|q|q
 ·exact q
 ·have:=(List.getElem_inj hn).1 q;omega
 ·exact absurd q (hs i j hi hj hij)
end
end Go.Proofs.YtkhlddbmhehbbaaGreatDoor
