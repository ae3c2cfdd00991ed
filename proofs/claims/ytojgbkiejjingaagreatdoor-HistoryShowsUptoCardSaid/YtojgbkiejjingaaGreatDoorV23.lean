/-Lemmas.-/
import Derived.Test.YtojgbkiejjingaaGreatDoorV22
set_option linter.all false
set_option maxRecDepth 100000
set_option maxHeartbeats 8000000
namespace Go.Proofs.YtojgbkiejjingaaGreatDoor
open Go Go.Dl Go.As Go.Proofs
variable {mx:Int}
attribute[local irreducible] Ah Ai MC W2 Fq ev evD step Ad
section
theorem c8{neg:Bool}{r:List I}{rs:List (List I)}{d:Nat}{st:St}{K:St->Prop}:Cw .sl neg (.i (.sl (r::rs))) d st K=K (st.put d (.i (.bool (false !=neg)))):=rfl
abbrev CyI:=Option (AQ×List AQ)
def cyI:CyI->I
 |none=>.nilsl
 |some p=>.sl (Fd p.1::p.2.map Fd)
theorem aAn(c:Cat)(hc:AR c<=1073741823)(hl:c.features.length<=32)(h0:DP c c.features=0):MC Tryz.prog (Mi mx) 120 [.i (.agg (Ap c))] [] [] (cZ c):=by
 have hr:=aAf h0;have hal:(Cd c.features).length<=32:=by grind[cW,Cd]
 have hcy:=aAj h0 hl;have d1:=aA2 (mx:=mx) c hc (fun p hp=>(hr p hp).2.2);have d2:=zV (mx:=mx) (Cd c.features);have d3:=zW (mx:=mx) (Cd c.features) (by omega);refine MX Yp ?_
 (repeat' first|simp(disch:=omega)only[go_sem,simprocAttr]|refine Sx.s ?_ ?_<;>try(intro h;have h':=h;try simp only[HB]at h';try rewrite [h];try simp only[h])|refine Ab (d1) ?_|refine Ab (d2) ?_|refine Ab (d3) ?_|fail)
 generalize hns:Cr ((Cd c.features).map fun x=>x.1)=ns;have kw:∀t,t∈ns->(Al (Cd c.features) t).isSome=true:=fun t ht=>by rw[<-hns]at ht;exact Vl ((Zfr _ _).mem_iff.1 ht)
 have hmem2:∀t,(Al (Cd c.features) t).isSome=true->t∈ns:=fun t ht=>by rw[<-hns];obtain⟨v,e⟩:=Zhi.1 ht;exact(Zfr _ _).mem_iff.2 (Zfh.2 ⟨_,aget_mem e,rfl⟩)
 have hnl:ns.length<=32:=by rw[<-hns];unfold Cr;rw[(Zfr _ _).length_eq];simpa using hal
 generalize hA:Cd c.features=A at*;refine A4 [3,11,12] (by simp only[V0,JK,reduceIte,Nat.reduceEqDiff];rfl) (fun g:Nat×CyI=>[(2,.i (cyI g.2)),(13,.i (iI g.1))]) (fun _=>[])
  (fun g=>g.1<=ns.length/\(g.2=none↔∀s∈ns.take g.1,¬∃n,Ev (DT A) n s s)) (fun g=>ns.length-g.1) (0,none) ⟨by simp,by simp⟩ (by simp[V0,H0,JJ,cyI]) ?_
 rintro⟨i,cur⟩ ⟨hi,jb⟩;simp only at hi jb⊢;by_cases ja:i<ns.length
 ·have hs:=kw _ (At ja);refine FU (BV ja) ?_;refine Dg (aA6 A (ns.getD i default) (by omega) hr hs) ?_ (fun r sto' hR=>?_)
  ·simp only[go_sem,Nat.reduceEqDiff,Ze1,Ze5]
  have jq:∀cur':CyI,(cur'=none↔cur=none/\¬∃n,Ev (DT A) n (ns.getD i default) (ns.getD i default))->(cur'=none↔∀s∈ns.take (i+1),¬∃n,Ev (DT A) n s s):=fun cur' hc'=>by rw[hc',jb,BM ja];grind
  have b1:(true !=true)=false:=rfl;have b2:(false !=true)=true:=rfl;have b3:(false !=false)=false:=rfl;have b4:(true !=false)=true:=rfl;obtain⟨rfl,⟨rfl,hn⟩|⟨x,L,rfl,hw⟩⟩:=hR
  ·refine Man b1 ?_;exact⟨(i+1,cur),⟨by simp only;omega,jq cur ⟨fun e=>⟨e,hn⟩,fun e=>e.1⟩⟩,by simp only;omega,rfl,rfl⟩
  ·cases cur with
   |none=>simp only[cyI];refine Jf (cj @c8 (cj b2 b4)) ?_;exact⟨(i+1,some (x,L)),⟨by simp only;omega,jq _ ⟨fun e=>(Zhq _ e).elim,fun e=>absurd hw e.2⟩⟩,by simp only;omega,rfl,rfl⟩
   |some p=>
    obtain⟨y,L2⟩:=p;simp only[cyI];refine AU (cj @c8 (cj b2 b3)) (cj ?_ ?_)
    ·intro _ _;exact⟨(i+1,some (x,L)),⟨by simp only;omega,jq _ ⟨fun e=>(Zhq _ e).elim,fun e=>absurd hw e.2⟩⟩,by simp only;omega,rfl,rfl⟩
    ·intro _ _;exact⟨(i+1,some (y,L2)),⟨by simp only;omega,jq _ ⟨fun e=>(Zhq _ e).elim,fun e=>absurd hw e.2⟩⟩,by simp only;omega,rfl,rfl⟩
 ·refine FU (Hi ja) ?_;have wl:i=ns.length:=by omega
  subst wl;rw[Zgd]at jb;have ko:cur=none↔G6 c=[]:=by grind
  refine HA ?_;simp only[go_sem];refine⟨rfl,?_⟩;cases cur with
  |none=>exact .inl ⟨rfl,ko.1 rfl⟩
  |some p=>exact .inr ⟨p.1,p.2,rfl,fun e=>by have:=ko.2 e;cases this⟩
end
section
def KJ(c:Cat)(name:AQ):Cat×Int:=if BN c.drafts name<0 then(c,4)else ID c name
theorem aAo(c:Cat)(x:Chg)(h2:c.drafts.length<=1073741824):Is mx 116 [.agg (Ap c),.agg (AF x)] (KK (KJ c x.name)):=by
 have i1:=NX (mx:=mx) c.drafts x.name h2;refine MX mn ?_;rcases Eo c.drafts x.name with⟨e,_⟩|⟨i,e,hi,_⟩
 ·rw[e]at i1;have hR:KJ c x.name=(c,4):=by grind[KJ]
  rw[hR];exact EV (cj i1 (cj @KK.eq_1 @Bw)) trivial
 ·rw[e]at i1;have hR:KJ c x.name=({c with drafts:=A5 c.drafts i},0):=by rw[KJ,e,Zac (by omega),ID,e,Zac (by omega)];rfl
  rw[hR];have hF:((i:Int)<0)=False:=Za9 (by omega);have w1:=PL (mx:=mx) c.drafts i h2 hi;exact EV (cj i1 (cj w1 (cj @KK.eq_1 (cj @Bw hF)))) trivial
def IK(c:Cat)(name:AQ):Cat×Int:=if BN c.drafts name<0 then(c,4)else Gp c name
theorem aAp(c:Cat)(x:Chg)(h1:c.features.length<=1073741823)(h2:c.drafts.length<=1073741823)(h3:c.past.length<=1073741823):Is mx 113 [.agg (Ap c),.agg (AF x)] (KK (IK c x.name)):=by
 have i1:=NX (mx:=mx) c.drafts x.name (by omega);have i2:=NX (mx:=mx) c.features x.name (by omega);refine MX nn ?_;rcases Eo c.drafts x.name with⟨e,_⟩|⟨i,e,hi,_⟩
 ·rw[e]at i1;have hR:IK c x.name=(c,4):=by grind[IK]
  rw[hR];exact EV (cj i1 (cj @KK.eq_1 @Bw)) trivial
 ·rw[e]at i1;have hF:((i:Int)<0)=False:=Za9 (by omega);have w1:=PL (mx:=mx) c.drafts i (by omega) hi;rcases Eo c.features x.name with⟨e',_⟩|⟨j,e',hj,_⟩
  ·rw[e']at i2;have hR:IK c x.name=(⟨c.tables,BS c.features (c.drafts.getD i default),A5 c.drafts i,c.past⟩,0):=by rw[IK,e,Zac (by omega),Gp,e,e',Zac (by omega),Zaa (by omega)];rfl
   rw[hR];have s1:=NY (mx:=mx) c.features (c.drafts.getD i default) h1;exact EV (cj i1 (cj w1 (cj i2 (cj s1 (cj @KK.eq_1 (cj @Bw (cj hF (BV hi)))))))) trivial
  ·rw[e']at i2;have hR:IK c x.name=(⟨c.tables,BS (A5 c.features j) (c.drafts.getD i default),A5 c.drafts i,BS c.past (c.features.getD j default)⟩,0):=by rw[IK,e,Zac (by omega),Gp,e,e',Zac (by omega),Zac (by omega)];rfl
   rw[hR];have hF2:(0<=(j:Int))=True:=Za8 (by omega);have w2:=PL (mx:=mx) c.features j (by omega) hj;have s1:=NY (mx:=mx) (A5 c.features j) (c.drafts.getD i default) (by have:=RB c.features j;omega);have s2:=NY (mx:=mx) c.past (c.features.getD j default) h3
   (repeat' first|simp(disch:=omega)only[go_sem,simprocAttr,KK,Bw,hF,hF2,BV hi,BV hj]|refine Sx.s ?_ ?_<;>try(intro h;have h':=h;try simp only[HB]at h';try rewrite [h];try simp only[h])|refine Ab (i1) ?_|refine Ab (w1) ?_|refine Ab (i2) ?_|refine Ab (w2) ?_|refine Ab (s1) ?_|refine Ab (s2) ?_|refine Ac ?_|refine Au ?_|refine Sz.s ?_|fail)
   all_goals(try rfl)
def Hg(c:Cat)(name:AQ):Cat×Int:=if BN c.features name<0 then(c,4)else if HS c.past name<0\/0<=BN c.drafts name then(c,140)else Fk c name
theorem aAq(l:List Ftr)(name:AQ)(i:Nat):Gn l name (i+1)=if(l.getD i default).name=name then(i:Int)else Gn l name i:=rfl
theorem aAr(c:Cat)(x:Chg)(h1:c.features.length<=1073741823)(h2:c.drafts.length<=1073741823)(h3:c.past.length<=1073741823):Is mx 115 [.agg (Ap c),.agg (AF x)] (KK (Hg c x.name)):=by
 have i1:=NX (mx:=mx) c.drafts x.name (by omega);have i2:=NX (mx:=mx) c.features x.name (by omega);refine MX pE ?_;rcases Eo c.features x.name with⟨e,_⟩|⟨j,e,hj,_⟩
 ·rw[e]at i2;have hR:Hg c x.name=(c,4):=by grind[Hg]
  rw[hR];exact EV (cj i2 (cj @KK.eq_1 @Bw)) trivial
 ·rw[e]at i2;have hF:((j:Int)<0)=False:=Za9 (by omega);refine EV (cj i2 (cj @KK.eq_1 (cj @Bw hF))) ?_;refine lT [2,3,4,6,19,20] (fun i:Nat=>[(7,.i (iI (Gn c.past x.name i))),(21,.i (iI i))]) (fun _=>[(2,.cells ((Ap c).map .i)),(4,.cells LY)]) (fun i=>i<=c.past.length) (fun i=>c.past.length-i) 0 ?_;intro k hk;by_cases jk:k<c.past.length
  ·have jf:=aAq c.past x.name k;by_cases hn:(c.past.getD k default).name=x.name
   ·rw[Zaa hn]at jf;refine FU (cj @Ci (cj (BV jk) hn)) ?_;refine⟨k+1,by omega,by omega,?_⟩;exact⟨by rw[jf],rfl⟩
   ·rw[Zac hn]at jf;refine FU (cj @Ci (cj (BV jk) hn)) ?_;refine⟨k+1,by omega,by omega,?_⟩;exact⟨by rw[jf],rfl⟩
  ·have ek:k=c.past.length:=by omega
   subst ek;have hL:HS c.past x.name=Gn c.past x.name c.past.length:=rfl;rcases RA c.past x.name c.past.length with e3|⟨o,e3,ho,_⟩
   ·have hR:Hg c x.name=(c,140):=by rw[Hg,e,hL,e3,Zac (by omega),Zaa (.inl (by omega))]
    rw[hR,e3];exact FU (Hi jk) trivial
   ·have hF3:((o:Int)<0)=False:=Za9 (by omega);rcases Eo c.drafts x.name with⟨e1,_⟩|⟨i,e1,hi,_⟩
    ·rw[e1]at i1;have hR:Hg c x.name=(⟨c.tables,BS (A5 c.features j) (c.past.getD o default),BS c.drafts (c.features.getD j default),A5 c.past o⟩,0):=by rw[Hg,e,e1,hL,e3,Zac (by omega),Zac (by omega),Fk,e,e1,hL,e3,Zac (by omega),Zac (by omega)];rfl
     rw[hR,e3];have w2:=PL (mx:=mx) c.features j (by omega) hj;have w3:=PL (mx:=mx) c.past o (by omega) ho;have s1:=NY (mx:=mx) (A5 c.features j) (c.past.getD o default) (by have:=RB c.features j;omega);have s2:=NY (mx:=mx) c.drafts (c.features.getD j default) h2;exact EV (cj i1 (cj w2 (cj w3 (cj s1 (cj s2 (cj (Hi jk) (cj hF3 (cj (BV hj) (BV ho))))))))) trivial
    ·rw[e1]at i1;have hF2:(0<=(i:Int))=True:=Za8 (by omega);have hR:Hg c x.name=(c,140):=by grind[Hg]
     rw[hR,e3];exact EV (cj i1 (cj (Hi jk) (cj hF2 hF3))) trivial
end
section
theorem aAs(n:Nat)(hn:n<=1073741824):MC Tryz.prog (Mi mx) 201 [.ref (.sl 5500 18 0 0),.i (iI n)] [(5500,.arr 50 18 [])] [5500]
  (fun r s=>∃nm,(nm=5500\/nm=6000)/\r=.ref (.sl nm 18 0 0)/\s=[(nm,.rows 50 18 [])]):=by
 refine MC.rowsOut (R:=fun r s=>∃nm,(nm=5500\/nm=6000)/\r=.ref (.sl nm 18 0 0)/\∃j,s=[(nm,.arr 50 18 (([]:List (List I)).map some++j))]) ?_ fun r s ⟨nm,hn,hr,j,hs⟩=>⟨nm,_,_,[],j,[],hs,nm,hn,hr,rfl⟩
 have hF:((n:Int)<0)=False:=Za9 (by omega);refine MX nH ?_;by_cases h0:n=0
 ·subst h0
  (repeat' first|simp(disch:=omega)only[go_sem,simprocAttr,Zg6,Zeu]|refine Ac ?_|fail)
  refine Dv [(5500,5500)] ?_;exact⟨5500,.inl rfl,rfl,[],rfl⟩
 ·have hp:((n:Int)>0)=True:=Za8 (by omega);have vo:((0:Int)<(n:Int))=True:=Za8 (by omega);have hp2:(0<n)=True:=Za8 (by omega);have hp3:(n<=0)=False:=Za9 (by omega)
  (repeat' first|simp(disch:=omega)only[go_sem,simprocAttr,hF,hp,hp2,hp3,Zg6,Zeu,Int.sub_zero,Zco,Zew,Zg8,false_implies,true_implies,Zav,Zau]|refine Ac ?_|(refine And.intro ?_ ?_;focus omega))
  refine⟨⟨fun r hr=>by rw[(Zfp.1 hr).2];rfl,fun r hr=>by rw[(Zfp.1 hr).2];rfl⟩,[],rfl,⟨by simp,by simp⟩,by omega,by omega,fun c=>?_⟩;generalize List.replicate n _=zs
  (repeat' first|simp(disch:=omega)only[go_sem,simprocAttr,Zft]|(refine And.intro ?_ ?_;focus omega))
  refine Dv [(22,6000)] ?_;exact⟨6000,.inr rfl,rfl,_,rfl⟩
theorem aAt(nm:Nat)(jl:nm<5000)(n:Nat)(hn:n<=1073741824):MC Tryz.prog (Mi mx) 201 [.ref (.sl nm 18 0 0),.i (iI n)] [(nm,.arr 50 18 [])] [nm]
  (fun r s=>∃m,(m=nm\/m=6000)/\r=.ref (.sl m 18 0 0)/\s=[(m,.rows 50 18 [])]):=by
 have e1:KN [(5500,nm)] 5500=nm:=by rfl
 have e2:KN [(5500,nm)] 6000=6000:=by
  have:¬(6000=nm):=by omega
  simp[KN,sw,this]
 have h:=(MC.as [(5500,nm)] (aAs (mx:=mx) n hn)).mono (R':=fun r s=>∃m,(m=nm\/m=6000)/\r=.ref (.sl m 18 0 0)/\s=[(m,.rows 50 18 [])]) (by
  rintro r s ⟨m,hm,h1,h2⟩;have k:=DX (f:=IM [(5500,nm)]) (g:=KN [(5500,nm)]) (BQ _) r;have k2:=E2 (f:=IM [(5500,nm)]) (g:=KN [(5500,nm)]) (BQ _) s;rw[h1]at k;rw[h2]at k2;rcases hm with rfl|rfl
  ·refine⟨nm,.inl rfl,?_,?_⟩
   ·rw[<-k];simp only[I8,OF,e1]
   ·rw[<-k2];simp only[IL,KL,e1]
  ·refine⟨6000,.inr rfl,?_,?_⟩
   ·rw[<-k];simp only[I8,OF,e2]
   ·rw[<-k2];simp only[IL,KL,e2])
 simp only[Ze1,Ze5,I8,OF,IL,KL,e1]at h;exact h
def Vs(l:List Ftr):List I:=[.sl (l.map Af)]
def CB(L:List (List Ftr))(i:Nat):List Ftr:=(L.take i).flatten
theorem Vt{L:List (List Ftr)}{i:Nat}(h:i<L.length):CB L (i+1)=CB L i++L.getD i default:=by unfold CB;rw[BM h,Zdr];simp
theorem Vu(L:List (List Ftr))(i:Nat):(CB L i).length<=L.flatten.length:=by
 unfold CB;have:L.flatten=(L.take i).flatten++(L.drop i).flatten:=by rw[<-Zdr,Zga]
 grind
theorem aAu(L:List (List Ftr))(hL:L.length<=1000)(hl:L.flatten.length<=1073741):Is mx 158 [.sl (L.map Vs)] (.sl (L.flatten.map Af)):=by
 have jv:∀i,i<L.length->(L.map Vs).getD i []=[.sl ((L.getD i default).map Af)]:=fun i h=>by rw[Zdx,Zd5,Zd2 h,AK h];rfl
 refine MX mt ?_
 (repeat' first|simp(disch:=omega)only[go_sem,simprocAttr]|fail)
 refine A4 [0,9,10] (by simp only[V0,JK,reduceIte,Nat.reduceEqDiff];rfl) (fun i:Nat=>[(3,.i (iI ((CB L i).length:Int))),(11,.i (iI i))]) (fun _=>[]) (fun i=>i<=L.length) (fun i=>L.length-i) 0 (by omega) (by simp[V0,H0,JJ,CB]) ?_;intro i hi;by_cases ja:i<L.length
 ·have hs:=Vt ja;have h1:=Vu L (i+1);have hr:=jv i ja;have je:((CB L (i+1)).length:Int)=(CB L i).length+(L.getD i default).length:=by rw[hs];simp
  have hneg:(((CB L i).length:Int)+(L.getD i default).length<0)=False:=Za9 (by omega);refine FU (cj (BV ja) (cj hr hneg)) ?_;exact⟨i+1,by omega,by omega,by rw[je],rfl⟩
 ·have e:i=L.length:=by omega
  subst e;have jj:CB L L.length=L.flatten:=by simp[CB]
  rw[jj];have m1:=aAt (mx:=mx) 2024 (by decide) L.flatten.length (by omega);refine FU (Hi ja) ?_;refine Ve m1 rfl rfl (by simp[Be,Aa]) (by simp[PW,Oe,Blk.nms,D.nms,Ref.nm,Aa]) (fun r sto' hR=>?_);obtain⟨nm,jl,rfl,rfl⟩:=hR;rcases jl with rfl|rfl
  ·refine Od ?_;refine lT [25,26] (fun i:Nat=>[(6,.ref (.sl 2024 18 0 (CB L i).length)),(27,.i (iI i))]) (fun i=>[(2024,.rows 50 18 ((CB L i).map Af))]) (fun i=>i<=L.length) (fun i=>L.length-i) 0 ?_;intro i hi;by_cases ja:i<L.length
   ·have hs:=Vt ja;have h1:=Vu L (i+1);have hr:=jv i ja;have je:(CB L (i+1)).length=(CB L i).length+(L.getD i default).length:=by rw[hs];simp
    have hrw:=A1 (L.getD i default) CU C2;have kc:List.take (CB L i).length ((CB L i).map Af)=(CB L i).map Af:=Zgf (by simp);refine A8 (cj (BV ja) (cj hr kc)) ?_;exact⟨hrw.1,hrw.2,by omega,by omega,i+1,by omega,by omega,⟨by rw[je],rfl⟩,by rw[hs,Zez]⟩
   ·have e:i=L.length:=by omega
    subst e;refine FU (Hi ja) ?_;rw[jj]
  ·refine Od ?_;refine lT [25,26] (fun i:Nat=>[(6,.ref (.sl 24 18 0 (CB L i).length)),(27,.i (iI i))]) (fun i=>[(24,.rows 50 18 ((CB L i).map Af))]) (fun i=>i<=L.length) (fun i=>L.length-i) 0 ?_;intro i hi;by_cases ja:i<L.length
   ·have hs:=Vt ja;have h1:=Vu L (i+1);have hr:=jv i ja;have je:(CB L (i+1)).length=(CB L i).length+(L.getD i default).length:=by rw[hs];simp
    have hrw:=A1 (L.getD i default) CU C2;have kc:List.take (CB L i).length ((CB L i).map Af)=(CB L i).map Af:=Zgf (by simp);refine A8 (cj (BV ja) (cj hr kc)) ?_;exact⟨hrw.1,hrw.2,by omega,by omega,i+1,by omega,by omega,⟨by rw[je],rfl⟩,by rw[hs,Zez]⟩
   ·have e:i=L.length:=by omega
    subst e;refine FU (Hi ja) ?_;rw[jj]
end
section
def vP(name:AQ)(n:Int)(g:Ftr):Int:=if g.name=name then max n (g.version+1)else n
theorem c9(name:AQ):∀(l:List Ftr) (n:Int),l.foldl (vP name) (n+1)=l.foldl (Dm name) n+1
 |[],_=>rfl
 |g::r,n=>by
  have e:vP name (n+1) g=Dm name n g+1:=by unfold vP Dm;grind
  rw[Zdt,Zdt,e,c9 name r]
theorem da(name:AQ):∀(l:List Ftr) (n:Int),(∀g∈l,g.name≠name)->l.foldl (Dm name) n=n
 |[],_,_=>rfl
 |g::r,n,h=>by
  have e:Dm name n g=n:=by unfold Dm;rw[Zac (h g Zfd)]
  rw[Zdt,e];exact da name r n fun x hx=>h x (Zfc _ hx)
theorem db(name:AQ)(M:Int):∀(l:List Ftr) (n:Int),M<=l.foldl (Dm name) n↔M<=n\/∃g∈l,g.name=name/\M<=g.version
 |[],n=>by simp
 |g::r,n=>by rw[Zdt,db name M r];simp only[Zfb,exists_eq_or_imp];unfold Dm;grind
theorem aAv{c:Cat}{name:AQ}(h:BN c.drafts name=-1):Fj c name=(c.features++c.past).foldl (Dm name) 0:=by
 have hd:∀g∈c.drafts,g.name≠name:=by
  rcases Eo c.drafts name with⟨_,e⟩|⟨i,e,_,_⟩
  ·intro g hg;unfold BL at e;grind
  ·omega
 unfold Fj B5;simp_all[da]
def PP(c:Cat)(f:Ftr):Cat×Int:=
 if f.version≠0 then(c,1)else if 0<=BN c.drafts f.name then(c,121)else if Dz c f≠0 then(c,Dz c f)
 else if 1099511627776<=Fj c f.name then(c,2)else Jv c f
theorem dc(c:Cat)(f:Ftr)(hc:AR c<=1073741823)(hf:Bd f<=1073741823):Is mx 119 [.agg (Ap c),.agg (Af f)] (iI (Dz c f)):=by have h0:=G2 f;have h4:D4 f.typ=Ag AY f.typ.unit+f.typ.of.length+1:=rfl;have qg:=E9 f.typ.unit;have hcB:GZ c:=t6 (by omega);rw[<-zI];exact tF c f hcB (by unfold uB;omega) (by omega)
theorem Vv(f:Ftr)(v:Int):Af (Ha f v)=[.str f.name,.str f.entity,.int .i64 f.typ.kind,.sl (f.typ.unit.map Ax),.str f.typ.of,.int .i64 f.body.kind,.str f.body.op,.str f.body.name,.str f.body.table,.int .i64 f.body.val.kind,.int .i64 f.body.val.n,.str f.body.val.s,.sl (f.body.unit.map Ax),.int .i64 f.body.param,.int .i64 f.body.win.kind,.int .i64 f.body.win.size,.sl (f.body.args.map eE),.int .i64 v]:=Ci (Ha f v)
theorem aAw(c:Cat)(x:Chg)(hb:AR c+D5 x<=1073741)(hver:∀g∈c.features++c.past,0<=g.version):Is mx 110 [.agg (Ap c),.agg (AF x)] (KK (PP c x.feature)):=by
 have hcb:=BR c;have hxb:=Gd x;have l1:=C1 c.features;have l2:=C1 c.drafts;have l3:=C1 c.past;have i1:=NX (mx:=mx) c.drafts x.feature.name (by omega);have f1:=dc (mx:=mx) c x.feature (by omega) (by omega);have k1:=aAu (mx:=mx) [c.features,c.past] (by simp) (by simp;omega);simp only[Ze1,Ze5,Vs,List.flatten_cons,List.flatten_nil,Zc1]at k1;have hVl:(c.features++c.past).length<=1073741:=by simp;omega
 have hR:=PP.eq_1 c x.feature;have hR2:=Jv.eq_1 c x.feature;have hN2:=aAv (c:=c) (name:=x.feature.name);generalize c.features++c.past=V at k1 hVl hN2 hver;rw[Ci]at f1;refine MX oB ?_;by_cases hv:x.feature.version=0
 ·rw[Zac (by omega)]at hR hR2;rcases Eo c.drafts x.feature.name with⟨e,_⟩|⟨i,e,hi,_⟩
  ·have hN2:=hN2 e;rw[e]at i1 hR hR2;rw[Zac (by omega)]at hR hR2;by_cases qk:Dz c x.feature=0
   ·rw[Zac (by omega)]at hR hR2;rw[qk]at f1;have hmost:=db x.feature.name 1099511627776 V 0;rw[<-hN2]at hmost;have hvp:=c9 x.feature.name V 0;rw[<-hN2]at hvp
    (repeat' first|simp(disch:=omega)only[go_sem,simprocAttr,KK,Bw,Za8 hv,Zaj,Za3,Za2]|refine Sx.s ?_ ?_<;>try(intro h;have h':=h;try simp only[HB]at h';try rewrite [h];try simp only[h])|refine Ab (i1) ?_|refine Ab (f1) ?_|refine Ab (k1) ?_|refine Ac ?_|fail)
    refine A4 [2,4,6,36,37] (by simp only[V0,JK,reduceIte,Nat.reduceEqDiff];rfl) (fun i:Nat=>[(38,.i (iI i))]) (fun i=>[(6,.cells ((Af (Ha x.feature ((V.take i).foldl (vP x.feature.name) 1))).map .i)),(2,.cells ((Ap c).map .i)),(4,.cells LY)]) (fun i=>i<=V.length/\∀g∈V.take i,¬(g.name=x.feature.name/\1099511627776<=g.version)) (fun i=>V.length-i) 0 ⟨by omega,by simp⟩ (by simp[V0,H0,Ref.nm,Vv,Ap,D.nms,Oe]) ?_;rintro i ⟨hi,hno⟩;by_cases ja:i<V.length
    ·have jq:(V.take (i+1)).foldl (vP x.feature.name) 1=vP x.feature.name ((V.take i).foldl (vP x.feature.name) 1) (V.getD i default):=by rw[BM ja,Zds];rfl
     have hnx:¬((V.getD i default).name=x.feature.name/\1099511627776<=(V.getD i default).version)->∀g∈V.take (i+1),¬(g.name=x.feature.name/\1099511627776<=g.version):=fun h g hg=>by rw[BM ja]at hg;grind
     have hm:=At ja;have hv0:=hver _ hm;generalize (V.take i).foldl (vP x.feature.name) 1=v0 at jq;by_cases hn:(V.getD i default).name=x.feature.name
     ·by_cases hM:1099511627776<=(V.getD i default).version
      ·rw[Zaa (hmost.2 (.inr ⟨_,hm,hn,hM⟩))]at hR;rw[hR];exact A8 (cj (BV ja) (cj @Ci (cj @Ha.eq_1 (cj hn hM)))) trivial
      ·have we:vP x.feature.name v0 (V.getD i default)=max v0 ((V.getD i default).version+1):=by unfold vP;rw[Zaa hn]
       rw[we]at jq
       (repeat' first|simp(disch:=omega)only[go_sem,simprocAttr,BV ja,Ci,Ha,Ze1,Ze5,Za8 hn,Za9 hM,Za1,Za2]|refine Ac ?_|fail)
       all_goals(refine⟨i+1,⟨by omega,hnx (fun h=>hM h.2)⟩,by omega,rfl,?_⟩;rw[jq,show max v0 ((V.getD i default).version+1)=if(V.getD i default).version+1>v0 then(V.getD i default).version+1 else v0 by split<;>omega])
     ·have we:vP x.feature.name v0 (V.getD i default)=v0:=by unfold vP;rw[Zac hn]
      rw[we]at jq
      (repeat' first|simp(disch:=omega)only[go_sem,simprocAttr,BV ja,Ci,Ha,Ze1,Ze5,Za9 hn,Za2]|refine Ac ?_|fail)
      all_goals exact⟨i+1,⟨by omega,hnx (fun h=>hn h.1)⟩,by omega,rfl,by rw[jq]⟩
    ·have ei:i=V.length:=by omega
     subst ei;rw[Zgd]at hno;have hnl:¬1099511627776<=Fj c x.feature.name:=fun h=>by grind
     rw[Zac hnl]at hR hR2;rw[hR,hR2];have hvp2:V.foldl (vP x.feature.name) 1=Fj c x.feature.name+1:=hvp;have s1:=NY (mx:=mx) c.drafts (Ha x.feature (Fj c x.feature.name+1)) (by omega);rw[Vv]at s1;rw[Zgd,hvp2];exact AU (cj s1 (cj (Hi ja) @Vv)) trivial
   ·rw[Zaa qk]at hR;rw[hR];have hn:(Dz c x.feature=0)=False:=Za9 qk
    (repeat' first|simp(disch:=omega)only[go_sem,simprocAttr,KK,Bw,Za8 hv,Zaj,Za3,Zat,Za2,Za1,hn]|refine Sx.s ?_ ?_<;>try(intro h;have h':=h;try simp only[HB]at h';try rewrite [h];try simp only[h])|refine Ab (i1) ?_|refine Ab (f1) ?_|refine Ac ?_|refine Sz.s ?_|fail)
    all_goals(try rfl)
  ·rw[e]at i1 hR;rw[Zaa (by omega)]at hR;rw[hR];have hF2:(0<=(i:Int))=True:=Za8 (by omega);exact AU (cj i1 (cj @KK.eq_1 (cj @Bw (cj hv hF2)))) trivial
 ·rw[Zaa hv]at hR;rw[hR];have hn:(x.feature.version=0)=False:=Za9 hv;exact A8 (cj @KK.eq_1 (cj @Bw hn)) trivial
end
section
abbrev Ver:=AQ×Int
abbrev R8(v:Ver):I:=.agg [.str v.1,.int .i64 v.2]
theorem dd:Ly R8:=fun a b=>by obtain⟨a1,a2⟩:=a;obtain⟨b1,b2⟩:=b;simp[A3,cellsI,Dr];grind
def N5(f:Ftr):Ver:=(f.name,f.version)
def FQ(l:List Ftr):List (Ver×Bool):=l.foldl (fun m f=>AM m (N5 f) true) []
def vmE(m:List (Ver×Bool)):List (I×I):=m.map fun p=>(R8 p.1,.bool p.2)
def inV(m:List (Ver×Bool))(v:Ver):Bool:=(Al m v).getD false
theorem aAx(m:List (Ver×Bool))(s:AQ)(n:Int):CF (vmE m) (.agg [.str s,.int .i64 n]) (.bool false) false=.bool (inV m (s,n)):=MY (eK:=R8) (f:=I.bool) dd m (s,n) false
theorem aAy(m:List (Ver×Bool))(s:AQ)(n:Int):DV (vmE m) (.agg [.str s,.int .i64 n]) (.bool true)=vmE (AM m (s,n) true):=MW (eK:=R8) (f:=I.bool) dd m (s,n) true
theorem aAz(m:List (Ver×Bool)):(∀e∈vmE m,Ay [.g,.s,.i .i64] e.1=true)=True:=Za8 fun e he=>by obtain⟨p,_,rfl⟩:=Zfh.1 he;rfl
theorem aB0(l:List Ftr)(f:Ftr):FQ (l++[f])=AM (FQ l) (f.name,f.version) true:=by unfold FQ;rw[Zds];rfl
theorem aB1(l:List Ftr)(v:Ver):∀m:List (Ver×Bool),inV (l.foldl (fun m f=>AM m (N5 f) true) m) v=(inV m v||l.any fun g=>decide (N5 g=v)):=by
 induction l with
 |nil=>intro m;simp
 |cons g r ih=>
  intro m;rw[Zdt,ih,Zcy];have h:inV (AM m (N5 g) true) v=(inV m v||decide (N5 g=v)):=by unfold inV;rw[QN];grind
  grind
theorem aB2(l:List Ftr)(f:Ftr):inV (FQ l) (f.name,f.version)=l.any (HQ f):=by unfold FQ;rw[aB1];have h0:inV [] (f.name,f.version)=false:=rfl;rw[h0,Zb5];congr 1;funext g;unfold HQ N5;simp
def Dq(c:Cat)(n:Nat):List Ftr:=if n=0 then c.features else if n=1 then c.drafts else c.past
def BO(c:Cat)(n:Nat):List Ftr:=if n=0 then[]else if n=1 then c.features else if n=2 then c.features++c.drafts else B5 c
def N6(c:Cat)(n:Nat):List Ftr:=if n=0 then B5 c else if n=1 then c.drafts++c.past else if n=2 then c.past else[]
theorem aB3{c:Cat}{n:Nat}(h:n<3):BO c n++Dq c n=BO c (n+1):=by
 have:n=0\/n=1\/n=2:=by omega
 rcases this with rfl|rfl|rfl<;>simp[BO,Dq,B5]
theorem aB4{c:Cat}{n:Nat}(h:n<3):Dq c n++N6 c (n+1)=N6 c n:=by
 have:n=0\/n=1\/n=2:=by omega
 rcases this with rfl|rfl|rfl<;>simp[N6,Dq,B5]
theorem aB5{c:Cat}{n i:Nat}(h:n<3)(hi:i<(Dq c n).length)(f:Ftr):
  HR c.features.length (c.features.length+c.drafts.length) (BO c n++(Dq c n).take i).length ((BO c n++(Dq c n).take i).getD ((BO c n++(Dq c n).take i).length-1) default) f=
  (decide (0<i)&&(Op.bytesLess f.name ((Dq c n).getD (i-1) default).name||(decide (n<2)&&decide (f.name=((Dq c n).getD (i-1) default).name)))):=by
 have hl:(BO c n++(Dq c n).take i).length=(BO c n).length+i:=by simp;omega
 have hp:0<i->(BO c n++(Dq c n).take i).getD ((BO c n).length+i-1) default=(Dq c n).getD (i-1) default:=fun h0=>by grind
 have hn:n=0\/n=1\/n=2:=by omega
 rw[hl];unfold HR NA;by_cases h0:i=0
 ·subst h0;have e:(decide ((BO c n).length+0=0)||decide ((BO c n).length+0=c.features.length)||decide ((BO c n).length+0=c.features.length+c.drafts.length))=true:=by grind[BO]
  rw[e];simp
 ·rw[hp (by omega)];have e:(decide ((BO c n).length+i=0)||decide ((BO c n).length+i=c.features.length)||decide ((BO c n).length+i=c.features.length+c.drafts.length))=false:=by grind[BO,Dq]
  have e2:decide ((BO c n).length+i<c.features.length+c.drafts.length)=decide (n<2):=by grind[BO,Dq]
  rw[e,e2,Za5 (show 0<i by omega)];simp
theorem aB6{c:Cat}{n:Nat}(h:n<3):[[I.sl (c.features.map Af)],[I.sl (c.drafts.map Af)],[I.sl (c.past.map Af)]].getD n []=[.sl ((Dq c n).map Af)]:=by
 have:n=0\/n=1\/n=2:=by omega
 rcases this with rfl|rfl|rfl<;>rfl
theorem aB7(c:Cat)(hc:AR c<=1073741823):Is mx 118 [.agg (Ap c)] (iI (Em c.features.length (c.features.length+c.drafts.length) [] (B5 c))):=by
 have hb:=BR c;have hlf:=C1 c.features;have hld:=C1 c.drafts;have hlp:=C1 c.past;have hln:∀n,n<3->(Dq c n).length<=1073741823:=fun n hn=>by grind[Dq]
 have kw:∀n,n<3->∀f∈Dq c n,f∈B5 c:=fun n hn f hf=>by
  have:n=0\/n=1\/n=2:=by omega
  rcases this with rfl|rfl|rfl<;>simp[Dq]at hf<;>simp[B5,hf]
 generalize hT:Em c.features.length (c.features.length+c.drafts.length) [] (B5 c)=T;refine MX Yw ?_
 (repeat' first|simp(disch:=omega)only[go_sem,simprocAttr]|fail)
 refine A4 [3,18,19] (by simp only[V0,JK,reduceIte,Nat.reduceEqDiff];rfl) (fun n:Nat=>[(20,.i (iI n))]) (fun n=>[(11,.map [.g,.s,.i .i64] (vmE (FQ (BO c n))))]) (fun n=>n<=3/\Em c.features.length (c.features.length+c.drafts.length) (BO c n) (N6 c n)=T) (fun n=>3-n) 0 ⟨by omega,hT⟩ (by simp[V0,H0,JJ,Ref.nm,BO,FQ,vmE]) ?_;rintro n ⟨hn,jb⟩;by_cases hn':n<3
 ·have h3:((n:Int)<3)=True:=Za8 (by omega);have h3':((n:Int)<((0:Nat):Int)+1+1+1)=True:=Za8 (by omega);have je:=hln n hn';have hme:=kw n hn';have xi:=fun i hi f=>aB5 (c:=c) (n:=n) (i:=i) hn' hi f
  rw[<-aB4 hn']at jb;have jv:=aB6 (c:=c) hn';have wi:=aB3 (c:=c) hn';generalize Dq c n=l at je hme xi jb jv wi;refine FU (cj h3 jv) ?_;refine lT [3,4,5,18,19,20,25,26] (fun i:Nat=>[(27,.i (iI i))]) (fun i=>[(11,.map [.g,.s,.i .i64] (vmE (FQ (BO c n++l.take i))))]) (fun i=>i<=l.length/\Em c.features.length (c.features.length+c.drafts.length) (BO c n++l.take i) (l.drop i++N6 c (n+1))=T) (fun i=>l.length-i) 0 ?_ ⟨by omega,by simpa using jb⟩;rintro i ⟨hi,wg⟩;by_cases ja:i<l.length
  ·have hm:=At ja;have hbf:=av hc (hme _ hm);have h0:=G2 (l.getD i default);have h4:D4 (l.getD i default).typ=Ag AY (l.getD i default).typ.unit+(l.getD i default).typ.of.length+1:=rfl;have qg:=E9 (l.getD i default).typ.unit;have q1:=QR (mx:=mx) (l.getD i default).typ (by omega);have q2:=TS (mx:=mx) (l.getD i default).body (by omega);rw[<-Rm]at q1;rw[cn,HD]at q2;rw[Dj ja,Zc3,UF,xi i ja,<-aB2]at wg;have hsn:BO c n++l.take (i+1)=(BO c n++l.take i)++[l.getD i default]:=by simp_all
   have hvs:FQ (BO c n++l.take (i+1))=AM (FQ (BO c n++l.take i)) ((l.getD i default).name,(l.getD i default).version) true:=by rw[hsn,aB0]
   have ho:=Gl.eq_1 (l.getD i default);simp only[G4]at ho;have kn:=aAx (FQ (BO c n++l.take i)) (l.getD i default).name (l.getD i default).version;have kd:=aAz (FQ (BO c n++l.take i));have hpt:=aAy (FQ (BO c n++l.take i)) (l.getD i default).name (l.getD i default).version;by_cases hA:(!Cz (l.getD i default).name||!Cz (l.getD i default).entity||decide ((l.getD i default).version<1)||decide (1099511627776<(l.getD i default).version))=true
   ·have hA2:(!(Cz (l.getD i default).name&&Cz (l.getD i default).entity)||decide ((l.getD i default).version<1)||decide (1099511627776<(l.getD i default).version))=true:=by rw[<-hA,Bool.not_and]
    rw[Zaa hA2]at ho;rw[ho,Zaa (by decide)]at wg;rw[<-wg];exact EV (cj @Fz (cj (BV ja) (cj @Ci hA))) trivial
   ·have hA2:¬(!(Cz (l.getD i default).name&&Cz (l.getD i default).entity)||decide ((l.getD i default).version<1)||decide (1099511627776<(l.getD i default).version))=true:=by rw[Bool.not_and];exact hA
    rw[Bool.not_eq_true]at hA;rw[Zac hA2]at ho;by_cases ht:EM (l.getD i default).typ=0
    ·rw[Zac (by omega)]at ho;rw[ht]at q1;rw[ho]at wg;by_cases hs:Fh (l.getD i default).body=0
     ·rw[hs]at q2;rw[Zac (by omega)]at wg;have kh:((i:Int)-1).toNat=i-1:=by omega
      have hcI:(decide ((0:Int)<(i:Int))&&(Op.bytesLess (l.getD i default).name (l.getD (i-1) default).name||(decide ((n:Int)<2)&&decide ((l.getD i default).name=(l.getD (i-1) default).name))))=(decide (0<i)&&(Op.bytesLess (l.getD i default).name (l.getD (i-1) default).name||(decide (n<2)&&decide ((l.getD i default).name=(l.getD (i-1) default).name)))):=by grind
      cases hbad:(decide (0<i)&&(Op.bytesLess (l.getD i default).name (l.getD (i-1) default).name||(decide (n<2)&&decide ((l.getD i default).name=(l.getD (i-1) default).name))))
      ·rw[hbad]at wg hcI;rw[Zac (by simp)]at wg;cases hV:inV (FQ (BO c n++l.take i)) ((l.getD i default).name,(l.getD i default).version)
       ·rw[hV,Zac (by simp),<-hsn]at wg;rw[hV]at kn;refine Kas (cj @Fz (cj q1 (cj q2 (cj (BV ja) (cj @Ci (cj hA (cj kh (cj hcI (cj kn (cj hpt (cj @Ay.eq_1 (cj @AH.eq_1 @Bc.eq_1)))))))))))) ?_
        all_goals intros
        all_goals exact⟨i+1,⟨by omega,wg⟩,by omega,rfl,by rw[hvs]⟩
       ·rw[hV,Zaa rfl]at wg;rw[hV]at kn;rw[<-wg];exact Kas (cj @Fz (cj q1 (cj q2 (cj (BV ja) (cj @Ci (cj hA (cj kh (cj hcI (cj kn (cj @Ay.eq_1 (cj @AH.eq_1 @Bc.eq_1))))))))))) trivial
      ·rw[hbad]at wg hcI;rw[Zaa rfl]at wg;rw[<-wg];exact Kas (cj @Fz (cj q1 (cj q2 (cj (BV ja) (cj @Ci (cj hA (cj kh hcI))))))) trivial
     ·rw[Zaa hs]at wg;rw[<-wg];exact AU (cj @Fz (cj q1 (cj q2 (cj (BV ja) (cj @Ci (cj hA hs)))))) trivial
    ·rw[Zaa ht]at ho;rw[ho,Zaa ht]at wg;rw[<-wg];exact AU (cj @Fz (cj q1 (cj (BV ja) (cj @Ci (cj hA ht))))) trivial
  ·have e:i=l.length:=by omega
   subst e;rw[Zgd,wi,Zdb,Zft]at wg;refine FU (Hi ja) ?_;exact⟨n+1,⟨by omega,wg⟩,by omega,rfl,by rw[Zgd,wi]⟩
 ·have h3:((n:Int)<3)=False:=Za9 (by omega);have h3':((n:Int)<((0:Nat):Int)+1+1+1)=False:=Za9 (by omega);have e:n=3:=by omega
  subst e;have hT0:T=0:=by rw[<-jb];simp only[N6];rw[show(if(3:Nat)=0 then B5 c else if(3:Nat)=1 then c.drafts++c.past else if(3:Nat)=2 then c.past else[])=[]from rfl,au]
  rw[hT0];exact eS trivial
end
section
theorem de{nf np:Nat}:∀{l seen:List Ftr},Em nf np seen l=0->∀f∈l,Gl f=0
 |g::r,seen,h,f,hf=>by
  rw[UF]at h;split at h
  ·rename_i q;exact absurd h q
  ·rename_i q;split at h
   ·simp at h
   ·split at h
    ·simp at h
    ·rcases Zfb.1 hf with e|e
     ·rw[e];exact Zch.1 q
     ·exact de h f e
theorem aB8{f:Ftr}(h:Gl f=0):1<=f.version:=by unfold Gl at h;grind
theorem aB9{c:Cat}(h:G8 c=0):∀f∈c.features++c.past,0<=f.version:=by
 unfold G8 at h;split at h
 ·simp at h
 ·split at h
  ·rename_i q;exact absurd h q
  ·split at h
   ·rename_i q;exact absurd h q
   ·rename_i q;intro f hf;have:=aB8 (de (Zch.1 q) f (by unfold B5;simp only[Ze9]at hf⊢;rcases hf with q|q<;>simp[q]));omega
theorem aBa(c:Cat)(hc:AR c<=1073741823):Is mx 79 [.agg (Ap c)] (iI (G8 c)):=
 c7 c hc (aB7 c hc) (fun f hf=>dc c f hc (by have:=B4 (b:=Bd) hf;have:=BR c;omega)) (fun h1 h2=>aAn c hc h1 h2)
def rP(c:Cat)(x:Chg):Cat×Int:=if x.kind=1 then IH c x.table else if x.kind=2 then PP c x.feature else if x.kind=3 then IK c x.name else if x.kind=4 then Hg c x.name else KJ c x.name
theorem aBb(c:Cat)(x:Chg):(rP c x).2=(CJ c x).2:=by
 unfold rP CJ
 repeat' split
 ·unfold IH G9;split<;>rfl
 ·unfold PP Jv;repeat' split
  all_goals rfl
 ·unfold IK;split
  ·unfold Gp;rw[Zaa (by assumption)]
  ·rfl
 ·unfold Hg;split
  ·unfold Fk;rw[Zaa (by assumption)]
  ·split
   ·unfold Fk;rw[Zac (by assumption),Zaa (by assumption)]
   ·rfl
 ·unfold KJ;split
  ·unfold ID;rw[Zaa (by assumption)]
  ·rfl
theorem aBc(c:Cat)(x:Chg):(rP c x).2=0->rP c x=CJ c x:=by
 unfold rP CJ
 repeat' split
 ·unfold IH G9;split
  all_goals grind
 ·unfold PP Jv;repeat' split
  all_goals first|(intro _;rfl)|(intro h;simp at h;done)|(intro h;exact absurd h (by assumption))
 ·grind[IK]
 ·grind[Hg]
 ·grind[KJ]
theorem df(c:Cat)(x:Chg)(hb:AR c+D5 x<=1073741)(hver:∀f∈c.features++c.past,0<=f.version):Is mx 42 [.agg (Ap c),.agg (AF x)] (KK (Cu c x)):=by
 have hch:=RD c x;have hcb:=BR c;have lt:=G3 c.tables;have lf:=C1 c.features;have ld:=C1 c.drafts;have lp:=C1 c.past;refine bM c x (rP c x) (fun h1 h5 hp=>?_) (aBb c x) (aBc c x) (fun _=>aBa _ (by omega));have hk:x.kind=1\/x.kind=2\/x.kind=3\/x.kind=4\/x.kind=5:=by omega
 unfold rP Vb;rcases hk with e|e|e|e|e<;>simp only[e,Int.reduceEq,Zad,Zag]
 ·exact bI c x (by omega)
 all_goals grind[aAw,aAp,aAr,aAo]
def N7(c:Cat):Prop:=∀f∈c.features++c.past,0<=f.version
theorem R9:N7 BD:=fun f hf=>by cases hf
theorem dh(c:Cat)(x:Chg):N7 (Cu c x).1:=by
 unfold Cu;split
 ·exact R9
 ·split
  ·exact R9
  ·rename_i q;have q:=Zch.1 q;unfold L0 at q;split at q
   ·exact aB9 q
   ·rename_i q2;exact absurd q q2
theorem aBd{l:List Ent}{i:Nat}{c:Cat}(h:N7 c):N7 (Dn l i c).1:=by
 unfold Dn
 repeat' split
 all_goals first|exact h|exact dh _ _
theorem Vw(l:List Ent):∀i,N7 (A6 l i).1
 |0=>R9
 |i+1=>by
  simp only[A6];split
  ·exact Vw l i
  ·exact aBd (Vw l i)
theorem Vx(l:List Ent)(tick:Int):∀i,N7 (Bs l tick i)
 |0=>R9
 |i+1=>by
  simp only[Bs]
  repeat' split
  ·exact Vx l tick i
  ·exact dh _ _
  ·exact Vx l tick i
theorem di{l:List Ent}{i:Nat}(hi:i<l.length):Ag AB (l.take i)+D5 (l.getD i default).change<=Ag AB l:=by have h1:=NF AB l (i+1);rw[BM hi,Hb]at h1;have h2:=El (l.getD i default);simp only[Ag]at h1;omega
theorem dj(l:List Ent)(hl:Ag AB l<=1073739):Is mx 11 [.sl (l.map Ae)] (iI (C8 l)):=
 bP l (by omega) fun i hi _ _=>df _ _ (by have:=RE l i (by omega);have:=di hi;omega) (Vw l i)
theorem Vy(l:List Ent)(tick:Int)(hl:Ag AB l<=1073739):Is mx 22 [.sl (l.map Ae),iI tick] (.agg (Ap (atR l tick))):=
 bS l tick (by have:=LM l;omega) fun i hi _ _=>df _ _ (by have:=PD l tick i (by omega);have:=di hi;omega) (Vx l tick i)
end
section
mutual
def szX:Xpr->Int->Int
 |.mk _ _ _ _ _ _ _ _ a,most=>szL a 1 most
def szL:List Xpr->Int->Int->Int
 |[],n,_=>n
 |x::r,n,most=>if n<=most then szL r (n+szX x (most-n)) most else n
end
theorem aBe(x:Xpr)(most:Int):szX x most=szL x.args 1 most:=by cases x;rfl
mutual
theorem Vz:∀(x:Xpr) (most:Int),1<=szX x most/\szX x most<=Bj x
 |.mk _ _ _ _ _ _ _ _ a,most=>by have h:=szL_b a 1 most;grind[szX,Bj]
theorem szL_b:∀(l:List Xpr) (n most:Int),n<=szL l n most/\szL l n most<=n+sizeXs l
 |[],n,most=>by simp[szL,sizeXs]
 |x::r,n,most=>by have h1:=Vz x (most-n);have h2:=szL_b r (n+szX x (most-n)) most;grind[szL,sizeXs]
end
theorem aBf{l:List Xpr}{n most:Int}(h:¬n<=most):szL l n most=n:=by
 cases l with
 |nil=>rfl
 |cons x r=>rw[szL,Zac h]
theorem aBg:∀(m:Nat) (x:Xpr) (most:Int),Bj x<=m->m<=1000000000->0<=most->most<=2000->Is mx 37 [.agg (eE x),iI most] (iI (szX x most)):=by
 intro m
 induction m with
 |zero=>intro x most h;have:=E8 x;omega
 |succ m ih=>
  intro x most hm hM h0 h1;have j0:=D3 x;have hla:x.args.length<=1000000000:=by
   have:=Il (b:=Bj) (fun y=>E8 y) x.args;have h2:∀l:List Xpr,Ag Bj l=sizeXs l:=fun l=>by
    induction l with
    |nil=>rfl
    |cons a r ih=>simp[Ag,sizeXs,ih]
   grind
  rw[aBe];refine MX F37 ?_;refine Od ?_;refine lT [1,2] (fun g:Int×Nat=>[(5,.i (iI g.1)),(6,.i (iI g.2))]) (fun _=>[]) (fun g=>g.2<=x.args.length/\1<=g.1/\g.1<=1+sizeXs (x.args.take g.2)/\szL (x.args.drop g.2) g.1 most=szL x.args 1 most) (fun g=>x.args.length-g.2) (1,0) ?_ ⟨by omega,by omega,by simp[sizeXs],rfl⟩;rintro⟨n,i⟩ ⟨hi,hn1,hn2,jb⟩;simp only at hi hn1 hn2 jb;by_cases ja:i<x.args.length
  ·have wz:=GW x.args i ja;have ht2:=E7 x.args (i+1);by_cases hn:n<=most
   ·have a1:=ih (x.args.getD i default) (most-n) (by rw[AK ja];omega) (by omega) (by omega) (by omega);have hb:=Vz (x.args.getD i default) (most-n);have hgd:=AK ja;rw[<-hgd]at wz;have hnx:szL (x.args.drop (i+1)) (n+szX (x.args.getD i default) (most-n)) most=szL x.args 1 most:=by grind[Dj,szL]
    clear hgd;rw[HD]at a1;refine EV (cj a1 (cj (BV ja) (cj @HD hn))) ?_;exact⟨(n+szX (x.args.getD i default) (most-n),i+1),⟨by simp only;omega,by simp only;omega,by simp only;rw[wz];omega,hnx⟩,by simp only;omega,rfl,rfl⟩
   ·rw[aBf hn]at jb;rw[<-jb];exact FU (cj (BV ja) hn) trivial
  ·rw[Zda (by omega)]at jb;rw[<-jb,szL];exact FU (Hi ja) trivial
def HZ:List Ent->Int->Int
 |[],n=>n
 |x::r,n=>if n<=2000 then HZ r (n+szX x.change.feature.body (2000-n))else n
def FS(l:List Ent):Bool:= !decide (60<l.length)&&decide (HZ l 0<=2000)
theorem aBh{l:List Ent}{n:Int}(h:¬n<=2000):HZ l n=n:=by
 cases l with
 |nil=>rfl
 |cons x r=>rw[HZ,Zac h]
theorem dn(l:List Ent)(hl:Ag AB l<=1073740):Is mx 10 [.sl (l.map Ae)] (.bool (FS l)):=by
 have je:=LM l;refine MX F10 ?_;by_cases h6:60<l.length
 ·have hR:FS l=false:=by unfold FS;simp[h6]
  have h6T:((60:Int)<(l.length:Int))=True:=Za8 (by omega);rw[hR];exact FU h6T trivial
 ·have hR:FS l=decide (HZ l 0<=2000):=by unfold FS;rw[Zba h6];rfl
  have h6F:((60:Int)<(l.length:Int))=False:=Za9 (by omega);rw[hR];refine FU h6F ?_;refine lT [0] (fun g:Int×Nat=>[(3,.i (iI g.1)),(4,.i (iI g.2))]) (fun _=>[]) (fun g=>g.2<=l.length/\0<=g.1/\g.1<=Ag AB (l.take g.2)/\HZ (l.drop g.2) g.1=HZ l 0) (fun g=>l.length-g.2) (0,0) ?_;rintro⟨n,i⟩ ⟨hi,hn1,hn2,jb⟩;simp only at hi hn1 hn2 jb;by_cases ja:i<l.length
  ·have hts:Ag AB (l.take (i+1))=Ag AB (l.take i)+AB (l.getD i default):=by rw[BM ja,Hb];simp[Ag]
   have qy:=NF AB l (i+1);have e1:=El (l.getD i default);have e2:=Gd (l.getD i default).change;have e3:=G2 (l.getD i default).change.feature;by_cases hn:n<=2000
   ·have hb:=Vz (l.getD i default).change.feature.body (2000-n);have hsx:=M7 (l.getD i default).change.feature.body;have a1:=aBg (mx:=mx) (Bj (l.getD i default).change.feature.body) (l.getD i default).change.feature.body (2000-n) (Zgu _) (by omega) (by omega) (by omega);have hnx:HZ (l.drop (i+1)) (n+szX (l.getD i default).change.feature.body (2000-n))=HZ l 0:=by grind[Dj,HZ]
    rw[HD]at a1;refine EV (cj a1 (cj (BV ja) (cj @AN hn))) ?_;exact⟨(n+szX (l.getD i default).change.feature.body (2000-n),i+1),⟨by simp only;omega,by simp only;omega,by simp only;rw[hts];omega,hnx⟩,by simp only;omega,rfl,rfl⟩
   ·rw[aBh hn]at jb;rw[<-jb];exact FU (cj (BV ja) hn) trivial
  ·rw[Zda (by omega)]at jb;rw[<-jb,HZ];exact FU (Hi ja) trivial
theorem Sa(l:List Ent)(hl:Ag AB l<=1073740):Is mx 14 [.sl (l.map Ae)] (.bool (FS l&&decide (C8 l=0))):=by have f1:=dn (mx:=mx) l hl;have c1:=UN (mx:=mx) l hl;refine MX F14 ?_;exact EV (cj f1 c1) trivial
theorem Sb(n:Int):Is mx 44 [iI n] (.agg (Am ⟨[115],n⟩)):=by refine MX F44 ?_;exact eS trivial
theorem VA(n:Int):Is mx 46 [iI n] (.sl (([⟨2,n,[]⟩]:List Val).map Bi)):=by refine MX F46 ?_;exact eS trivial
theorem Sc(no tick:Int)(f:Fct):Is mx 45 [iI no,iI tick,.agg (BJ f)] (.agg (Ae ⟨no,tick,1,f,Jy,Fl⟩)):=by
 refine MX F45 ?_
 (repeat' first|simp(disch:=omega)only[go_sem,simprocAttr,QP,AN]|refine Sz.s ?_|fail)
 all_goals(try rfl)
theorem PQ(no tick:Int)(x:Ers):Is mx 47 [iI no,iI tick,.agg (Cy x)] (.agg (Ae ⟨no,tick,2,HU,x,Fl⟩)):=by
 refine MX F47 ?_
 (repeat' first|simp(disch:=omega)only[go_sem,simprocAttr,AN]|refine Sz.s ?_|fail)
 all_goals(try rfl)
end
section
def N8:AQ:=[99,108,105,99,107,115]
def dp:AQ:=[117,115,101,114]
def exT:Tbl:=⟨N8,dp,[⟨[110],⟨2,[],[]⟩⟩],100⟩
def Bz(n:Int):Fid:=⟨[115],n⟩
def exV(n:Int):List Val:=[⟨2,n,[]⟩]
def e1:Ent:=⟨1,0,3,HU,Jy,⟨1,exT,Cs,[]⟩⟩
def e2:Ent:=⟨2,12,1,⟨Bz 2,2,1,N8,[117],10,exV 7⟩,Jy,Fl⟩
def e3:Ent:=⟨3,15,1,⟨Bz 1,1,0,N8,[117],10,exV 5⟩,Jy,Fl⟩
def e4:Ent:=⟨4,20,1,⟨Bz 3,3,1,[],[],0,[]⟩,Jy,Fl⟩
def e5:Ent:=⟨5,30,1,⟨Bz 4,1,0,N8,[117],25,exV 9⟩,Jy,Fl⟩
def PX:List Ent:=[e1,e2,e3,e4,e5]
def Sd:Rw:=⟨Bz 1,N8,[117],10,exV 7,2,12⟩
def JF:Rw:=⟨Bz 4,N8,[117],25,exV 9,5,30⟩
def fb:Ers:=⟨2,[],[],Bz 1⟩
def exY:Ers:=⟨1,dp,[117],NG⟩
def DE(no tick:Int)(x:Ers):Ent:=⟨no,tick,2,HU,x,Fl⟩
def exM:List Ent:=PX++[DE 6 40 fb]
def exN:List Ent:=PX++[DE 6 40 exY]
def exP:List Ent:=[e1,DE 2 12 fb,DE 3 15 fb,DE 4 20 fb,e5,DE 6 40 fb]
theorem aBi:Ag AB PX<=1000:=by decide
theorem aBj:C8 PX=0:=by kernel_rfl
theorem dq:Gv []=[]:=List.mergeSort_nil
theorem Se(r:Rw):Gv [r]=[r]:=Zfs r
theorem aBk:rowsB (Mj PX PX.length).ids (Do PX 12)=[]:=by kernel_rfl
theorem aBl:rowsB (Mj PX PX.length).ids (Do PX 15)=[Sd]:=by kernel_rfl
theorem aBm:rowsB (Mj PX PX.length).ids (Do PX 20)=[]:=by kernel_rfl
theorem aBn:rowsB (Mj PX PX.length).ids (Do PX 30)=[JF]:=by kernel_rfl
theorem aBo:rowsB (Mj PX PX.length).ids (Do PX 125)=[JF]:=by kernel_rfl
theorem aBp:rowsB (Mj PX PX.length).ids (Do PX 126)=[JF]:=by kernel_rfl
theorem aBq:BU PX 12=[]:=by simp[BU,aBk,dq]
theorem aBr:BU PX 15=[Sd]:=by simp[BU,aBl,Se]
theorem aBs:BU PX 20=[]:=by simp[BU,aBm,dq]
theorem aBt:BU PX 30=[JF]:=by simp[BU,aBn,Se]
theorem aBu:BU PX 125=[JF]:=by simp[BU,aBo,Se]
theorem aBv:BU PX 126=[JF]:=by simp[BU,aBp,Se]
theorem aBw:C9 (atR PX 125) (BU PX 125) 125=[JF]:=by rw[aBu];kernel_rfl
theorem aBx:C9 (atR PX 126) (BU PX 126) 126=[]:=by rw[aBv];kernel_rfl
theorem aBy:(Mj exM exM.length).ids.map (·.1)=[Bz 1]:=by kernel_rfl
theorem aBz:(Mj exN exN.length).ids.map (·.1)=[Bz 1,Bz 4]:=by kernel_rfl
theorem aC0:exM.map (FO (Mj exM exM.length).ids)=exP:=by kernel_rfl
end
section
theorem dt:Is mx 42 [.agg (Ap BD),.agg (AF e1.change)] (KK (Cu BD e1.change)):=aAm [] e1.change rfl (by decide)
theorem aC1:Is mx 11 [.sl (PX.map Ae)] (iI 0):=by
 have h:=bP (mx:=mx) PX (by have:=aBi;omega) (fun i hi _ hk=>by
  have hi:i<5:=hi;have:i=0\/i=1\/i=2\/i=3\/i=4:=by omega
  rcases this with rfl|rfl|rfl|rfl|rfl
  ·exact dt
  all_goals exact absurd hk (by decide))
 grind[aBj]
theorem aC2(tick:Int)(ht:0<=tick):Is mx 22 [.sl (PX.map Ae),iI tick] (.agg (Ap (atR PX tick))):=bS PX tick (by decide) (fun i hi hk _=>by
  have hi:i<5:=hi;have:i=0\/i=1\/i=2\/i=3\/i=4:=by omega
  rcases this with rfl|rfl|rfl|rfl|rfl
  ·exact dt
  all_goals exact absurd hk (by decide))
theorem du(tick:Int)(ht:0<=tick)(hb:(atR PX tick).tables.length<=1073741824):Is mx 33 [.sl (PX.map Ae),iI tick] (.sl ((C9 (atR PX tick) (BU PX tick) tick).map JI)):=U8 PX tick (atR PX tick) (by decide) hb (aC2 tick ht)
theorem dw(r:Rw)(h:eqL (DN true) [r] [r]=true)(hb:r.fields.length<=1073741824):Is mx 18 [.sl ([r].map JI),.sl ([r].map JI),.bool true] (.bool true):=by grind[Rl]
theorem aC3:Es [Bz 1,Bz 4]=[Bz 1,Bz 4]:=(UX (List.Perm.refl _) (by simp[Ct,Bz];decide)).symm
theorem aC4:Es [Bz 1]=[Bz 1]:=Zfs _
theorem aC5:Is mx 21 [.sl (exM.map Ae)] (.sl ([Bz 1].map Am)):=by have h:=RO (mx:=mx) exM (by decide);grind[aBy,aC4]
theorem aC6:Is mx 21 [.sl (exN.map Ae)] (.sl ([Bz 1,Bz 4].map Am)):=by have h:=RO (mx:=mx) exN (by decide);grind[aBz,aC3]
theorem aC7:Is mx 16 [.sl (exM.map Ae)] (.sl (exP.map Ae)):=by have h:=xN (mx:=mx) exM (by decide);grind[aC0]
theorem aC8:Is mx 20 [.sl ([Bz 1].map Am),.sl ([Bz 1].map Am)] (.bool true):=by have h:=T8 (mx:=mx) [Bz 1] [Bz 1] (by simp) (by simp);grind[eqL,Jo,Bz]
theorem aC9:Is mx 20 [.sl ([Bz 1,Bz 4].map Am),.sl ([Bz 1,Bz 4].map Am)] (.bool true):=by have h:=T8 (mx:=mx) [Bz 1,Bz 4] [Bz 1,Bz 4] (by simp) (by simp);grind[eqL,Jo,Bz]
theorem aCa:Is mx 15 [.sl (exP.map Ae),.sl (exP.map Ae)] (.bool true):=by have h:=ub (mx:=mx) exP exP (by decide) (by decide) (fun x hx=>by have:=B4 (b:=AB) hx;have h2:Ag AB exP<=1000:=(by decide);omega) (fun x hx=>by have:=B4 (b:=AB) hx;have h2:Ag AB exP<=1000:=(by decide);omega);rw[show eqL Po exP exP=true by kernel_rfl]at h;exact h
theorem aCb:([I.int .i64 1,I.int .i64 0,I.int .i64 3,I.str [],I.int .i64 0,I.int .i64 0,I.int .i64 0,I.str [],I.str [],I.int .i64 0,I.sl [],I.int .i64 0,I.str [],I.str [],I.str [],I.int .i64 0,I.int .i64 1,I.str [99,108,105,99,107,115],I.str [117,115,101,114],I.sl [[I.str [110],I.int .i64 2,I.sl [],I.str []]],I.int .i64 100,I.str [],I.str [],I.int .i64 0,I.sl [],I.str [],I.int .i64 0,I.str [],I.str [],I.str [],I.int .i64 0,I.int .i64 0,I.str [],I.sl [],I.int .i64 0,I.int .i64 0,I.int .i64 0,I.sl [],I.int .i64 0,I.str []]:List I)=Ae e1:=rfl
theorem aCc:([I.str [115],I.int .i64 1,I.str [99,108,105,99,107,115],I.str [117],I.int .i64 10,I.sl [[I.int .i64 2,I.int .i64 7,I.str []]],I.int .i64 2,I.int .i64 12]:List I)=JI Sd:=rfl
theorem aCd:([I.str [115],I.int .i64 4,I.str [99,108,105,99,107,115],I.str [117],I.int .i64 25,I.sl [[I.int .i64 2,I.int .i64 9,I.str []]],I.int .i64 5,I.int .i64 30]:List I)=JI JF:=rfl
abbrev aCe:I:=.sl [Ae e1,Ae e2,Ae e3,Ae e4,Ae e5]
theorem Gy(x:Ent):(∀r∈[Ae x],r.length=40)=True/\(∀r∈[Ae x],r.all I.one=true)=True:=HT KC L3 x
theorem dx:(∀r∈[Ae e1,Ae e2,Ae e3,Ae e4,Ae e5],r.length=40)=True/\(∀r∈[Ae e1,Ae e2,Ae e3,Ae e4,Ae e5],r.all I.one=true)=True:=by have h:=A1 PX KC L3;exact⟨Za8 h.1,Za8 h.2⟩
theorem PR:Is mx 13 [] (.bool true):=by
 have i1:=Sb (mx:=mx) 1;have i2:=Sb (mx:=mx) 2;have i3:=Sb (mx:=mx) 3;have i4:=Sb (mx:=mx) 4;have n5:=VA (mx:=mx) 5;have n7:=VA (mx:=mx) 7;have n9:=VA (mx:=mx) 9;have f2:Is mx 45 [iI 2,iI 12,.agg [.str [115],.int .i64 2,.int .i64 2,.int .i64 1,.str [99,108,105,99,107,115],.str [117],.int .i64 10,.sl [[.int .i64 2,.int .i64 7,.str []]]]] (.agg (Ae e2)):=Sc 2 12 e2.fact;have f3:Is mx 45 [iI 3,iI 15,.agg [.str [115],.int .i64 1,.int .i64 1,.int .i64 0,.str [99,108,105,99,107,115],.str [117],.int .i64 10,.sl [[.int .i64 2,.int .i64 5,.str []]]]] (.agg (Ae e3)):=Sc 3 15 e3.fact;have f4:Is mx 45 [iI 4,iI 20,.agg [.str [115],.int .i64 3,.int .i64 3,.int .i64 1,.str [],.str [],.int .i64 0,.sl []]] (.agg (Ae e4)):=Sc 4 20 e4.fact;have f5:Is mx 45 [iI 5,iI 30,.agg [.str [115],.int .i64 4,.int .i64 1,.int .i64 0,.str [99,108,105,99,107,115],.str [117],.int .i64 25,.sl [[.int .i64 2,.int .i64 9,.str []]]]] (.agg (Ae e5)):=Sc 5 30 e5.fact;have x6:Is mx 47 [iI 6,iI 40,.agg [.int .i64 2,.str [],.str [],.str [115],.int .i64 1]] (.agg (Ae (DE 6 40 fb))):=PQ 6 40 fb;have y6:Is mx 47 [iI 6,iI 40,.agg [.int .i64 1,.str [117,115,101,114],.str [117],.str [],.int .i64 0]] (.agg (Ae (DE 6 40 exY))):=PQ 6 40 exY;have x2:Is mx 47 [iI 2,iI 12,.agg [.int .i64 2,.str [],.str [],.str [115],.int .i64 1]] (.agg (Ae (DE 2 12 fb))):=PQ 2 12 fb;have x3:Is mx 47 [iI 3,iI 15,.agg [.int .i64 2,.str [],.str [],.str [115],.int .i64 1]] (.agg (Ae (DE 3 15 fb))):=PQ 3 15 fb;have x4:Is mx 47 [iI 4,iI 20,.agg [.int .i64 2,.str [],.str [],.str [115],.int .i64 1]] (.agg (Ae (DE 4 20 fb))):=PQ 4 20 fb;have ck:Is mx 11 [aCe] (iI 0):=aC1;have hb:PX.length<=30000:=by decide
 have g12:=HY (mx:=mx) PX 12 hb;have g15:=HY (mx:=mx) PX 15 hb;have g20:=HY (mx:=mx) PX 20 hb;have g30:=HY (mx:=mx) PX 30 hb;have v125:=du (mx:=mx) 125 (by decide) (by decide);have v126:=du (mx:=mx) 126 (by decide) (by decide);rw[aBq]at g12;rw[aBr]at g15;rw[aBs]at g20;rw[aBt]at g30;rw[aBw]at v125;rw[aBx]at v126;have s1:=dw (mx:=mx) Sd (by kernel_rfl) (by decide);have s2:=dw (mx:=mx) JF (by kernel_rfl) (by decide);have eT:=aC5 (mx:=mx);have er2:=aC6 (mx:=mx);have pu:=aC7 (mx:=mx);have sp:=aCa (mx:=mx);have si1:=aC8 (mx:=mx);have si2:=aC9 (mx:=mx);simp only[PX,exM,exN,exP,Ze1,Ze5,Zc3,Zft]at g12 g15 g20 g30 v125 v126 s1 s2 eT er2 pu sp;simp only[Bz,Ze1,Ze5,Am]at eT er2 si1 si2;have j1:(DE 6 40 fb).erasure.kind=2:=rfl;have j2:(DE 6 40 fb).erasure.entity=[]:=rfl;have j3:(DE 6 40 fb).erasure.key=[]:=rfl;have j4:(DE 6 40 fb).erasure.id.source=[115]:=rfl;have j5:(DE 6 40 fb).erasure.id.seq=1:=rfl;refine MX F13 ?_
 (repeat' first|simp(disch:=omega)only[go_sem,simprocAttr,(Gy e2).1,(Gy e2).2,(Gy e3).1,(Gy e3).2,(Gy e4).1,(Gy e4).2,(Gy e5).1,(Gy e5).2,dx.1,dx.2,aCb,aCc,aCd,Zaj,Za3,Za2,Za1,Zcc,Zcm,j1,j2,j3,j4,j5,(Gy (DE 6 40 fb)).1,(Gy (DE 6 40 fb)).2,(Gy (DE 6 40 exY)).1,(Gy (DE 6 40 exY)).2]|refine Sx.s ?_ ?_<;>try(intro h;have h':=h;try simp only[HB]at h';try rewrite [h];try simp only[h])|refine Ab (i1) ?_|refine Ab (i2) ?_|refine Ab (i3) ?_|refine Ab (i4) ?_|refine Ab (n5) ?_|refine Ab (n7) ?_|refine Ab (n9) ?_|refine Ab (f2) ?_|refine Ab (f3) ?_|refine Ab (f4) ?_|refine Ab (f5) ?_|refine Ab (ck) ?_|refine Ab (g12) ?_|refine Ab (g15) ?_|refine Ab (g20) ?_|refine Ab (g30) ?_|refine Ab (v125) ?_|refine Ab (v126) ?_|refine Ab (s1) ?_|refine Ab (s2) ?_|refine Ab (eT) ?_|refine Ab (er2) ?_|refine Ab (pu) ?_|refine Ab (sp) ?_|refine Ab (si1) ?_|refine Ab (si2) ?_|refine Ab (x6) ?_|refine Ab (y6) ?_|refine Ab (x2) ?_|refine Ab (x3) ?_|refine Ab (x4) ?_|refine Ac ?_|refine If ?_ ?_|refine Au ?_|refine Sz.s ?_|fail)
end
section
theorem aCf(l:List Ent)(hb:Ag AB l<=1048576):Is mx 3 [.sl (l.map Ae)] (.bool true):=by
 have f1:=dn (mx:=mx) l (by omega);have ex:=PR (mx:=mx);have c1:=dj (mx:=mx) l (by omega);have c2:=UN (mx:=mx) l (by omega);generalize C8 l=e at c1 c2;cases hf:FS l
 ·rw[hf]at f1;refine MX F3 ?_;exact EV f1 trivial
 ·rw[hf]at f1;refine MX F3 ?_;exact EV (cj f1 (cj c1 (cj c2 ex))) trivial
end
section
def Bb(l:List Ent)(i:Nat):Cat:=(A6 l i).1
structure Valid(l:List Ent):Prop where
 err:∀i,i<=l.length->(A6 l i).2=0
theorem PS{l:List Ent}(h:C8 l=0):Valid l:=⟨fun i hi=>by
 unfold C8 at h;split at h
 ·cases h
 ·rename_i jg;by_cases e:(A6 l i).2=0
  ·exact e
  ·rw[UM e l.length hi]at h;exact absurd h e⟩
theorem Valid.len{l:List Ent}(h:C8 l=0):l.length<=4096:=by grind[C8]
theorem Valid.step{l:List Ent}(h:Valid l){i:Nat}(hi:i<l.length):Dn l i (Bb l i)=(Bb l (i+1),0):=by have h1:=h.err (i+1) hi;grind[Bb,A6,Dn]
theorem Valid.order{l:List Ent}(h:Valid l){i:Nat}(hi:i<l.length):(Gr (l.getD i default)||Gs l i (l.getD i default))=false:=by have:=h.step hi;grind[Dn]
theorem Valid.form{l:List Ent}(h:Valid l){i:Nat}(hi:i<l.length):FM (l.getD i default)=true:=by have:=h.step hi;grind[Dn]
theorem Valid.tick{l:List Ent}(h:Valid l){i:Nat}(hi:i<l.length):0<=(l.getD i default).tick/\(l.getD i default).tick<=1099511627776:=by have:=h.order hi;grind[Gr]
theorem Valid.kinds{l:List Ent}(h:Valid l){i:Nat}(hi:i<l.length):(l.getD i default).kind=1\/(l.getD i default).kind=2\/(l.getD i default).kind=3:=by have:=h.form hi;grind[FM]
theorem Valid.fact{l:List Ent}(h:Valid l){i:Nat}(hi:i<l.length)(hk:(l.getD i default).kind=1):Bb l (i+1)=Bb l i/\Gm (Bb l i) (l.getD i default).fact=0:=by have:=h.step hi;grind[Dn]
theorem Valid.twice{l:List Ent}(h:Valid l){i:Nat}(hi:i<l.length)(hk:(l.getD i default).kind=1):FN l i=false:=by have h2:=(h.fact hi hk).2;have:=h.step hi;grind[Dn,FN]
theorem Valid.erase{l:List Ent}(h:Valid l){i:Nat}(hi:i<l.length)(hk:(l.getD i default).kind=2):Bb l (i+1)=Bb l i:=by have:=h.step hi;grind[Dn]
theorem Valid.change{l:List Ent}(h:Valid l){i:Nat}(hi:i<l.length)(hk:(l.getD i default).kind=3):Cu (Bb l i) (l.getD i default).change=(Bb l (i+1),0):=by have:=h.step hi;grind[Dn]
theorem dy{l:List Tbl}{t:Tbl}(h:AV l t.name=none)(n:AQ):AV (En l t) n=if n=t.name then some t else AV l n:=by
 have hm:∀x∈l,¬x.name=t.name:=fun x hx=>by have:=Zdl.1 h x hx;simpa using this
 have e:l=l.take (ER l t.name)++l.drop (ER l t.name):=(Zga _ _).symm;have e2:AV l n=((l.take (ER l t.name)).find? fun x=>decide (x.name=n)).or ((l.drop (ER l t.name)).find? fun x=>decide (x.name=n)):=by
  conv=>lhs;rw[e]
  exact List.find?_append
 have e3:AV (En l t) n=(((l.take (ER l t.name)).find? fun x=>decide (x.name=n)).or ([t].find? fun x=>decide (x.name=n))).or ((l.drop (ER l t.name)).find? fun x=>decide (x.name=n)):=by grind[En,Bg,AV]
 grind
theorem aCm{c c':Cat}{x:Chg}(h:Cu c x=(c',0)):(x.kind=1/\AV c.tables x.table.name=none/\c'.tables=En c.tables x.table)\/(x.kind≠1/\c'.tables=c.tables):=by
 unfold Cu at h;split at h
 ·cases h
 ·split at h
  ·grind
  ·rename_i jg;rw[Zhr]at h;have hE:L0 c x=0:=by omega
   have hc:(CJ c x).2=0:=by grind[L0]
   rw[<-h.1];unfold CJ at hc⊢;split at hc
   ·rename_i h1;rw[Zaa h1];left;unfold G9 at hc⊢;split at hc
    all_goals simp_all
   ·rename_i h1;rw[Zac h1];right;refine⟨h1,?_⟩;split at hc
    ·grind[Jv]
    ·rename_i h2;rw[Zac h2];split at hc
     ·rename_i h3;rw[Zaa h3];unfold Gp at hc⊢
      repeat' split
      ·grind
      ·rfl
      ·rfl
     ·rename_i h3;rw[Zac h3];split at hc
      ·rename_i h4;rw[Zaa h4];unfold Fk at hc⊢
       repeat' split
       ·grind
       ·grind
       ·rfl
      ·grind[ID]
theorem Valid.tabs{l:List Ent}(h:Valid l){i:Nat}(hi:i<l.length):
  ((l.getD i default).kind=3/\(l.getD i default).change.kind=1/\AV (Bb l i).tables (l.getD i default).change.table.name=none/\(Bb l (i+1)).tables=En (Bb l i).tables (l.getD i default).change.table)
  \/(¬((l.getD i default).kind=3/\(l.getD i default).change.kind=1)/\(Bb l (i+1)).tables=(Bb l i).tables):=by
 rcases h.kinds hi with hk|hk|hk
 ·exact .inr ⟨fun e=>absurd (hk.symm.trans e.1) (by decide),by rw[(h.fact hi hk).1]⟩
 ·exact .inr ⟨fun e=>absurd (hk.symm.trans e.1) (by decide),by rw[h.erase hi hk]⟩
 ·rcases aCm (h.change hi hk)with⟨h1,h2,h3⟩|⟨h1,h2⟩
  ·exact .inl ⟨hk,h1,h2,h3⟩
  ·exact .inr ⟨fun e=>h1 e.2,h2⟩
theorem Valid.mono{l:List Ent}(h:Valid l){i:Nat}(hi:i<l.length){n:AQ}{t:Tbl}(ht:AV (Bb l i).tables n=some t):AV (Bb l (i+1)).tables n=some t:=by
 rcases h.tabs hi with⟨_,_,h1,h2⟩|⟨_,h2⟩
 all_goals grind[dy]
theorem Valid.at{l:List Ent}(h:Valid l){i:Nat}(hi:i<=l.length):∀j,j<=i->Bs (l.take i) 1099511627776 j=Bb l j
 |0,_=>rfl
 |j+1,hj=>by
  have ih:=h.at hi j (by omega);have jp:j<l.length:=by omega
  have e:(l.take i).getD j default=l.getD j default:=UG (by omega) hi;unfold Bs;rw[e,ih];have ht:=h.tick jp;rcases h.kinds jp with hk|hk|hk
  ·rw[Zaa (.inl (by rw[hk];decide)),(h.fact jp hk).1]
  ·rw[Zaa (.inl (by rw[hk];decide)),h.erase jp hk]
  ·rw[Zac (by rw[hk];omega),h.change jp hk];simp
theorem Valid.atR{l:List Ent}(h:Valid l){i:Nat}(hi:i<=l.length):atR (l.take i) 1099511627776=Bb l i:=by
 have e:(l.take i).length=i:=by simp;omega
 unfold Proofs.YtojgbkiejjingaaGreatDoor.atR;rw[e];exact h.at hi i (Zgu _)
theorem Valid.table{l:List Ent}(h:Valid l){i:Nat}(hi:i<l.length)(hk:(l.getD i default).kind=1)(h3:(l.getD i default).fact.kind≠3):∃t,AV (Bb l i).tables (l.getD i default).fact.table=some t:=by have:=(h.fact hi hk).2;grind[Gm]
theorem dz{l:List Ent}(h:Valid l):∀i,i<=l.length->∀n,Al (Mj l i).kinds n=(AV (Bb l i).tables n).map Tbl.entity
 |0,_,n=>rfl
 |i+1,hi,n=>by
  have ih:=dz h i (by omega) n;have ja:i<l.length:=hi;rw[KE ja];unfold eT;rcases h.tabs ja with⟨h1,h2,h3,h4⟩|⟨h1,h4⟩
  ·grind[dy,QN]
  ·rw[Zac h1,h4,<-ih]
   repeat' split
   all_goals rfl
theorem dA(w:Mk)(x:Fid)(v:Mk):∀A:List (Mk×List Fid),(Al (Hd A w x) v).getD []=if v=w then(Al A v).getD []++[x]else(Al A v).getD []
 |[]=>by simp only[Hd,Al];grind
 |p::r=>by
  have ih:=dA w x v r;simp only[Hd];by_cases e:p.1=w
  ·rw[Zaa e];simp only[Al];grind
  ·rw[Zac e];simp only[Al];grind
theorem dC{l:List Ent}(h:Valid l):∀i,i<=l.length->∀(w:Mk) (y:Fid),y∈(Al (Mj l i).about w).getD []↔
   ∃e∈l.take i,e.kind=1/\e.fact.kind≠3/\e.fact.key=w.2/\(∃t,AV (Bb l i).tables e.fact.table=some t/\t.entity=w.1)/\y=AO e.fact
 |0,_,w,y=>by simp[Mj,Al]
 |i+1,hi,w,y=>by
  have ja:i<l.length:=hi;have ih:=dC h i (by omega) w y;have hpast:(∃e∈l.take i,e.kind=1/\e.fact.kind≠3/\e.fact.key=w.2/\(∃t,AV (Bb l (i+1)).tables e.fact.table=some t/\t.entity=w.1)/\y=AO e.fact)↔y∈(Al (Mj l i).about w).getD []:=by
   rw[ih];refine⟨fun⟨e,he,a1,a2,a3,⟨t,a4,a5⟩,a6⟩=>⟨e,he,a1,a2,a3,?_,a6⟩,fun⟨e,he,a1,a2,a3,⟨t,a4,a5⟩,a6⟩=>⟨e,he,a1,a2,a3,⟨t,h.mono ja a4,a5⟩,a6⟩⟩;obtain⟨j,hj,rfl⟩:=Zfg.1 he;have hji:j<i:=by simp at hj;omega
   have qx:j<l.length:=by omega
   have ej:(l.take i)[j]=l.getD j default:=by rw[AK qx];simp
   rw[ej]at a1 a2 a4⊢;obtain⟨t',ht'⟩:=h.table qx a1 a2;have up:∀k,j<=k->k<=i->AV (Bb l k).tables (l.getD j default).fact.table=some t':=fun k hk hki=>by
    induction k with
    |zero=>
     have:j=0:=by omega
     subst this;exact ht'
    |succ k ihk=>
     by_cases e:j=k+1
     ·subst e;exact ht'
     ·exact h.mono (by omega) (ihk (by omega) (by omega))
   have hti:=up i (by omega) (Zgu _);have:=h.mono ja hti;rw[this]at a4;have e:t'=t:=Zho a4;exact⟨t',hti,by rw[e];exact a5⟩
  rw[KE ja,BM ja];have hsplit:(∃e∈l.take i++[l.getD i default],e.kind=1/\e.fact.kind≠3/\e.fact.key=w.2/\(∃t,AV (Bb l (i+1)).tables e.fact.table=some t/\t.entity=w.1)/\y=AO e.fact)↔
    y∈(Al (Mj l i).about w).getD []\/((l.getD i default).kind=1/\(l.getD i default).fact.kind≠3/\(l.getD i default).fact.key=w.2/\(∃t,AV (Bb l (i+1)).tables (l.getD i default).fact.table=some t/\t.entity=w.1)/\y=AO (l.getD i default).fact):=by
   rw[<-hpast];constructor
   ·rintro⟨e,he,q⟩;rcases Ze9.1 he with he|he
    ·exact .inl ⟨e,he,q⟩
    ·rw[Zfq.1 he]at q;exact .inr q
   ·rintro(⟨e,he,q⟩|q)
    ·exact⟨e,Ze9.2 (.inl he),q⟩
    ·exact⟨_,Ze9.2 (.inr (Zfq.2 rfl)),q⟩
  rw[hsplit];unfold eT;by_cases hc:(l.getD i default).kind=3/\(l.getD i default).change.kind=1
  ·rw[Zaa hc];refine⟨.inl,fun q=>q.elim id fun q=>?_⟩;rw[hc.1]at q;cases q.1
  ·rw[Zac hc];by_cases hf:(l.getD i default).kind=1/\(l.getD i default).fact.kind≠3
   ·rw[Zaa hf];simp only[dA];obtain⟨t,ht⟩:=h.table ja hf.1 hf.2;have hk:=dz h i (by omega) (l.getD i default).fact.table;rw[ht]at hk;have ht2:=h.mono ja ht;have hw:RM (Mj l i) (l.getD i default).fact=(t.entity,(l.getD i default).fact.key):=by unfold RM;rw[hk];rfl
    rw[hw];split
    ·rename_i e;rw[Ze9,Zfq];constructor
     ·rintro(q|q)
      ·exact .inl q
      ·exact .inr ⟨hf.1,hf.2,by rw[e],⟨t,ht2,by rw[e]⟩,q⟩
     ·rintro(q|⟨_,_,_,_,q⟩)
      ·exact .inl q
      ·exact .inr q
    ·rename_i e;refine⟨.inl,fun q=>q.elim id fun⟨_,_,q3,⟨t',q4,q5⟩,_⟩=>?_⟩;rw[ht2]at q4;cases q4;exact absurd (Prod.ext q5.symm q3.symm) e
   ·rw[Zac hf];have hno:¬((l.getD i default).kind=1/\(l.getD i default).fact.kind≠3/\(l.getD i default).fact.key=w.2/\(∃t,AV (Bb l (i+1)).tables (l.getD i default).fact.table=some t/\t.entity=w.1)/\y=AO (l.getD i default).fact):=fun q=>hf ⟨q.1,q.2.1⟩
    repeat' split
    all_goals exact⟨.inl,fun q=>q.elim id fun q=>absurd q hno⟩
theorem dD(L:List Fid):∀(ids:List (Fid×Bool)) (y:Fid),y∈(ES ids L).map (·.1)↔y∈ids.map (·.1)\/y∈L:=by
 induction L with
 |nil=>intro ids y;simp[ES]
 |cons x r ih=>intro ids y;have:=ih (AM ids x true) y;grind[ES,Kl]
theorem aCn(ids:List (Fid×Bool))(x y:Fid):y∈(AM ids x true).map (·.1)↔y=x\/y∈ids.map (·.1):=by have:=dD [x] ids y;grind[ES]
theorem dE{l:List Ent}(h:Valid l):∀i,i<=l.length->∀y,y∈(Mj l i).ids.map (·.1)↔y∈Bl l i
 |0,_,y=>by rfl
 |i+1,hi,y=>by
  have ja:i<l.length:=hi;have ih:=dE h i (by omega) y;rw[KE ja];rcases h.kinds ja with hk|hk|hk
  ·have k2:(l.getD i default).kind≠2:=by omega
   have k3:¬((l.getD i default).kind=3/\(l.getD i default).change.kind=1):=fun q=>absurd (hk.symm.trans q.1) (by decide)
   have e2:Bl l (i+1)=Bl l i:=by grind[Bl]
   have e1:(eT (Mj l i) (l.getD i default)).ids=(Mj l i).ids:=by unfold eT;grind
   grind
  ·have k3:¬((l.getD i default).kind=3/\(l.getD i default).change.kind=1):=fun q=>absurd (hk.symm.trans q.1) (by decide)
   have k1:¬((l.getD i default).kind=1/\(l.getD i default).fact.kind≠3):=fun q=>absurd (hk.symm.trans q.1) (by decide)
   by_cases hx:(l.getD i default).erasure.kind=2
   ·have e2:Bl l (i+1)=Ep (Bl l i) (l.getD i default).erasure.id:=by grind[Bl]
    have e1:(eT (Mj l i) (l.getD i default)).ids=AM (Mj l i).ids (l.getD i default).erasure.id true:=by grind[eT]
    rw[e1,e2,NM,aCn,ih]
   ·have e2:Bl l (i+1)=DR (l.take i) (atR (l.take i) 1099511627776) (l.getD i default).erasure (Bl l i):=by grind[Bl]
    have e1:(eT (Mj l i) (l.getD i default)).ids=ES (Mj l i).ids ((Al (Mj l i).about ((l.getD i default).erasure.entity,(l.getD i default).erasure.key)).getD []):=by grind[eT]
    rw[e1,e2,dD,NO,ih,dC h i (by omega),h.atR (by omega)]
  ·have k2:(l.getD i default).kind≠2:=by omega
   have k1:¬((l.getD i default).kind=1/\(l.getD i default).fact.kind≠3):=fun q=>absurd (hk.symm.trans q.1) (by decide)
   have e2:Bl l (i+1)=Bl l i:=by grind[Bl]
   have e1:(eT (Mj l i) (l.getD i default)).ids=(Mj l i).ids:=by unfold eT;grind
   grind
theorem dF{l:List Ent}(h:Valid l)(y:Fid):y∈(Mj l l.length).ids.map (·.1)↔y∈Bn l:=dE h l.length (Zgu _) y
theorem dG(ids:List (Fid×Bool))(x:Fid)(h:(ids.map (·.1)).Nodup):((AM ids x true).map (·.1)).Nodup:=by grind[Kl]
theorem aCo(L:List Fid):∀ids:List (Fid×Bool),(ids.map (·.1)).Nodup->((ES ids L).map (·.1)).Nodup:=by
 induction L with
 |nil=>intro ids h;exact h
 |cons x r ih=>intro ids h;exact ih _ (dG ids x h)
theorem dH(l:List Ent):∀i,i<=l.length->((Mj l i).ids.map (·.1)).Nodup
 |0,_=>by simp[Mj]
 |i+1,hi=>by
  have ih:=dH l i (by omega);rw[KE hi];unfold eT
  repeat' split
  all_goals first|exact ih|exact dG _ _ ih|exact aCo _ _ ih
theorem dJ{l:List Ent}(h:Valid l):Es ((Mj l l.length).ids.map (·.1))=Bn l:=by
 have hs:=UW ((Mj l l.length).ids.map (·.1));have hn:(Es ((Mj l l.length).ids.map (·.1))).Nodup:=(PJ _).nodup_iff.2 (dH l l.length (Zgu _));refine KD HV ?_ (PI l l.length) fun x=>by rw[(PJ _).mem_iff];exact dF h x
 rw[Zfz]at hs⊢;intro i j hi hj hij;rcases PH (Es ((Mj l l.length).ids.map (·.1)))[i] (Es ((Mj l l.length).ids.map (·.1)))[j]with q|q|q
 ·exact q
 ·have:=(List.getElem_inj hn).1 q;omega
 ·exact absurd q (hs i j hi hj hij)
end
section
theorem dK(m:List (Fid×Bool))(x:Fid)(h:∀p∈m,p.2=true):∀p∈AM m x true,p.2=true:=by
 induction m with
 |nil=>intro p hp;simp[AM]at hp;rw[hp]
 |cons q r ih=>grind[AM]
theorem aCp(L:List Fid):∀m:List (Fid×Bool),(∀p∈m,p.2=true)->∀p∈ES m L,p.2=true:=by
 induction L with
 |nil=>intro m h;exact h
 |cons x r ih=>intro m h;exact ih _ (dK m x h)
theorem dL(l:List Ent):∀i,i<=l.length->∀p∈(Mj l i).ids,p.2=true
 |0,_=>by simp[Mj]
 |i+1,hi=>by
  have ih:=dL l i (by omega);rw[KE (by omega)];unfold eT
  repeat' split
  all_goals first|exact ih|exact dK _ _ ih|exact aCp _ _ ih
theorem aCq{m:List (Fid×Bool)}(h:∀p∈m,p.2=true)(id:Fid):inG m id=true↔id∈m.map (·.1):=by
 unfold inG;constructor
 ·intro h1;cases hg:Al m id with
  |none=>rw[hg]at h1;cases h1
  |some v=>exact Zfh.2 ⟨(id,v),aget_mem hg,rfl⟩
 ·intro h1;obtain⟨v,hv⟩:=Go.Dl.aget_some h1;rw[hv];exact h _ (aget_mem hv)
theorem aCr{l:List Ent}(h:Valid l)(id:Fid):inG (Mj l l.length).ids id=Er (Bn l) id:=by rw[Zb2,aCq (dL l l.length (Zgu _)),NN,dF h]
theorem dM(x:Val):Dw x x=true:=by simp[Dw]
theorem dO(x:Fid):Jo x x=true:=by simp[Jo]
end
section
theorem VB(tick:Int)(id:Fid):∀(l:List Ent) (m:List (Fid×CV)) (a:Ent×Bool),(Al m id).getD no0=(a.2,a.1)->(Al ((Bt l tick).foldl ff m) id).getD no0=((l.foldl (Si id tick) a).2,(l.foldl (Si id tick) a).1)
 |[],m,a,h=>h
 |e::l,m,a,h=>by
  unfold Bt;rw[Zdj];by_cases ht:e.tick<=tick
  ·rw[Zaa (by simpa using ht),Zdt,Zdt];refine VB tick id l _ _ ?_;unfold ff Si CK;by_cases hk:e.kind=1
   ·rw[Zac (by simpa using hk),Vk];by_cases hb:AO e.fact=id
    ·have hc:(!(decide (e.kind≠1)||decide (tick<e.tick)||!decide (AO e.fact=id)))=true:=by grind
     rw[Zaa hb,Zaa hc,hb,h];rfl
    all_goals grind
   all_goals grind
  ·rw[Zac (by simpa using ht),Zdt];have hc:Si id tick a e=a:=by unfold Si CK;grind
   rw[hc];exact VB tick id l m a h
theorem aCs(l:List Ent)(tick:Int)(id:Fid):(Al (Do l tick) id).getD no0=((Cc l id tick).2,(Cc l id tick).1):=VB tick id l [] (L4,false) rfl
theorem dP{κ α:Type}[DecidableEq κ]:∀{m:List (κ×α)} {p:κ×α},(m.map (·.1)).Nodup->p∈m->Al m p.1=some p.2
 |q::r,p,hn,h=>by
  rw[Ze1,Zfu]at hn;simp only[Al];rcases Zfb.1 h with e|e
  ·rw[e,Zaa rfl]
  ·have:¬q.1=p.1:=fun k=>hn.1 (k▸Zfh.2 ⟨p,e,rfl⟩)
   rw[Zac this];exact dP hn.2 e
theorem dQ{l:List Ent}(h:Valid l)(tick:Int)(id:Fid):Fm (Mj l l.length).ids (id,(Al (Do l tick) id).getD no0)=C3 l id tick:=by unfold Fm C3 DD;rw[aCs,aCr h]
theorem VC{l:List Ent}(h:Valid l)(tick:Int)(r:Rw):r∈BU l tick↔∃id,C3 l id tick=some r:=by
 unfold BU;rw[(JC _).mem_iff];unfold rowsB;rw[List.mem_filterMap];have hk:=RT l tick;constructor
 ·rintro⟨p,hp,e⟩;refine⟨p.1,?_⟩;rw[<-dQ h,dP hk hp];exact e
 ·rintro⟨id,e⟩;rw[<-dQ h]at e;cases hg:Al (Do l tick) id with
  |none=>rw[hg]at e;simp[Fm]at e
  |some b=>rw[hg]at e;exact⟨(id,b),aget_mem hg,e⟩
theorem JG{l:List Ent}{gone:List Fid}{id:Fid}{tick:Int}{r:Rw}(h:DD l gone id tick=some r):r.id=id:=by
 unfold DD at h;split at h
 ·cases h
 ·cases h;rfl
theorem dR:∀(l:List Ent) (acc:List Fid) (x:Fid),x∈l.foldl IF acc↔x∈acc\/∃e∈l,e.kind=1/\AO e.fact=x
 |[],acc,x=>by simp
 |e::l,acc,x=>by
  rw[Zdt,dR l];unfold IF;by_cases hk:e.kind=1
  ·rw[Zaa hk,NM];grind
  all_goals grind
theorem dS:∀(l:List Ent) (acc:List Fid),acc.Pairwise DC->(l.foldl IF acc).Pairwise DC
 |[],acc,h=>h
 |e::l,acc,h=>by
  rw[Zdt];refine dS l _ ?_;unfold IF;split
  ·exact UV h
  ·exact h
theorem dU(id:Fid)(tick:Int):∀(l:List Ent) (a:Ent×Bool),(l.foldl (Si id tick) a).2=true->a.2=true\/∃e∈l,CK id tick e=true/\e.fact.kind=1
 |[],a,h=>.inl h
 |e::l,a,h=>by
  rw[Zdt]at h;rcases dU id tick l _ h with q|⟨e2,h1,h2⟩
  ·unfold Si at q;grind
  all_goals grind
theorem PT{id:Fid}{tick:Int}{e:Ent}:CK id tick e=true↔e.kind=1/\e.tick<=tick/\AO e.fact=id:=by unfold CK;grind
theorem aCt{l:List Ent}{gone:List Fid}{id:Fid}{tick:Int}{r:Rw}(h:DD l gone id tick=some r):id∈Et l:=by
 unfold DD at h;split at h
 ·cases h
 ·rename_i q;have hs:(Cc l id tick).2=true:=by
   cases e:(Cc l id tick).2
   ·rw[e]at q;simp at q
   ·rfl
  rcases dU id tick l _ hs with q2|⟨e,h1,h2,_⟩
  ·cases q2
  ·have:=PT.1 h2;unfold Et;rw[dR];exact .inr ⟨e,h1,this.1,this.2.2⟩
theorem aCu{a b:Fid}(h:DC a b):0<Ct b a:=by
 rcases(RJ a b).1 h with q|⟨q1,q2⟩
 ·have h1:¬Op.bytesLess b.source a.source=true:=fun k=>PG _ (RI _ _ _ q k)
  have h2:¬b.source=a.source:=fun e=>PG a.source (by rw[e]at q;exact q)
  unfold Ct;rw[Zac h1,Zac h2];decide
 ·have h1:¬Op.bytesLess b.source a.source=true:=by rw[q1];exact PG _
  have h2:¬b.seq<a.seq:=by omega
  unfold Ct DQ;rw[Zac h1,Zaa q1.symm,Zac h2,Zaa q2];decide
theorem aCv{a b:Rw}(h:BE a b):0<Dk b a:=by
 rcases(L5 a b).1 h with q|⟨q1,q2⟩
 ·have h1:DQ b.event a.event=1:=by unfold DQ;rw[Zac (by omega),Zaa q]
  unfold Dk;rw[h1,Zaa (by decide)];decide
 ·have h1:DQ b.event a.event=0:=by unfold DQ;rw[q1,Zac (by omega),Zac (by omega)]
  unfold Dk;rw[Zac (by omega)];exact aCu q2
theorem dV{l:List Rw}{r x:Rw}:x∈putRow l r↔x=r\/x∈l:=aO
theorem dW{r:Rw}{l:List Rw}(hl:l.Pairwise BE)(xn:∀y∈l,y.id≠r.id):∀k,k<=l.length->(∀y∈l.take (Gt l r k),BE y r)/\∀y∈(l.take k).drop (Gt l r k),BE r y
 |0,_=>by simp[Gt]
 |k+1,hk=>by
  have jk:k<l.length:=hk;have ih:=dW hl xn k (by omega);have hkm:=At jk;unfold Gt;split
  ·rename_i hc;refine⟨ih.1,fun y hy=>?_⟩;rw[BM jk]at hy;have vw:=bm l r k;rw[Zc6 (by rw[Zex];omega)]at hy;rcases Ze9.1 hy with q|q
   ·exact ih.2 y q
   ·rw[Zfq.1 q];rcases RL (l.getD k default) r with q|q|q
    ·unfold BE at q;omega
    ·exact absurd q.2 (xn _ hkm)
    ·exact q
  ·rename_i hc;have jn:BE (l.getD k default) r:=by
    rcases RL (l.getD k default) r with q|q|q
    ·exact q
    ·exact absurd q.2 (xn _ hkm)
    ·exact absurd (aCv q) hc
   refine⟨fun y hy=>?_,fun y hy=>?_⟩
   ·rw[BM jk]at hy;rcases Ze9.1 hy with q|q
    ·have hp:(l.take k++l.drop k).Pairwise BE:=by rw[Zga];exact hl
     rw[Zfx]at hp;exact HW.tr _ _ _ (hp.2.2 y q (l.getD k default) (by rw[Dj jk];exact Zfd)) jn
    ·rw[Zfq.1 q];exact jn
   ·rw[Zda (by rw[Zex];omega)]at hy;cases hy
theorem aCw{l:List Rw}{r:Rw}(hl:l.Pairwise BE)(xn:∀y∈l,y.id≠r.id):(putRow l r).Pairwise BE:=by have h:=dW hl xn l.length (Zgu _);rw[Zgd]at h;exact aN hl h.1 h.2
theorem VD(l:List Ent)(gone:List Fid)(tick:Int):∀(ids:List Fid) (acc:List Rw),ids.Nodup->acc.Pairwise BE->(∀y∈acc,y.id∉ids)->(ids.foldl (Dp l gone tick) acc).Pairwise BE/\∀r,r∈ids.foldl (Dp l gone tick) acc↔r∈acc\/∃id∈ids,DD l gone id tick=some r
 |[],acc,_,h,_=>⟨h,fun r=>by simp⟩
 |id::ids,acc,hn,h,hd=>by
  rw[Zfu]at hn;rw[Zdt];unfold Dp;cases hf:DD l gone id tick with
  |none=>have ih:=VD l gone tick ids acc hn.2 h (fun y hy q=>hd y hy (Zfc _ q));refine⟨ih.1,fun r=>?_⟩;have:=ih.2 r;unfold Dp at this;grind
  |some r0=>
   have hr0:=JG hf;have ih:=VD l gone tick ids (putRow acc r0) hn.2 (aCw h (fun y hy e=>hd y hy (by rw[e,hr0];exact Zfd))) (fun y hy q=>by
    rcases dV.1 hy with e|e
    ·rw[e,hr0]at q;exact hn.1 q
    ·exact hd y e (Zfc _ q))
   refine⟨ih.1,fun r=>?_⟩;have:=ih.2 r;unfold Dp at this;grind[dV]
theorem D8(l:List Ent)(tick:Int):(BT l tick).Pairwise BE/\∀r,r∈BT l tick↔∃id,C3 l id tick=some r:=by
 have h:=VD l (Bn l) tick (Et l) [] (xB HV (dS l [] List.Pairwise.nil)) List.Pairwise.nil (fun y hy=>by cases hy);refine⟨h.1,fun r=>?_⟩;rw[show BT l tick=(Et l).foldl (Dp l (Bn l) tick) []from rfl,h.2];constructor
 ·rintro(q|⟨id,_,q⟩)
  ·cases q
  ·exact⟨id,q⟩
 ·rintro⟨id,q⟩;exact .inr ⟨id,aCt q,q⟩
theorem aCx(l:List Ent)(tick:Int):(BU l tick).Pairwise BE:=U7 (RW _ _ (RT l tick))
theorem N9{l:List Ent}(h:Valid l)(tick:Int):BU l tick=BT l tick:=
 KD HW (aCx l tick) (D8 l tick).1 fun r=>by grind[VC,D8]
theorem dX{l:List Ent}{gone:List Fid}{id:Fid}{tick:Int}{r:Rw}(h:DD l gone id tick=some r):r=DS (Cc l id tick).1 id:=by unfold DD at h;grind
end
section
theorem Valid.tick1{l:List Ent}(h:Valid l){i:Nat}(hi:i+1<l.length):(l.getD i default).tick<=(l.getD (i+1) default).tick:=by have:=h.order hi;simp only[Zca,Gs,Bool.and_eq_false_iff,Za4,Nat.add_sub_cancel]at this;omega
theorem Valid.ticks{l:List Ent}(h:Valid l){i:Nat}:∀{j:Nat},i<=j->j<l.length->(l.getD i default).tick<=(l.getD j default).tick
 |0,hij,hj=>by
  have:i=0:=by omega
  subst this;exact Zck _
 |j+1,hij,hj=>by
  by_cases e:i=j+1
  ·subst e;exact Zck _
  ·exact Int.le_trans (h.ticks (j:=j) (by omega) (by omega)) (h.tick1 hj)
theorem Valid.noChange{l:List Ent}(h:Valid l){i:Nat}(hi:i<l.length)(hk:(l.getD i default).kind≠3):Bb l (i+1)=Bb l i:=by
 rcases h.kinds hi with q|q|q
 ·exact(h.fact hi q).1
 ·exact h.erase hi q
 all_goals omega
theorem Valid.cut{l:List Ent}(h:Valid l)(tick:Int):∀i,i<=l.length->∃k,k<=i/\Bs l tick i=Bb l k/\(∀j,j<k->(l.getD j default).tick<=tick)/\∀j,k<=j->j<i->tick<(l.getD j default).tick
 |0,_=>⟨0,Zgu _,rfl,fun j hj=>absurd hj (by omega),fun j _ hj=>absurd hj (by omega)⟩
 |i+1,hi=>by
  obtain⟨k,h1,h2,h3,h4⟩:=h.cut tick i (by omega);by_cases ht:(l.getD i default).tick<=tick
  ·have hki:k=i:=by apply Zcg;intro hn;have a1:=h4 k (Zgu _) (by omega);have a2:=h.ticks (i:=k) (j:=i) (by omega) (by omega);omega
   subst hki;refine⟨k+1,Zgu _,?_,fun j hj=>?_,fun j a b=>absurd a (by omega)⟩
   ·rw[Bs,h2];by_cases qf:(l.getD k default).kind=3
    ·have ha:=h.change (by omega:k<l.length) qf;grind
    ·rw[Zaa (.inl qf),h.noChange (by omega) qf]
   all_goals grind
  ·refine⟨k,by omega,?_,h3,fun j a b=>?_⟩
   ·rw[Bs,Zaa (.inr (by omega))];exact h2
   all_goals grind
theorem Valid.monoL{l:List Ent}(h:Valid l){i:Nat}{n:AQ}{t:Tbl}(ht:AV (Bb l i).tables n=some t):∀{j:Nat},i<=j->j<=l.length->AV (Bb l j).tables n=some t
 |0,hij,hj=>by
  have:i=0:=by omega
  subst this;exact ht
 |j+1,hij,hj=>by
  by_cases e:i=j+1
  ·subst e;exact ht
  ·exact h.mono (by omega) (h.monoL ht (j:=j) (by omega) (by omega))
theorem dY{l:List Ent}(h:Valid l){tick:Int}{i:Nat}(hi:i<l.length)(hk:(l.getD i default).kind=1)(h3:(l.getD i default).fact.kind≠3)(ht:(l.getD i default).tick<=tick):
  ∃t,AV (Bb l i).tables (l.getD i default).fact.table=some t/\AV (atR l tick).tables (l.getD i default).fact.table=some t:=by
 obtain⟨t,h1⟩:=h.table hi hk h3;obtain⟨k,a1,a2,a3,a4⟩:=h.cut tick l.length (Zgu _);have hik:i<k:=by grind
 refine⟨t,h1,?_⟩;unfold atR;rw[a2];exact h.monoL h1 (by omega) a1
theorem Valid.seq{l:List Ent}(h:Valid l){i:Nat}(hi:i<l.length)(hk:(l.getD i default).kind=1):1<=(l.getD i default).fact.id.seq:=by
 have:=(h.fact hi hk).2;unfold Gm at this;split at this
 ·simp at this
 ·rename_i q;unfold KA at q;simp only[Bool.not_eq_false,Zbz,Za0]at q;exact q.1.1.1.2
theorem VF(id:Fid)(tick:Int):∀(l:List Ent) (a:Ent×Bool),(∀e∈l,e.kind=1->1<=e.fact.id.seq)->(a.2=true->1<=a.1.fact.id.seq)->((l.foldl (Si id tick) a).2=true->1<=(l.foldl (Si id tick) a).1.fact.id.seq)/\((l.foldl (Si id tick) a).1=a.1\/((l.foldl (Si id tick) a).1∈l/\CK id tick (l.foldl (Si id tick) a).1=true))
 |[],a,_,ha=>⟨ha,.inl rfl⟩
 |e::l,a,hs,ha=>by
  rw[Zdt];have hl:∀x∈l,x.kind=1->1<=x.fact.id.seq:=fun x hx=>hs x (Zfc _ hx)
  by_cases hi:CK id tick e=true
  ·have he:=hs e Zfd (PT.1 hi).1;have e1:Si id tick a e=(if a.1.fact.id.seq<e.fact.id.seq then e else a.1,a.2||decide (e.fact.kind=1)):=by unfold Si;rw[Zaa hi]
   have h2:=VF id tick l (Si id tick a e) hl (fun _=>by rw[e1];simp only;split<;>omega);grind
  ·have e1:Si id tick a e=a:=by unfold Si;rw[Zac hi]
   rw[e1];have h2:=VF id tick l a hl ha;grind
theorem Valid.seqs{l:List Ent}(h:Valid l):∀e∈l,e.kind=1->1<=e.fact.id.seq:=fun e he hk=>by obtain⟨i,hi,rfl⟩:=PM he;exact h.seq hi hk
theorem Valid.row{l:List Ent}(h:Valid l){id:Fid}{tick:Int}{r:Rw}(hf:C3 l id tick=some r):∃i,i<l.length/\CK id tick (l.getD i default)=true/\(l.getD i default).fact.kind≠3/\r=DS (l.getD i default) id/\Er (Bn l) id=false/\(Cc l id tick).1=l.getD i default:=by
 have hr:=dX hf;unfold C3 DD at hf;split at hf
 ·cases hf
 ·rename_i q;simp only[Zcb,Zb7,Za0,not_or]at q;have hs:(Cc l id tick).2=true:=by simpa using q.1.1
  have ho:=VF id tick l (L4,false) h.seqs (fun e=>by cases e);have h1:=ho.1 hs;rcases ho.2 with e|⟨e1,e2⟩
  ·rw[e]at h1;exact absurd h1 (by decide)
  ·obtain⟨i,hi,e3⟩:=PM e1;have e4:(Cc l id tick).1=l.getD i default:=e3.symm;refine⟨i,hi,by rw[<-e4];exact e2,by rw[<-e4];exact q.1.2,by rw[<-e4];exact hr,by simpa using q.2,e4⟩
end
section
theorem aCy{α:Type}{l:List α}{e d:α}{i:Nat}(h:i<l.length):(l++[e]).getD i d=l.getD i d:=by grind
theorem aCz{α:Type}{l:List α}{e d:α}:(l++[e]).getD l.length d=e:=by simp
theorem dZ(l:List Ent)(e:Ent):∀i,i<=l.length->Bl (l++[e]) i=Bl l i
 |0,_=>rfl
 |i+1,h=>by rw[Bl,Bl,aCy (by omega),dZ l e i (by omega),Zgb (by omega)]
theorem eg(l:List Ent)(e:Ent)(hk:e.kind=2):Bn (l++[e])=if e.erasure.kind=2 then Ep (Bn l) e.erasure.id else DR l (atR l 1099511627776) e.erasure (Bn l):=by unfold Bn;rw[Zel,Zem,Zeu,Bl,aCz,dZ l e _ (Zgu _),Zac (by simp[hk]),Zgb (Zgu _),Zgd]
theorem aD0(l:List Ent)(e:Ent)(hk:e.kind≠1)(id:Fid)(tick:Int):Cc (l++[e]) id tick=Cc l id tick:=by unfold Cc;rw[Zds,Zdt,Zdu];unfold Si;grind[PT]
theorem el(l:List Ent)(e:Ent)(hk:e.kind=2){x:Fid}(h:x∈Bn l):x∈Bn (l++[e]):=by
 rw[eg l e hk];split
 ·exact NM.2 (.inr h)
 ·exact(NO _ _ _ _ _).2 (.inl h)
theorem ep(l:List Ent)(e:Ent)(hk:e.kind=2)(id:Fid)(tick:Int)(r:Rw):C3 (l++[e]) id tick=some r↔C3 l id tick=some r/\Er (Bn (l++[e])) id=false:=by
 have j9:Er (Bn l) id=true->Er (Bn (l++[e])) id=true:=fun h=>(NN _ _).2 (el l e hk ((NN _ _).1 h))
 unfold C3 DD;grind[aD0]
theorem aD1{l:List Ent}{e:Ent}(hk:e.kind=2)(tick:Int):BT (l++[e]) tick=(BT l tick).filter fun r=>!Er (Bn (l++[e])) r.id:=by
 refine KD HW (D8 _ tick).1 ((D8 l tick).1.filter _) fun r=>?_
 rw[(D8 _ tick).2,Zfe,(D8 l tick).2];constructor
 ·rintro⟨id,h⟩;obtain⟨h1,h2⟩:=(ep l e hk id tick r).1 h;exact⟨⟨id,h1⟩,by rw[JG h1,h2];rfl⟩
 ·rintro⟨⟨id,h1⟩,h2⟩;refine⟨id,(ep l e hk id tick r).2 ⟨h1,?_⟩⟩;rw[JG h1]at h2;simpa using h2
def CM(P:Rw->Bool)(rows:List Rw)(i:Nat):Nat:=((rows.take i).filter P).length
theorem eq{P:Rw->Bool}{rows:List Rw}{i:Nat}(h:i<rows.length):CM P rows (i+1)=CM P rows i+if P (rows.getD i default)=true then 1 else 0:=by unfold CM;rw[BM h,Zdi,Zel,Zdj];grind
theorem eu{P:Rw->Bool}{rows:List Rw}{i:Nat}(h:i<rows.length):rows.filter P=(rows.take i).filter P++((if P (rows.getD i default)=true then[rows.getD i default]else[])++(rows.drop (i+1)).filter P):=by
 have e:rows=rows.take i++(rows.getD i default::rows.drop (i+1)):=by simp_all
 grind
theorem aD2{P:Rw->Bool}{rows:List Rw}{i:Nat}(h:i<rows.length)(hk:P (rows.getD i default)=true):CM P rows i<(rows.filter P).length/\(rows.filter P).getD (CM P rows i) default=rows.getD i default:=by grind[eu,CM]
theorem aD3{P:Rw->Bool}{rows:List Rw}{i:Nat}(h:i<rows.length)(hk:P (rows.getD i default)=false)(hn:CM P rows i<(rows.filter P).length):∃j,i<j/\j<rows.length/\(rows.filter P).getD (CM P rows i) default=rows.getD j default:=by
 have hs:=eu (P:=P) h;rw[hk,Zac (by simp),Zft]at hs;rw[hs]at hn⊢;unfold CM at hn⊢;rw[Zel]at hn;rw[Zdx,Zdz (Zgu _),Zg5];cases hq:(rows.drop (i+1)).filter P with
 |nil=>rw[hq]at hn;simp at hn
 |cons q r=>
  have hm:q∈rows.drop (i+1):=(Zfe.1 (by rw[hq];exact Zfd)).1;obtain⟨j,hj,e⟩:=Zeh hm;rw[List.getElem_drop]at e;have qx:i+1+j<rows.length:=by grind
  refine⟨i+1+j,by omega,qx,?_⟩;grind
theorem ew{said:Bool}{a b:Rw}(h:DN said a b=true):a.id=b.id:=by unfold DN at h;simp only[Zbz,Zas]at h;obtain⟨⟨⟨⟨⟨_,h1,h2⟩,_⟩,_⟩,_⟩,_⟩:=h;cases ha:a.id;simp_all
theorem ey{P:Rw->Bool}{rows:List Rw}{i:Nat}{r:Rw}(hps:rows.Pairwise BE)(h:i<rows.length)(hr:rows.getD i default=r):
  (P r=true/\CM P rows i<(rows.filter P).length/\(rows.filter P).getD (CM P rows i) default=r)\/(P r=false/\CM P rows i<(rows.filter P).length/\∃r2∈rows,r2≠r/\(rows.filter P).getD (CM P rows i) default=r2)\/(P r=false/\¬CM P rows i<(rows.filter P).length):=by
 subst hr;cases wu:P (rows.getD i default)
 ·by_cases hn:CM P rows i<(rows.filter P).length
  ·obtain⟨j,j1,j2,j3⟩:=aD3 h wu hn;refine .inr (.inl ⟨rfl,hn,_,At j2,fun e=>?_,j3⟩);have:=(Zfz.1 hps) i j h j2 j1;rw[<-AK h,<-AK j2,e]at this;exact HW.irr _ this
  ·exact .inr (.inr ⟨rfl,hn⟩)
 ·exact .inl ⟨rfl,aD2 h wu⟩
end
section
theorem ez{l:List Ent}(h:Valid l)(tick:Int)(id:Fid):Mb (BU l tick) id=C3 l id tick:=by
 unfold Mb;cases e:(BU l tick).find? fun r=>decide (r.id=id)with
 |none=>
  rw[Zdl]at e;cases k:C3 l id tick with
  |none=>rfl
  |some r=>have:=e r ((VC h tick r).2 ⟨id,k⟩);rw[JG k]at this;simp at this
 |some r=>obtain⟨id',k⟩:=(VC h tick r).1 (Zfi e);have h1:=List.find?_some e;have h2:=JG k;grind
theorem eA(id:Fid)(tick:Int):∀(l:List Ent) (a:Ent×Bool),(l.foldl (Si id tick) a).1=a.1\/(l.foldl (Si id tick) a).1∈l
 |[],a=>.inl rfl
 |e::l,a=>by
  rw[Zdt];rcases eA id tick l (Si id tick a e)with q|q
  ·rw[q];unfold Si;grind
  all_goals grind
theorem eB(e:Ent):e.fact.fields.length<=AB e:=by have h1:=El e;have h2:=Il (b:=EI) (fun x=>by unfold EI;omega) e.fact.fields;have h3:GY e.fact=GY e.fact:=rfl;unfold GY at h3 h1;omega
theorem PU{l:List Ent}{gone:List Fid}{id:Fid}{tick:Int}{r:Rw}(h:DD l gone id tick=some r):r.fields.length<=Ag AB l:=by
 rw[dX h];show(Cc l id tick).1.fact.fields.length<=_;rcases eA id tick l (L4,false)with q|q
 ·unfold Cc;rw[q];exact Zg9 _
 ·have:=B4 (b:=AB) q;exact Zgw (eB _) this
theorem PV(said:Bool)(r:Rw):DN said r r=true:=by simp[DN,KG Dw r.fields fun y _=>dM y]
theorem aD4(l:List Ent)(tick:Int)(id:Fid)(hb:Ag AB l<=1048576):Is mx 8 [.sl (l.map Ae),iI tick,.agg (Am id)] (.bool true):=by
 have v1:=Sa (mx:=mx) l (by omega);have ex:=PR (mx:=mx);cases hf:FS l&&decide (C8 l=0)
 ·rw[hf]at v1;refine MX F8 ?_;exact EV v1 trivial
 ·rw[hf]at v1;rw[Zbz,Za0]at hf;have hV:=PS hf.2;have h60:l.length<=60:=by have:=hf.1;unfold FS at this;grind
  have f1:=bq (mx:=mx) l id tick (by omega);have f2:=x8 (mx:=mx) l id tick (by omega) (by omega);rw[ez hV]at f1;have e1:=HY (mx:=mx) l tick (by omega);have e2:=bn (mx:=mx) l tick (by omega) (by omega);have ht:=RR (l:=l) (by omega) tick;have w1:=U8 (mx:=mx) l tick (atR l tick) (by omega) (by omega) (Vy l tick (by omega));have w2:=ye (mx:=mx) l tick (by omega) (by omega);rw[N9 hV]at e1 w1;have vn:∀r∈BT l tick,r.fields.length<=1073741824:=fun r hr=>by obtain⟨i,hi⟩:=((D8 l tick).2 r).1 hr;have:=PU hi;omega
  have xi:=NU l tick;have hvl:(Ma l tick).length<=(BT l tick).length:=Zer _ _;have hfv:∀r∈Ma l tick,r.fields.length<=1073741824:=fun r hr=>vn r (Zfe.1 hr).1
  have s1:=Rl (mx:=mx) true (BT l tick) (BT l tick) (by omega) (by omega) vn vn;have s2:=Rl (mx:=mx) true (Ma l tick) (Ma l tick) (by omega) (by omega) hfv hfv;rw[KG (DN true) _ fun x _=>PV true x]at s1 s2;have w1:Is mx 33 [.sl (l.map Ae),iI tick] (.sl ((Ma l tick).map JI)):=w1;have hq:((C3 l id tick).getD HX).fields.length<=1073741824:=by
   cases k:C3 l id tick with
   |none=>exact Zg9 _
   |some r=>have:=PU k;simp only[Zhh];omega
  unfold Hf at f1 f2;have s3:=LO (mx:=mx) ((C3 l id tick).getD HX) ((C3 l id tick).getD HX) true hq hq;rw[PV]at s3;generalize C3 l id tick=q at f1 f2 s3;refine MX F8 ?_
  (repeat' first|simp(disch:=omega)only[go_sem,simprocAttr,Zaw]|refine Sx.s ?_ ?_<;>try(intro h;have h':=h;try simp only[HB]at h';try rewrite [h];try simp only[h])|refine Ab (v1) ?_|refine Ab (f1) ?_|refine Ab (f2) ?_|refine Ab (e1) ?_|refine Ab (e2) ?_|refine Ab (w1) ?_|refine Ab (w2) ?_|refine Ab (s1) ?_|refine Ab (s2) ?_|refine Ab (s3) ?_|refine Ab (ex) ?_|refine Ac ?_|refine Sz.s ?_|fail)
end
section
def Oa(tick:Int)(r:Rw)(x:Ent):Bool:=decide (x.kind=1)&&Jo (AO x.fact) r.id&&decide (x.tick<=tick)&&DN true (DS x r.id) r
theorem aD5(l:List Ent)(tick:Int)(hb:Ag AB l<=1048576):Is mx 9 [.sl (l.map Ae),iI tick] (.bool true):=by
 have v1:=Sa (mx:=mx) l (by omega);have ex:=PR (mx:=mx);cases hf:FS l&&decide (C8 l=0)
 ·rw[hf]at v1;refine MX F9 ?_;exact EV v1 trivial
 rw[hf]at v1;rw[Zbz,Za0]at hf;have hV:=PS hf.2;have h60:l.length<=60:=by have:=hf.1;unfold FS at this;simp at this;omega
 have e1:=HY (mx:=mx) l tick (by omega);have ht:=RR (l:=l) (by omega) tick;have a1:=Vy (mx:=mx) l tick (by omega);have w1:=U8 (mx:=mx) l tick (atR l tick) (by omega) (by omega) a1;rw[N9 hV]at e1 w1;have vn:∀r∈BT l tick,r.fields.length<=1073741824:=fun r hr=>by obtain⟨i,hi⟩:=((D8 l tick).2 r).1 hr;have:=PU hi;omega
 have xi:=NU l tick;have hps:=(D8 l tick).1;have hpm:=(D8 l tick).2;have hf1:=fun id=>bq (mx:=mx) l id tick (by omega)
 simp only[ez hV]at hf1;generalize BT l tick=rows at*;generalize hc:atR l tick=c at*;have wj:(C9 c rows tick).length<=rows.length:=Zer _ _;refine MX F9 ?_
 (repeat' first|simp(disch:=omega)only[go_sem,simprocAttr]|refine Sx.s ?_ ?_<;>try(intro h;have h':=h;try simp only[HB]at h';try rewrite [h];try simp only[h])|refine Ab (v1) ?_|refine Ab (e1) ?_|refine Ab (w1) ?_|refine Ab (a1) ?_|refine Ac ?_|fail)
 refine A4 [0,1,5,6,7] (by simp only[V0,JK,reduceIte,Nat.reduceEqDiff];rfl) (fun i:Nat=>[(8,.i (iI (CM (Eu c tick) rows i))),(9,.i (iI i))]) (fun _=>[])
  (fun i=>i<=rows.length) (fun i=>rows.length-i) 0 (by simp) (by simp[V0,H0,JJ,CM]) ?_
 intro i hi;by_cases ja:i<rows.length
 ·obtain⟨id,xn⟩:=(hpm _).1 (At ja);have jt:=JG xn;have hrf:=vn _ (At ja);have f1:=hf1 (rows.getD i default).id;rw[jt,xn,<-jt]at f1;obtain⟨p,hp,hpo,hp3,hpr,_,_⟩:=hV.row xn;obtain⟨po1,po2,po3⟩:=PT.1 hpo;obtain⟨t,_,htb⟩:=dY hV hp po1 hp3 po2;have hcm:=hc;have wz:=RH (mx:=mx) c (rows.getD i default).table (by omega);have hrt:(rows.getD i default).table=(l.getD p default).fact.table:=by rw[hpr];rfl
  rw[hc]at htb;rw[hrt,htb,<-hrt]at wz;have jn:0<i->Dk (rows.getD (i-1) default) (rows.getD i default)<0:=fun h0=>by have:=(Zfz.1 hps) (i-1) i (by omega) ja (by omega);rw[AK ja,AK (by omega)];exact this
  have jc:∀r2∈rows,r2.id=(rows.getD i default).id->r2=rows.getD i default:=fun r2 h2 e=>by obtain⟨id2,hid2⟩:=(hpm _).1 h2;have:=JG hid2;rw[<-this,e,jt,xn]at hid2;exact(Zho hid2).symm
  have kq:=eq (P:=Eu c tick) ja;have qm:Eu c tick (rows.getD i default)=(decide (t.keep=0)||decide (tick<=IntKind.i64.wrap ((rows.getD i default).event+t.keep))):=by unfold Eu;rw[hrt,htb];rfl
  have hsaid:l.any (Oa tick (rows.getD i default))=true:=by
   rw[Zcz];refine⟨_,At hp,?_⟩;unfold Oa;have h5:DS (l.getD p default) (rows.getD i default).id=rows.getD i default:=by rw[jt];exact hpr.symm
   rw[h5,PV,po1,po3,<-jt,dO,Za5 po2];rfl
  unfold Hf at f1;unfold Gi at wz;simp only[Zhh,Zhk]at f1 wz;generalize hr:rows.getD i default=r at*;refine FU (cj (BV ja) hr) ?_;refine lT [0,1,5,6,7,8,9,10] (fun k:Nat=>[(11,.i (.bool ((l.take k).any (Oa tick r)))),(12,.i (iI k))]) (fun _=>[]) (fun k=>k<=l.length) (fun k=>l.length-k) 0 ?_;intro k hk;by_cases jk:k<l.length
  ·have jf:(l.take (k+1)).any (Oa tick r)=((l.take k).any (Oa tick r)||Oa tick r (l.getD k default)):=by rw[BM jk,Zcx];simp
   have b1:=RG (mx:=mx) (l.getD k default).fact;have hef:(l.getD k default).fact.fields.length<=1073741824:=by have:=eB (l.getD k default);have:=B4 (b:=AB) (At jk);omega
   have s1:=LO (mx:=mx) (DS (l.getD k default) r.id) r true hef hrf;refine EV (cj b1 (cj s1 (cj (BV jk) (cj @AN @eRw_eq)))) ?_;exact⟨k+1,by omega,by omega,by rw[jf];rfl,rfl⟩
  ·have hkl2:k=l.length:=by omega
   subst hkl2;rw[Zgd];have s2:=LO (mx:=mx) r r true hrf hrf;rw[PV]at s2;rw[eRw_eq]at f1 s2;have vw:=wj;have three:=ey (P:=Eu c tick) hps ja hr;generalize hn:CM (Eu c tick) rows i=n at*;have hkd:C9 c rows tick=rows.filter (Eu c tick):=rfl;rw[<-hkd]at three;generalize hsn:C9 c rows tick=seen at*;have hI:(((0:Int)<(i:Int))=False/\True/\True/\True/\True)\/(((0:Int)<(i:Int))=True/\((i:Int)-1).toNat=i-1/\((i:Int)-1=((i-1:Nat):Int))/\(i-1<rows.length)/\¬0<=Dk (rows.getD (i-1) default) r):=by
    by_cases h0:i=0
    ·exact .inl ⟨Za9 (by omega),trivial,trivial,trivial,trivial⟩
    ·have:=jn (by omega);exact .inr ⟨Za8 (by omega),by omega,by omega,by omega,by omega⟩
   have c1:=aK (mx:=mx) (rows.getD (i-1) default) r;rw[eRw_eq r]at c1;rcases three with⟨wu,k1,k2⟩|⟨wu,k1,r2,k2,k3,k4⟩|⟨wu,k1⟩
   ·rw[wu]at qm kq;rw[Zaa rfl]at kq;have k3:decide ((n:Int)<(seen.length:Int))=true:=Za5 (by omega);rcases hI with⟨z1,z2,z3,z4,z5⟩|⟨z1,z2,z3,z4,z5⟩
    ·(repeat' first|exact Ao _|simp(disch:=omega)only[go_sem,simprocAttr,Hi jk,eRw_eq,hsaid,z1,Za2,BV k1,k2,<-qm]|refine' Av (fun hq=>?_) (fun f=>?_)<;>try(have jd:=hq;try simp only[HB]at jd)|refine Sx.s ?_ ?_<;>try(intro h;have h':=h;try simp only[HB]at h';try rewrite [h];try simp only[h])|refine Ab (f1) ?_|refine Ab (wz) ?_|refine Ab (s2) ?_|refine Ac ?_|refine Au ?_|fail)
     exact⟨i+1,by omega,by omega,by rw[kq];rfl,rfl⟩
    ·(repeat' first|exact Ao _|simp(disch:=omega)only[go_sem,simprocAttr,Hi jk,eRw_eq,hsaid,z1,Za1,z3,BV z4,Za9 z5,Za2,BV k1,k2,<-qm]|refine' Av (fun hq=>?_) (fun f=>?_)<;>try(have jd:=hq;try simp only[HB]at jd)|refine Sx.s ?_ ?_<;>try(intro h;have h':=h;try simp only[HB]at h';try rewrite [h];try simp only[h])|refine Ab (f1) ?_|refine Ab (wz) ?_|refine Ab (s2) ?_|refine Ab (c1) ?_|refine Ac ?_|refine Au ?_|fail)
     exact⟨i+1,by omega,by omega,by rw[kq];rfl,rfl⟩
   ·rw[wu]at qm kq;rw[Zac (by simp)]at kq;have q3:decide ((n:Int)<(seen.length:Int))=true:=Za5 (by omega);have hr2:DN true r2 r=false:=by
     cases e:DN true r2 r
     ·rfl
     ·exact absurd (jc r2 k2 (ew e)) k3
    have s3:=LO (mx:=mx) r2 r true (vn r2 k2) hrf;rw[hr2,eRw_eq,eRw_eq]at s3;rcases hI with⟨z1,z2,z3,z4,z5⟩|⟨z1,z2,z3,z4,z5⟩
    ·(repeat' first|exact Ao _|simp(disch:=omega)only[go_sem,simprocAttr,Hi jk,eRw_eq,hsaid,z1,Za2,BV k1,k4,<-qm]|refine' Av (fun hq=>?_) (fun f=>?_)<;>try(have jd:=hq;try simp only[HB]at jd)|refine Sx.s ?_ ?_<;>try(intro h;have h':=h;try simp only[HB]at h';try rewrite [h];try simp only[h])|refine Ab (f1) ?_|refine Ab (wz) ?_|refine Ab (s2) ?_|refine Ab (s3) ?_|refine Ac ?_|refine Au ?_|fail)
     exact⟨i+1,by omega,by omega,by rw[kq];rfl,rfl⟩
    ·(repeat' first|exact Ao _|simp(disch:=omega)only[go_sem,simprocAttr,Hi jk,eRw_eq,hsaid,z1,Za1,z3,BV z4,Za9 z5,Za2,BV k1,k4,<-qm]|refine' Av (fun hq=>?_) (fun f=>?_)<;>try(have jd:=hq;try simp only[HB]at jd)|refine Sx.s ?_ ?_<;>try(intro h;have h':=h;try simp only[HB]at h';try rewrite [h];try simp only[h])|refine Ab (f1) ?_|refine Ab (wz) ?_|refine Ab (s2) ?_|refine Ab (c1) ?_|refine Ab (s3) ?_|refine Ac ?_|refine Au ?_|fail)
     exact⟨i+1,by omega,by omega,by rw[kq];rfl,rfl⟩
   ·rw[wu]at qm kq;rw[Zac (by simp)]at kq;have q3:decide ((n:Int)<(seen.length:Int))=false:=Zba (by omega);rcases hI with⟨z1,z2,z3,z4,z5⟩|⟨z1,z2,z3,z4,z5⟩
    ·(repeat' first|exact Ao _|simp(disch:=omega)only[go_sem,simprocAttr,Hi jk,eRw_eq,hsaid,z1,Za2,q3,<-qm]|refine' Av (fun hq=>?_) (fun f=>?_)<;>try(have jd:=hq;try simp only[HB]at jd)|refine Sx.s ?_ ?_<;>try(intro h;have h':=h;try simp only[HB]at h';try rewrite [h];try simp only[h])|refine Ab (f1) ?_|refine Ab (wz) ?_|refine Ab (s2) ?_|refine Ac ?_|refine Au ?_|fail)
     exact⟨i+1,by omega,by omega,by rw[kq];rfl,rfl⟩
    ·(repeat' first|exact Ao _|simp(disch:=omega)only[go_sem,simprocAttr,Hi jk,eRw_eq,hsaid,z1,Za1,z3,BV z4,Za9 z5,Za2,q3,<-qm]|refine' Av (fun hq=>?_) (fun f=>?_)<;>try(have jd:=hq;try simp only[HB]at jd)|refine Sx.s ?_ ?_<;>try(intro h;have h':=h;try simp only[HB]at h';try rewrite [h];try simp only[h])|refine Ab (f1) ?_|refine Ab (wz) ?_|refine Ab (s2) ?_|refine Ab (c1) ?_|refine Ac ?_|refine Au ?_|fail)
     exact⟨i+1,by omega,by omega,by rw[kq];rfl,rfl⟩
 ·have wl:i=rows.length:=by omega
  have ko:(CM (Eu c tick) rows i:Int)=((C9 c rows tick).length:Int):=by unfold CM C9;rw[wl,Zgd]
  exact AU (cj ex (cj (Hi ja) ko)) trivial
end
end Go.Proofs.YtojgbkiejjingaaGreatDoor
