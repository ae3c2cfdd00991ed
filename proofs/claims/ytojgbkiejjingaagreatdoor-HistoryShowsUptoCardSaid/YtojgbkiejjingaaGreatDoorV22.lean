/-Lemmas.-/
import Derived.Test.YtojgbkiejjingaaGreatDoorV21
set_option linter.all false
set_option maxRecDepth 100000
set_option maxHeartbeats 8000000
namespace Go.Proofs.YtojgbkiejjingaaGreatDoor
open Go Go.Dl Go.As Go.Proofs
variable {mx:Int}
attribute[local irreducible] Ah Ai MC W2 Fq ev evD step Ad
section
def Cj(l:List Ent)(tick:Int):Nat->List (Chg×Cat)
 |0=>[]
 |i+1=>if(l.getD i default).kind≠3\/tick<(l.getD i default).tick then Cj l tick i else if(Cu (Bs l tick i) (l.getD i default).change).2=0 then Cj l tick i++[((l.getD i default).change,(Cu (Bs l tick i) (l.getD i default).change).1)]else Cj l tick i
def eCC(p:Chg×Cat):List I:=[.agg (AF p.1),.agg (Ap p.2)]
def Md(xs:List (Chg×Cat)):Cat:=if xs.length=0 then BD else(xs.getD (xs.length-1) default).2
theorem bQ(xs:List (Chg×Cat))(p:Chg×Cat):Md (xs++[p])=p.2:=by simp[Md]
theorem bR(l:List Ent)(tick:Int):∀i,Md (Cj l tick i)=Bs l tick i
 |0=>rfl
 |i+1=>by have ih:=bR l tick i;rw[Cj.eq_2,Bs.eq_2];grind[bQ]
theorem RY(l:List Ent)(tick:Int)(i:Nat):∀n,i<=n->Cj l tick i<+:Cj l tick n
 |0,h=>by rw[show i=0 by omega];exact List.prefix_refl _
 |n+1,h=>by
  by_cases e:i=n+1
  ·rw[e];exact List.prefix_refl _
  ·have ih:=RY l tick i n (by omega);rw[Cj.eq_2];split
   ·exact ih
   ·split
    ·exact ih.trans (List.prefix_append _ _)
    ·exact ih
theorem zb(l:List Ent)(tick:Int):Is mx 56 [.sl (l.map Ae),iI tick] (.fn 92 [] [.elt [.sl (l.map Ae)] 0,.elt [iI tick] 0]):=by refine MX F56 ?_;exact eS trivial
theorem II{mv:List Nat}{l:List (Nat×Blk)}(h:Sj mv l=true){q:Nat}(hq:q<5000)(b:Blk):Be l ((q,b)::l):=OV (mv:=mv) (U3 h) _ fun m c hm=>by grind[L7,Aa]
theorem Vd{P:Program}{GG:List (Nat×List I)}{q:Nat}{b:Blk}{mk:List (Nat×Blk)}{get:St->Option (FuncId×List D)}{E0:Env}{mj:List (Nat×Blk)}{d:Option Nat}{K:St->Prop}{y:FuncId}{xs:List I}{mv:List Nat}{r0:I}(hy:MC P GG y (xs.map .i) mj mv (fun r s=>r=.i r0/\s=mk))(hd:∀s,d=some s->s<999)
  (ki:get ⟨E0,(q,b)::mj⟩=some (y,xs.map .i))(hj:Sj mv mj=true)(hk:Sj mv mk=true)(hn:mk.map (·.1)=mj.map (·.1))(hV:okV mv=true)(ho:TA [(q,b)]=true)(ks:List Nat){E:List (Nat×D)}(hE:Ei E0 ks=E)(hl:(E.all fun p=>Oe [(q,b)] p.2.nms)=true)
  (k:K (putO ⟨.l E,(q,b)::mk⟩ d (.i r0))):Ah P GG get ⟨E0,(q,b)::mj⟩ d K:=TD (own:=[(q,b)]) hy hd ki hj hk hn hV ho ks hE hl k
theorem zc(l:List Ent)(tick:Int)(hl:l.length<=1073741824)(hA:∀i,i<l.length->(l.getD i default).kind=3->(l.getD i default).tick<=tick->Is mx 42 [.agg (Ap (Bs l tick i)),.agg (AF (l.getD i default).change)] (KK (Cu (Bs l tick i) (l.getD i default).change))):
  Hv Tryz.prog (Mi mx) 92 [.elt [.sl (l.map Ae)] 0,.elt [iI tick] 0] ((Cj l tick l.length).map eCC):=by
 intro y m mv N go hV hm hN hgo qh hy;rw[Zes]at hN qh;have hk:∀k,Sj mv (m k)=true:=fun k=>(hm k).1
 have g1:∀k q,q<5000->Aa (m k) q=none:=fun k q hq=>L7 (hk k) hq
 have g2:∀k q b,q<5000->Sk q b (m k)=m k:=fun k q b hq=>NR (hk k) hq b
 have g3:∀k q,q<5000->B6 (m k) q=m k:=fun k q hq=>NS (hk k) hq
 have g8:∀k q b,q<5000->B7 (m k) q b=m k:=fun k q b hq=>RP fun p hp=>by grind[PK]
 have g4:∀k,Be (m k) (m k)=True:=fun k=>Za8 (L8 (hk k))
 have g5:∀k,PW (m k) (m k)=true:=fun k=>EH (hk k)
 refine MX F92 ?_ (hpin:=NT (hk 0))
 (repeat' first|simp(disch:=omega)only[go_sem,simprocAttr,Ze1,Ze5,g1]|fail)
 refine A4 [0,2,4,9,10] (by simp only[V0,JK,reduceIte,Nat.reduceEqDiff];rfl) (fun i:Nat=>[(11,.i (iI i))]) (fun i=>(4,.cells ((Ap (Bs l tick i)).map .i))::m (Cj l tick i).length)
  (fun i=>i<=l.length/\(Cj l tick i).length<=N/\((Cj l tick i).length=N->N=(Cj l tick l.length).length)) (fun i=>l.length-i) 0 ⟨by omega,by simp[Cj],fun h=>by
   by_cases jn:N<(Cj l tick l.length).length
   ·have:=(qh jn).1;simp[Cj]at h;omega
   ·omega⟩ ?_ ?_
 ·have g6:=II (hk 0) (q:=4) (by decide) (.cells ((Ap BD).map .i));have g7:=E4 (k:=4) (b:=.cells ((Ap BD).map .i)) (g5 0);simp[V0,H0,JJ,Ref.nm,Cj,Bs,Ap]at g6 g7⊢;exact⟨g6,g7⟩
 rintro i ⟨hi,hc1,hc2⟩;have vz:=(RY l tick i l.length hi).length_le;by_cases ja:i<l.length
 ·have jq:=Cj.eq_2 l tick i;have xd:=Bs.eq_2 l tick i;by_cases qf:(l.getD i default).kind=3
  ·by_cases ht:tick<(l.getD i default).tick
   ·rw[Zaa (.inr ht)]at jq xd
    (repeat' first|simp(disch:=omega)only[go_sem,simprocAttr,BV ja,AN,Za8 qf,Za8 ht,Zaj,Za3,Za1,Za2,g1,g2,g3]|refine Ac ?_|fail)
    exact⟨i+1,by rw[jq];exact⟨by omega,hc1,hc2⟩,by omega,rfl,⟨by rw[xd],by rw[jq];exact II (hk _) (by decide) _⟩,by first|rfl|exact E4 (g5 _)|exact⟨rfl,E4 (g5 _)⟩⟩
   ·rw[Zac (by rintro(q|q);exact q qf;exact ht q)]at jq xd;have hA':=hA i ja qf (by omega);rw[Bw]at hA';have hpl2:=(RY l tick (i+1) l.length (by omega)).length_le;have hpp:=RY l tick (i+1) l.length (by omega);generalize Cu (Bs l tick i) (l.getD i default).change=r at jq xd hA';obtain⟨d,e⟩:=r;simp only[KK]at hA' jq xd;by_cases he:e=0
    ·subst he;rw[Zaa rfl]at jq xd;have hx:((Cj l tick l.length).map eCC).getD (Cj l tick i).length []=eCC ((l.getD i default).change,d):=by rw[jq]at hpp;obtain⟨r,hr⟩:=hpp;grind
     have je:(Cj l tick (i+1)).length=(Cj l tick i).length+1:=by grind
     have hcN:(Cj l tick i).length<N:=by omega
     have y1:=hy _ hcN;rw[hx]at y1;simp only[eCC,Bw]at y1;generalize (Cj l tick i).length=k at y1 hcN je vz hc1 hc2
     (repeat' first|simp(disch:=omega)only[go_sem,simprocAttr,BV ja,AN,Za8 qf,Za9 ht,Zaj,Za3,Za1,Za2,g1,g2,g3,g8]|refine Sx.s ?_ ?_<;>try(intro h;have h':=h;try simp only[HB]at h';try rewrite [h];try simp only[h])|refine Ab (hA') ?_|refine Ac ?_|fail)
     refine Vd (mj:=m k) (mk:=m (k+1)) y1 (fun s e=>by cases e;decide) (by simp only[DF,EA,go_sem,reduceCtorEq,Nat.reduceEqDiff,Ze1,Ze5,Zc1,Zft]) (hk _) (hk _) ((hm _).2.trans (hm _).2.symm) hV rfl [0,2,4,9,10,11] (by simp only[V0,JK,reduceIte,Nat.reduceEqDiff];rfl) (by simp only[go_sem,Zct,Zcw]) ?_;cases hgk:go k
     ·(repeat' first|simp(disch:=omega)only[go_sem,simprocAttr]|fail)
      have hkN:k+1=N:=by grind
      rw[hkN];exact JB (own:=[(4,_)]) (hk N) rfl ⟨rfl,rfl⟩
     ·(repeat' first|simp(disch:=omega)only[go_sem,simprocAttr,Zft]|fail)
      refine⟨i+1,⟨by omega,by rw[je];omega,fun h=>?_⟩,by omega,rfl,⟨by rw[xd],by rw[je];exact II (hk _) (by decide) _⟩,by first|rfl|exact E4 (g5 _)|exact⟨rfl,E4 (g5 _)⟩⟩;rcases Zgz N (Cj l tick l.length).length with q|q
      ·have h2:=(qh q).2;have h3:N-1=k:=by omega
       rw[h3,hgk]at h2;cases h2
      ·omega
    ·rw[Zac he]at jq xd;refine AU (cj hA' (cj (BV ja) (cj @AN (cj qf (cj ht (cj he (cj g1 (cj g2 g3)))))))) ?_;exact⟨i+1,by rw[jq];exact⟨by omega,hc1,hc2⟩,by omega,rfl,⟨by rw[xd],by rw[jq];exact II (hk _) (by decide) _⟩,by first|rfl|exact E4 (g5 _)|exact⟨rfl,E4 (g5 _)⟩⟩
  ·rw[Zaa (.inl qf)]at jq xd;refine A8 (cj (BV ja) (cj @AN (cj qf (cj g1 (cj g2 g3))))) ?_;exact⟨i+1,by rw[jq];exact⟨by omega,hc1,hc2⟩,by omega,rfl,⟨by rw[xd],by rw[jq];exact II (hk _) (by decide) _⟩,by first|rfl|exact E4 (g5 _)|exact⟨rfl,E4 (g5 _)⟩⟩
 ·have e:i=l.length:=by omega
  subst e;have:(Cj l tick l.length).length=N:=by omega
  refine FU (Hi ja) ?_;rw[this];exact JB (own:=[(4,_)]) (hk N) rfl ⟨rfl,rfl⟩
theorem bS(l:List Ent)(tick:Int)(hl:l.length<=1073741824)(hA:∀i,i<l.length->(l.getD i default).kind=3->(l.getD i default).tick<=tick->Is mx 42 [.agg (Ap (Bs l tick i)),.agg (AF (l.getD i default).change)] (KK (Cu (Bs l tick i) (l.getD i default).change))):
  Is mx 22 [.sl (l.map Ae),iI tick] (.agg (Ap (atR l tick))):=by
 have u1:=zb (mx:=mx) l tick;have hs:=zc (mx:=mx) l tick hl hA;have hlast:atR l tick=Md (Cj l tick l.length):=(bR l tick l.length).symm;rw[hlast];generalize Cj l tick l.length=xs at hs;refine MX F22 ?_;refine EV u1 ?_;have hx:∀j,j<xs.length->(xs.map eCC).getD j []=eCC (xs.getD j default):=fun j hj=>by grind
 have jn:∀j,j<xs.length->Md (xs.take (j+1))=(xs.getD j default).2:=fun j hj=>by rw[BM hj,bQ]
 refine OU (gf:=92) rfl (by kernel_rfl) hs [(4,5004)] [.any,.any,.any,.any,.ref (.loc 5004 0),.any,.any,.any,.any,.any,.any,.any,.any,.any] (fun j=>[(5004,.cells ((Ap (Md (xs.take j))).map .i))]) [] xs.length .none
  ⟨by simp,fun _=>by simp,fun h=>absurd rfl h⟩ rfl (fun j hj=>⟨rfl,rfl,rfl,rfl⟩) rfl (by simp[Hw,Aj,Cv,I8,OF,IM,sw]) rfl (by simp[IL,KL,I8,IM,sw,Be,Aa,Ap,Md]) (fun j hj=>⟨by rw[hx j hj];rfl,?_⟩) ?_
 ·rw[hx j hj,ite_self,jn j hj];unfold eCC;simp only[EG,DK,Nat.reduceAdd];refine Man (cj @D1.eq_1 @fi.eq_1) ?_
  all_goals intros
  all_goals(refine⟨rfl,[],?_⟩;simp(disch:=omega)only[go_sem])
 ·refine⟨by simp[IL,KL,IM,sw,A7,ren,Aa],by simp[IL,KL,IM,sw,ren,Aa],rfl,?_⟩;show E3 0 _ .normal _;rw[Zgd]
  (repeat' first|simp(disch:=omega)only[go_sem,simprocAttr,IL,KL,I8,IM,sw,A7,ren,Ze1,Ze5]|refine Sz.s ?_|fail)
  all_goals trace_state
end
section
theorem Ve{P:Program}{GG:List (Nat×List I)}{f:FuncId}{nm k:Nat}{os:List O}{st:St}{d:Option Nat}{K:St->Prop}{ds:List D}{sto:List (Nat×Blk)}{mv:List Nat}{R:D->List (Nat×Blk)->Prop}(h:MC P GG f (.ref (.sl nm k 0 0)::ds) sto mv R)(wy:os.map (AZ GG st)=ds)(jl:(Aa st.sto nm).isSome=true)(h1:Be sto st.sto)
  (h2:(PW sto sto&&((.ref (.sl nm k 0 0)::ds).all fun x=>Oe sto x.nms)&&(mv.all fun m=>Nat.blt m 5000||Nat.ble 5500 m))=true)(hk:∀r sto',R r sto'->((A7 (d.getD 999) sto').map (·.1)).all (fun nm=>(Aa sto nm).isSome||((Aa st.sto nm).isNone&&Nat.blt nm 5000))=true/\
   (sto.map (·.1)).all (fun nm=>(Aa sto' nm).isNone||ren (d.getD 999) nm==nm)=true/\K (putO (Ds st sto sto' mv (d.getD 999)) d (CW (d.getD 999) r))):Ah P GG (Ok GG f nm k os) st d K:=by
 subst wy;rw[Zbz,Zbz]at h2;unfold Ah;refine⟨[],?_⟩;have e:Ok GG f nm k os (frzNs [] st)=some (f,.ref (.sl nm k 0 0)::os.map (AZ GG st)):=Zaa jl;rw[e];refine .inl ⟨sto,mv,R,h,h1,h2.1.1,h2.1.2,h2.2,fun r s hr=>?_⟩;obtain⟨k1,k2,k3⟩:=hk r s hr;rw[Zcu]at k1 k2;refine⟨fun nm hm=>?_,fun nm hm hs=>?_,k3⟩
 ·have:=k1 nm hm;rw[Zcb,Zbz]at this;rcases this with e|⟨e1,e2⟩
  ·exact .inl e
  ·exact .inr ⟨by show Aa st.sto nm=none;simpa using e1,by simpa using e2⟩
 ·have:=k2 nm hm;rw[Zcb]at this;rcases this with e|e
  ·cases hg:Aa s nm<;>simp[hg]at e hs
  ·simpa using e
end
section
def CL(t:List Tbl):Cat:=⟨t,[],[],[]⟩
theorem zd{i:Nat}(h:i<3):[[I.sl []],[I.sl []],[I.sl []]].getD i []=[I.sl []]:=by
 have:i=0\/i=1\/i=2:=by omega
 rcases this with rfl|rfl|rfl<;>rfl
theorem ze(t:List Tbl):Is mx 118 [.agg (Ap (CL t))] (iI 0):=by
 refine MX Yw ?_;refine Jf @CL.eq_1 ?_;refine lT [3,18,19] (fun i:Nat=>[(20,.i (iI i))]) (fun _=>[(11,.map [.g,.s,.i .i64] [])]) (fun i=>i<=3) (fun i=>3-i) 0 ?_;intro i hi;by_cases ja:i<3
 ·have h3:((i:Int)<((0:Nat):Int)+1+1+1)=True:=Za8 (by omega);have h4:((i:Int)<3)=True:=Za8 (by omega);refine FU (cj h4 (zd ja)) ?_;refine lT [3,4,5,18,19,20,25,26] (fun _:Unit=>[(27,.i (iI 0))]) (fun _=>[(11,.map [.g,.s,.i .i64] [])]) (fun _=>True) (fun _=>0) () ?_;rintro _ _;refine eS ?_;exact⟨i+1,by omega,by omega,rfl⟩
 ·have h3:((i:Int)<((0:Nat):Int)+1+1+1)=False:=Za9 (by omega);have h4:((i:Int)<3)=False:=Za9 (by omega);exact FU h4 trivial
theorem zf(t:List Tbl):Is mx 167 [.agg (Ap (CL t))] (.map []):=by
 refine MX Yt ?_
 (repeat' first|simp(disch:=omega)only[go_sem,simprocAttr,CL,Ze5]|fail)
 refine A4 [3,11,12] (by simp only[V0,JK,reduceIte,Nat.reduceEqDiff];rfl) (fun _:Unit=>[(13,.i (iI 0))]) (fun _=>[(3,.cells [.ref (.mp 9)]),(9,.gmap [.s] 0 [])]) (fun _=>True) (fun _=>0) () trivial (by simp[V0,H0,JJ,Ref.nm,Oe];exact fun x hx=>absurd hx (by simp[Blk.nms])) ?_;rintro _ _;refine TF ?_;refine lT [3,34] (fun _:Unit=>[]) (fun _=>[(34,.iter none []),(3,.cells [.i (.map [])])]) (fun _=>True) (fun _=>0) () ?_;rintro _ _;refine Od ?_;refine Ih (l:=([]:List Unit)) (f:=fun _=>default) (fun _=>?_) (fun q hq=>absurd hq (by simp));exact eS trivial
theorem zg(m:List (I×I)):Is mx 169 [.map m] (.fn 222 [] [.elt [.map m] 0]):=by refine MX Yz ?_;exact eS trivial
theorem zh:Hv Tryz.prog (Mi mx) 222 [.elt [.map []] 0] []:=by
 intro y m mv N go hV hm hN hgo qh hy;have hk:∀k,Sj mv (m k)=true:=fun k=>(hm k).1
 have g1:∀k q,q<5000->Aa (m k) q=none:=fun k q hq=>L7 (hk k) hq
 have g2:∀k q b,q<5000->Sk q b (m k)=m k:=fun k q b hq=>NR (hk k) hq b
 have g3:∀k q,q<5000->B6 (m k) q=m k:=fun k q hq=>NS (hk k) hq
 have hN0:N=0:=by simpa using hN
 subst hN0;refine MX Yu ?_ (hpin:=NT (hk 0));refine Jf g1 ?_;refine A4 [0,5] (by simp only[V0,JK,reduceIte,Nat.reduceEqDiff];rfl) (fun _:Unit=>[]) (fun _=>(5,.iter none [])::m 0) (fun _=>True) (fun _=>0) () trivial ?_ ?_
 ·have g6:=II (hk 0) (q:=5) (by decide) (.iter none []);have g7:=E4 (k:=5) (b:=.iter none []) (EH (hk 0));simp[V0,H0,JJ,Ref.nm]at g6 g7⊢;exact⟨g6,g7⟩
 ·rintro _ _;refine Od ?_;refine Ih (l:=([]:List Unit)) (f:=fun _=>default) (fun _=>?_) (fun q hq=>absurd hq (by simp));refine eS ?_;exact JB (own:=[(5,_)]) (hk 0) rfl ⟨rfl,rfl⟩
theorem zj(gf:Nat)(caps:List I)(xs:List AQ)(ku:Ck Tryz.prog gf=true)(hs:Hv Tryz.prog (Mi mx) gf caps (xs.map fun e=>[.str e]))(hl:xs.length<=1000000):
  MC Tryz.prog (Mi mx) 258 [.ref (.sl 5500 1 0 0),.i (.fn gf [] caps)] [(5500,.rows 9 1 [])] [5500]
   (fun r s=>r=.ref (.sl 5500 1 0 xs.length)/\s=[(5500,.rows 9 1 (xs.map fun s=>[.str s]))]):=by
 refine MX Yv ?_
 (repeat' first|simp(disch:=omega)only[go_sem,simprocAttr]|fail)
 have hx:∀j,j<xs.length->(xs.map fun e=>[I.str e]).getD j []=[.str (xs.getD j default)]:=fun j hj=>by rw[Zdx,Zd5,Zd2 hj,AK hj];rfl
 refine OU (gf:=gf) rfl ku hs [(2,5002)] [.any,.any,.ref (.loc 5002 0),.any,.any,.any,.any,.any,.any,.any,.any,.any,.any] (fun j=>[(5002,.cells [.ref (.sl 5500 1 0 j)]),(5500,.rows 9 1 ((xs.take j).map fun s=>[.str s]))]) [5500] xs.length .none
  ⟨by simp,fun _=>by simp,fun h=>absurd rfl h⟩ rfl (fun j hj=>⟨rfl,rfl,rfl,rfl⟩) rfl (by simp[Hw,Aj,Cv,I8,OF,IM,sw]) rfl (by simp[IL,KL,I8,OF,IM,sw,Be,Aa]) (fun j hj=>⟨by rw[hx j hj];rfl,?_⟩) ?_
 ·have v7:=HT (f:=fun s:AQ=>[I.str s]) (k:=1) (fun _=>rfl) (fun _=>rfl) (xs.getD j default);rw[hx j hj,ite_self];have hT:(xs.take (j+1)).map (fun s=>[I.str s])=(xs.take j).map (fun s=>[I.str s])++[[.str (xs.getD j default)]]:=by rw[BM hj,Zez];rfl
  have qr:(xs.take j).length=j:=by simp;omega
  generalize xs.take j=acc at hT qr;have kc:List.take j (acc.map fun s=>[I.str s])=acc.map fun s=>[.str s]:=Zgf (by simp[qr])
  simp only[EG,DK,Nat.reduceAdd]
  (repeat' first|simp(disch:=omega)only[go_sem,simprocAttr,D1,fi,v7.1,v7.2,Zg6,qr,kc]|(refine And.intro ?_ ?_;focus omega))
  all_goals(refine⟨rfl,[],?_⟩;simp(disch:=omega)only[go_sem,Nat.reduceEqDiff];first|rw[hT]|exact⟨rfl,by rw[hT]⟩)
 ·refine⟨by simp[IL,KL,I8,OF,IM,sw,A7,ren,Aa],by simp[IL,KL,I8,OF,IM,sw,ren,Aa],rfl,?_⟩;show E3 0 _ .normal _
  (repeat' first|simp(disch:=omega)only[go_sem,simprocAttr,IL,KL,I8,OF,IM,sw,A7,ren]|fail)
  rw[Zgd];refine Dv [(5500,5500)] ?_;simp[VL]
theorem zk(nm:Nat)(hn:nm<5000)(gf:Nat)(caps:List I)(xs:List AQ)(ku:Ck Tryz.prog gf=true)(hs:Hv Tryz.prog (Mi mx) gf caps (xs.map fun e=>[.str e]))(hl:xs.length<=1000000):
  MC Tryz.prog (Mi mx) 258 [.ref (.sl nm 1 0 0),.i (.fn gf [] caps)] [(nm,.rows 9 1 [])] [nm]
   (fun r s=>r=.ref (.sl nm 1 0 xs.length)/\s=[(nm,.rows 9 1 (xs.map fun s=>[.str s]))]):=by
 have e1:KN [(5500,nm)] 5500=nm:=by simp[KN,sw]
 have h:=(MC.as [(5500,nm)] (zj (mx:=mx) gf caps xs ku hs hl)).mono (R':=fun r s=>r=.ref (.sl nm 1 0 xs.length)/\s=[(nm,.rows 9 1 (xs.map fun s=>[.str s]))]) (by
  rintro r s ⟨h1,h2⟩;have k:=DX (f:=IM [(5500,nm)]) (g:=KN [(5500,nm)]) (BQ _) r;have k2:=E2 (f:=IM [(5500,nm)]) (g:=KN [(5500,nm)]) (BQ _) s;rw[h1]at k;rw[h2]at k2;refine⟨?_,?_⟩
  ·rw[<-k];simp only[I8,OF,e1]
  ·rw[<-k2];simp only[IL,KL,e1])
 simp only[Ze1,Ze5,I8,OF,IL,KL,e1]at h;exact h
theorem zl(gf:Nat)(caps:List I)(xs:List AQ)(ku:Ck Tryz.prog gf=true)(hs:Hv Tryz.prog (Mi mx) gf caps (xs.map fun e=>[.str e]))(hl:xs.length<=1000000):
  MC Tryz.prog (Mi mx) 220 [.i (.fn gf [] caps)] [] [] (fun r s=>r=.ref (.sl 6000 1 0 xs.length)/\s=[(6000,.rows 9 1 (xs.map fun s=>[.str s]))]):=by
 have m1:=(zk (mx:=mx) 2004 (by decide) gf caps xs ku hs hl).arrIn [];refine MX Yq ?_;refine Od ?_;refine Ve m1 rfl rfl (by simp[Be,Aa]) (by simp[PW,Oe,Blk.nms,D.nms,Ref.nm,Aa]) (fun r sto' hR=>?_);obtain⟨rfl,rfl⟩:=hR;refine Od ?_;refine Dv [(2004,6000)] ?_;simp[VL]
theorem zm(gf:Nat)(caps:List I)(xs:List AQ)(ku:Ck Tryz.prog gf=true)(hs:Hv Tryz.prog (Mi mx) gf caps (xs.map fun e=>[.str e]))(hl:xs.length<=1000000):
  Is mx 168 [.fn gf [] caps] (.sl ((xs.mergeSort fun x y=>decide (x<=y)).map fun s=>[.str s])):=by
 have m1:=zl (mx:=mx) gf caps xs ku hs hl;have m2:=QW (mx:=mx) 5 9 xs (by decide) (by omega);have qr:(xs.mergeSort fun x y=>decide (x<=y)).length=xs.length:=(Zfr _ _).length_eq;refine MX Yx ?_
 (repeat' first|simp(disch:=omega)only[go_sem,simprocAttr]|(first|refine D2 (m1) ?_ (fun r sto' hR=>?_)|refine Dg (m1) ?_ (fun r sto' hR=>?_);(focus(first|rfl|(simp only[go_sem,simprocAttr];done)));first|(obtain⟨rfl,rfl⟩:=hR)|(obtain⟨_,(rfl|rfl),rfl,rfl⟩:=hR))|(first|refine D2 (m2) ?_ (fun r sto' hR=>?_)|refine Dg (m2) ?_ (fun r sto' hR=>?_);(focus(first|rfl|(simp only[go_sem,simprocAttr];done)));first|(obtain⟨rfl,rfl⟩:=hR)|(obtain⟨_,(rfl|rfl),rfl,rfl⟩:=hR))|refine Sz.s ?_|fail)
 rw[Zaa (by rw[qr];exact Zgu _),Zgf (by rw[Zes,qr];exact Zgu _)];exact⟨rfl,rfl⟩
theorem zn(t:List Tbl):Is mx 120 [.agg (Ap (CL t))] .nilsl:=by have d1:=zf (mx:=mx) t;have d2:=zg (mx:=mx) [];have d3:=zm (mx:=mx) 222 [.elt [.map []] 0] [] (by kernel_rfl) zh (by simp);simp only[List.mergeSort_nil,Ze5]at d3;refine MX Yp ?_;refine EV (cj d1 (cj d2 d3)) ?_;refine lT [3,11,12] (fun _:Unit=>[(2,.i .nilsl),(13,.i (iI 0))]) (fun _=>[]) (fun _=>True) (fun _=>0) () ?_;rintro _ _;exact eS trivial
end
section
theorem bT:∀(l:List Fac) (m:List (AQ×Int)) (s:AQ),(Al (Ej l m) s).getD 0=(Al m s).getD 0+CZ l s
 |[],m,s=>by simp[Ej,CZ]
 |f::r,m,s=>by rw[Ej,bT r,QN,CZ];grind
theorem bU:∀(l:List Fac) (m:List (AQ×Int)) (s:AQ),s∈(Ej l m).map (·.1)↔s∈m.map (·.1)\/∃f∈l,f.name=s
 |[],m,s=>by simp[Ej]
 |f::r,m,s=>by rw[Ej,bU r,Kl];grind
theorem bV:∀(l:List Fac) (m:List (AQ×Int)),(m.map (·.1)).Nodup->((Ej l m).map (·.1)).Nodup
 |[],m,h=>h
 |f::r,m,h=>by refine bV r _ ?_;rw[Kl];grind
def Me(a b:AQ):Prop:=Op.bytesLess a b=true
theorem zo:SLt Me:=⟨PG,RI⟩
theorem zp{l:List AQ}(h:l.Nodup):(Cr l).Pairwise Me:=by
 have h1:=TT l;have h2:(Cr l).Nodup:=(Zfr l _).nodup_iff.2 h;refine(List.pairwise_and_iff.2 ⟨h1,h2⟩).imp fun{a b} ⟨h3,h4⟩=>?_
 rcases UU a b with q|q|q
 ·exact q
 ·exact absurd q h4
 ·rw[PE,Za0]at q;exact absurd q (List.not_lt.2 h3)
theorem bW(s:AQ):BY [] s=[s]:=by rfl
theorem bY(a:AQ)(r:List AQ)(s:AQ):BY (a::r) s=if Op.bytesLess a s=true then a::BY r s else if a=s then a::r else s::a::r:=by unfold BY HL;rw[Zf7];grind
theorem N2(s x:AQ):∀l:List AQ,x∈BY l s↔x=s\/x∈l
 |[]=>by simp[bW]
 |a::r=>by have ih:=N2 s x r;grind[bY]
theorem bZ(s:AQ):∀l:List AQ,l.Pairwise Me->(BY l s).Pairwise Me
 |[],_=>by rw[bW];simp
 |a::r,h=>by
  obtain⟨h1,h2⟩:=Zfy.1 h;have ih:=bZ s r h2;rw[bY];split
  ·rename_i hl;refine Zfy.2 ⟨fun x hx=>?_,ih⟩;rcases(N2 s x r).1 hx with e|e
   ·rw[e];exact hl
   ·exact h1 x e
  ·rename_i hl;split
   ·exact h
   ·rename_i jg;have hs:Me s a:=by
     rcases UU a s with q|q|q
     ·exact absurd q hl
     ·exact absurd q jg
     ·exact q
    refine Zfy.2 ⟨fun x hx=>?_,h⟩;rcases Zfb.1 hx with e|e
    ·rw[e];exact hs
    ·exact RI _ _ _ hs (h1 x e)
theorem b8:∀(l:List Fac) (out:List AQ),out.Pairwise Me->(D6 out l).Pairwise Me
 |[],_,h=>h
 |f::r,out,h=>b8 r _ (bZ f.name out h)
theorem cd:∀(l:List Fac) (out:List AQ) (x:AQ),x∈D6 out l↔x∈out\/∃f∈l,f.name=x
 |[],out,x=>by simp[D6]
 |f::r,out,x=>by rw[D6,cd r,N2];grind
theorem zq(l:List Fac):Cr ((Ej l []).map (·.1))=D6 [] l:=by
 refine KD zo (zp (bV l [] (by simp))) (b8 l [] List.Pairwise.nil) fun x=>?_
 have h:=(Zfr ((Ej l []).map (·.1)) (fun x y=>decide (x<=y))).mem_iff (a:=x);unfold Cr;simp[bU,cd]
theorem zt(n:Int):(!decide (Cg n<=1152921504606846976)||FE n)=FE n:=by
 cases h:FE n
 ·have:Cg n<=1152921504606846976:=by unfold FE at h;simp only[Za4]at h;unfold Cg;split<;>omega
  grind
 ·simp
theorem ce(l:List Fac):∀(ns:List AQ) (u:List Fac),Ga (Ej l []) ns u=FI l ns u
 |[],u=>by simp only[Ga,FI];grind
 |s::r,u=>by
  have hg:(Al (Ej l []) s).getD 0=CZ l s:=by rw[bT];simp[Al]
  simp only[Ga,FI,Jq,hg,zt,ce l r];grind
theorem cg(l:List Fac):HI l=Ix l:=by unfold HI Ix;rw[ce,zq]
theorem ci:∀(u:List Fac) (p:Option AQ),uc p (C0 u)=uc p u
 |[],_=>rfl
 |f::r,p=>by have ih:=ci r (some f.name);unfold C0 at ih⊢;simp only[Ze1,uc,ih];grind
theorem zu(u:List Fac):Bx (C0 u)=Bx u:=by unfold Bx;rw[ci];simp[C0]
theorem zv(a b:List Fac):D7 a b 1=Fe a b:=by unfold D7 Fe;simp[cg]
theorem zw(a b:List Fac):D7 a b (-1)=G1 a b:=by
 unfold D7 G1 Fe;rw[cg,zu];have:(b.map fun f:Fac=>(⟨f.name,-1*f.exp⟩:Fac))=C0 b:=Ze0 fun f _=>by simp
 grind
theorem cm(a b:Xpr):Km a b=Ff a b:=by
 have hw:(a.win==b.win)=(a.win.kind==b.win.kind&&a.win.size==b.win.size):=by rw[Zb2];cases a.win;cases b.win;simp
 have hv:(a.val==b.val)=Dw a.val b.val:=by rw[sU,Zb2];simp
 unfold Km Ff;grind
theorem zx(w:Win):O4 w=Pt w:=by unfold O4 Pt;rw[Zb2];split<;>simp<;>grind
theorem zy(x:Xpr)(i:Bool):(In x i&&LD x)=Gh x i:=by
 unfold In LD Gh;rw[cm];by_cases h1:x.kind=1
 ·simp only[h1,Zad,QS,Ps,F7,Rm]
 ·by_cases h2:x.kind=2
  ·simp[h2,F7,Np,G4,Zbx]
  ·by_cases h3:x.kind=3
   ·simp[h3,F7,Np,G4,Zbx]
   ·by_cases h4:x.kind=4
    ·simp[h4,F7,Np,G4,Zbx]
    ·by_cases h5:x.kind=5
     ·have hm:O3 x.op=Jr x.op:=by
       unfold O3 Jr;by_cases q:x.op=Jk
       ·rw[Zaa q,Zac (by rw[q];decide),Zaa q]
       all_goals grind
      have hl:O2 x.op=if Jr x.op<=1 then Jr x.op else 1:=by unfold O2 Jr;grind
      simp only[h5,QT,Pu,F7,G4,zx,<-hl,hm];grind
     ·by_cases h6:x.kind=6
      ·simp[h6,F7,Kt,Zby]
      ·by_cases h7:x.kind=7
       ·simp[h7,F7,Kt,Zby]
       ·have hb:(x.kind=8\/x.kind=9)->Ff x (F7 x)=(Kt x&&decide (x.op=[])):=fun h=>by
         have:F7 x=.mk x.kind [] [] [] FB [] 0 Fb []:=by unfold F7;grind
         rw[this];simp only[Kt,Ff,Xpr.kind,Xpr.op,Xpr.name,Xpr.table,Xpr.val,Xpr.unit,Xpr.param,Xpr.win];grind
        grind
theorem Vf(l:List Xpr)(i:Bool):formRs l i=l.all fun x=>Fg x i:=by
 induction l with
 |nil=>rfl
 |cons x r ih=>simp[formRs,ih]
theorem zz{a:Xpr}{i:Bool}(h:Fg a i=true):Km a Fc=eU a Fc:=by
 have hE:eU a Fc=(!(!Ff a Fc||decide ((a.args.length:Int)≠Fc.args.length))&&eqL eU a.args Fc.args):=by rw[Pf];simp only[Ff,T7 Zi];grind
 rw[cm,hE];cases hf:Ff a Fc
 ·rfl
 ·have hk:a.kind=1:=by simp only[Ff,Zbz,Za0]at hf;have:Fc.kind=1:=rfl;grind
  rw[Pv]at h;simp only[Zbz,Za0]at h;have hl:=h.1.2;rw[hk]at hl;have hl0:a.args=[]:=by have:Gg 1=0:=rfl;rw[this]at hl;exact Zeo.1 (by omega)
  rw[hl0];rfl
theorem zA:∀(m:Nat) (x:Xpr) (i:Bool),Bj x<=m->HG x i=Fg x i:=by
 intro m
 induction m with
 |zero=>intro x _ h;have:=E8 x;omega
 |succ m ih=>
  intro x i hm;have j0:=D3 x;have jz:properXs x.args (i||decide (x.kind=5))=formRs x.args (EN x i):=by
   rw[QU,Vf];unfold EN;rw[Zb2,Zcu,Zcu];have key:∀y∈x.args,HG y (i||decide (x.kind=5))=Fg y (i||decide (x.kind=5)):=fun y hy=>by obtain⟨k,hk,rfl⟩:=Zeh hy;exact ih _ _ (by have:=GW x.args k hk;have:=E7 x.args (k+1);omega)
   exact⟨fun h y hy=>by rw[<-key y hy];exact h y hy,fun h y hy=>by rw[key y hy];exact h y hy⟩
  rw[LF,Pv,jz];have hN:=zy x i;have hM:Jj x.kind=Gg x.kind:=rfl;rw[hN,hM];cases hn:Gh x i&&decide ((x.args.length:Int)=Gg x.kind)
  ·rfl
  ·cases hA:formRs x.args (EN x i)
   ·rfl
   ·simp only[Zce];unfold Nq;by_cases h5:x.kind=5
    ·by_cases hc:x.op=HF
     ·simp only[Zbz,Za0]at hn;have hl:=hn.2;have h0:0<x.args.length:=by rw[h5]at hl;have:Gg 5=2:=rfl;omega
      rw[Vf,Zcu]at hA;rw[zz (hA _ (At h0))];simp[h5,hc]
     ·simp[h5,hc]
    ·simp[h5]
theorem cn(x:Xpr):Io x=Fh x:=by unfold Io Fh;rw[zA _ x false (Zgu _)];omega
theorem Vg{l:List AQ}{x:AQ}(h:Bm l x=true):x∈l:=by unfold Bm at h;grind
theorem co(a b:Typ):F4 a b=Kv a b:=by
 unfold F4 Kv Ku;by_cases h1:a.kind≠b.kind\/a.of≠b.of
 ·rw[Zaa h1];simp[h1]
 ·rw[Zac h1,Zac h1];by_cases h2:a.unit=b.unit
  ·have:a=b:=by cases a;cases b;simp at h1 h2;simp[h1,h2]
   subst this;simp
  ·simp[h2]
theorem zB{op:AQ}(h:Bm Ij op=true)(a b:Typ):Nk op a b=Nr op a b:=by
 have hm:=Vg h;unfold Nk Nr;by_cases hb:b.kind≠1
 ·rw[Zaa hb,Zaa hb]
 ·rw[Zac hb,Zac hb];simp only[Ij,Zfb,Zfw,Zay]at hm;cases hn:CS a<;>by_cases h4:a.kind=4<;>rcases hm with e|e|e|e|e|e|e|e|e|e<;>subst e<;>
   simp[Bm,Uo,Up,ZQ,Ni,Jk,GX,Rc,Re,HF,Pk,Ub,Uc,h4]
theorem zC{op:AQ}(h:Bm Jg op=true)(a:Typ):Nl op a=unR op a:=by have hm:=Vg h;unfold Nl unR;simp only[Jg,Zfb,Zfw,Zay]at hm;cases hn:CS a<;>by_cases h1:a.kind=1<;>rcases hm with e|e|e<;>subst e<;>simp[Nj,Ud,Pl,h1]
theorem zD{op:AQ}(h:Bm Ik op=true)(a b:Typ):EL op a b=Nt op a b:=by
 have hm:=Vg h;have hk:(CS a&&CS b)=true->max a.kind b.kind=if a.kind=2/\b.kind=2 then 2 else 3:=fun q=>by simp only[Zbz,CS,Zcb,Zas]at q;omega
 unfold EL Nt;simp only[zv,zw,Ns,Ur,Us,Pw,Rq,Uq,sOr];simp only[Ik,Zfb,Zfw,Zay]at hm;grind
theorem zF{x:Xpr}{i:Bool}(h:Fg x i=true):Gh x i=true/\formRs x.args (EN x i)=true:=by rw[Pv]at h;grind
theorem cq{c:Cat}{ent entR:AQ}{tO:Option Tbl}{tR:Tbl}{x:Xpr}{i:Bool}(l:List Typ)(h:Gh x i=true)(k9:(i=true/\tO=some tR)\/(i=false/\entR=ent)):HM c ent tO x l=opR c entR tR x l:=by
 have hk:=ZY h;unfold Gh at h;unfold HM opR;by_cases h1:x.kind=1
 ·simp[h1]
 rw[Zac h1]at h;by_cases h2:x.kind=2
 ·rw[Zaa h2,Zbz]at h;rcases k9 with⟨_,e⟩|⟨e,_⟩
  ·simp[h2,e]
  ·rw[e]at h;simp at h
 rw[Zac h2]at h;by_cases h3:x.kind=3
 ·rw[Zaa (.inl h3),Zbz]at h;rcases k9 with⟨e,_⟩|⟨_,e⟩
  ·rw[e]at h;simp at h
  ·simp[h3,e]
 by_cases h4:x.kind=4
 ·simp[h4]
 rw[Zac (by omega)]at h;by_cases h5:x.kind=5
 ·rw[Zaa h5,Zbz]at h;have ha:=h.2;unfold Pu at ha;simp only[Zbz]at ha;simp only[h5,Int.reduceEq,Zad,Zag];exact zB ha.1.1.1.1.1 _ _
 rw[Zac h5]at h;by_cases h6:x.kind=6
 ·rw[Zaa h6,Zbz]at h;simp only[h6,Int.reduceEq,Zad,Zag];exact zC h.2 _
 rw[Zac h6]at h;by_cases h7:x.kind=7
 ·rw[Zaa h7,Zbz]at h;simp only[h7,Int.reduceEq,Zad,Zag];exact zD h.2 _ _
 by_cases h8:x.kind=8
 ·simp[h8,co]
 ·have h9:x.kind=9:=by omega
  simp[h9,co]
theorem zG(c:Cat):∀(m:Nat) (x:Xpr) (i:Bool) (ent entR:AQ) (tO:Option Tbl) (tR:Tbl),Bj x<=m->Fg x i=true->((i=true/\tO=some tR)\/(i=false/\entR=ent))->DL c ent tO x=Dy c entR tR x:=by
 intro m
 induction m with
 |zero=>intro x _ _ _ _ _ h;have:=E8 x;omega
 |succ m ih=>
  intro x i ent entR tO tR hm hf k9;have j0:=D3 x;obtain⟨hn,ha⟩:=zF hf;rw[Vf,Zcu]at ha;have hl:∀(ent entR:AQ) (tO:Option Tbl) (tR:Tbl),((EN x i=true/\tO=some tR)\/(EN x i=false/\entR=ent))->∀l:List Xpr,(∀y∈l,y∈x.args)->inferXs c ent tO l=inferRs c entR tR l:=by
   intro ent entR tO tR hr l
   induction l with
   |nil=>intro _;rfl
   |cons y r ihl=>
    intro hy;have hy0:=hy y Zfd;have hsy:Bj y<=m:=by obtain⟨k,hk,rfl⟩:=Zeh hy0;have:=GW x.args k hk;have:=E7 x.args (k+1);omega
    rw[inferXs,inferRs,ih y _ ent entR tO tR hsy (ha y hy0) hr,ihl fun z hz=>hy z (Zfc _ hz)];split
    ·rfl
    ·cases inferRs c entR tR r<;>rfl
  rw[Rf,Rr];by_cases h5:x.kind=5
  ·have hi:i=false:=by unfold Gh at hn;rw[Zac (by omega),Zac (by omega),Zac (by omega),Zaa h5,Zbz]at hn;simpa using hn.1
   have he:entR=ent:=by
    rcases k9 with⟨e,_⟩|⟨_,e⟩
    ·rw[hi]at e;cases e
    ·exact e
   subst he;unfold inT Js Kw Iz HN DO;simp only[h5,Zad];cases qt:c.tables.find? (fun t=>decide (t.name=x.table))with
   |none=>simp
   |some t=>
    simp only;by_cases hte:t.entity≠entR
    ·simp[hte]
    ·rw[Zac hte,Zac hte];simp only[Zaj,Za3,Zag];rw[hl entR [] (some t) t (.inl ⟨by unfold EN;simp[h5],rfl⟩) x.args fun _ h=>h];cases inferRs c [] t x.args with
     |error e=>rfl
     |ok l=>exact cq l hn k9
  ·unfold inT Js Kw Iz;simp only[h5,Zag,Zaj,Za3];have hia:EN x i=i:=by unfold EN;simp[h5]
   rw[hl ent entR tO tR (by rw[hia];exact k9) x.args fun _ h=>h];cases inferRs c entR tR x.args with
   |error e=>rfl
   |ok l=>exact cq l hn k9
theorem zH(c:Cat)(ent:AQ)(x:Xpr):G0 c ent x=EO c ent x:=by
 unfold G0 EO;rw[cn];by_cases h:Fh x≠0
 ·rw[Zaa h,Zaa h]
 ·rw[Zac h,Zac h];exact zG c _ x false ent ent none Bk (Zgu _) (ZZ (by omega)) (.inr ⟨rfl,rfl⟩)
theorem zI(c:Cat)(f:Ftr):Rh c f=Dz c f:=by
 unfold Rh Dz;have:∀a b:Typ,(F4 a b).2=Ku a b:=fun a b=>by unfold F4 Ku;grind
 rw[zH,this,G4,G4,Rm]
end
section
theorem cr:∀(l:List Ftr) (out:List AQ) (x:AQ),x∈Gk l out↔x∈out\/∃f∈l,f.name=x
 |[],out,x=>by simp[Gk]
 |f::r,out,x=>by have h:=cr r (BY out f.name) x;unfold Gk at h⊢;grind[N2]
theorem cu(c:Cat)(x:AQ):x∈AW c↔∃f∈c.features,f.name=x:=by unfold AW;rw[cr];simp
theorem cv{l:List Ftr}{x:AQ}:(BL l x).isSome=true↔∃f∈l,f.name=x:=by unfold BL;simp
theorem zJ{c:Cat}{a b:AQ}(h:b∈FK c a):b∈AW c:=by unfold FK at h;grind[cu,cv]
theorem PM{α:Type}[Inhabited α]{l:List α}{x:α}(h:x∈l):∃k,k<l.length/\l.getD k default=x:=by obtain⟨k,hk,e⟩:=Zeh h;exact⟨k,hk,by rw[AK hk];exact e⟩
theorem Vh{c:Cat}{i k:Nat}(hi:i<(AW c).length):k∈(VI c (AW c)).getD i []↔k<(AW c).length/\(AW c).getD k default∈FK c ((AW c).getD i default):=by
 have e:(VI c (AW c)).getD i []=LU (AW c) (FK c ((AW c).getD i default)):=by unfold VI;grind
 rw[e];unfold LU Bm;simp
def Ev(E:AQ->AQ->Prop):Nat->AQ->AQ->Prop
 |0,a,b=>E a b
 |n+1,a,b=>∃m,E a m/\Ev E n m b
def N3(c:Cat)(a b:AQ):Prop:=b∈FK c a
theorem cw{c:Cat}{j:Nat}(hj:j<(AW c).length):∀(n i:Nat),i<(AW c).length->(A2 (VI c (AW c)) j).getD i 0<=n->n<1000->∃n,Ev (N3 c) n ((AW c).getD i default) ((AW c).getD j default)
 |0,i,hi,h,_=>by have:=(Nz (VI c (AW c)) j i (by rw[Kz];unfold VI;simpa using hi)).1;omega
 |n+1,i,hi,h,h9=>by
  have hw:=(Nz (VI c (AW c)) j i (by rw[Kz];unfold VI;simpa using hi)).2;rcases hw with hw|⟨t,ht,hv⟩
  ·omega
  ·obtain⟨h1,h2⟩:=(Vh hi).1 ht;unfold eX at hv;split at hv
   ·rename_i e;subst e;exact⟨0,h2⟩
   ·obtain⟨k,hk⟩:=cw hj n t h1 (by omega) (by omega);exact⟨k+1,_,h2,hk⟩
theorem cx(to:List (List Nat)):∀n,(Ch to n).1<0->∀i,i<n->1000<=(A2 to i).getD i 0
 |0,_,i,hi=>by omega
 |n+1,h,i,hi=>by
  have hb:=Ry to n;simp only[Ch]at h;split at h
  ·simp only at h;omega
  ·rename_i jn;have h2:(Ch to n).2=1000:=by
    rcases hb with⟨_,e⟩|⟨k,e,_⟩
    ·exact e
    ·omega
   by_cases e:i=n
   ·subst e;omega
   ·exact cx to n h i (by omega)
theorem zK{c:Cat}(h:G6 c≠[]):∃a∈AW c,∃n,Ev (N3 c) n a a:=by
 unfold G6 at h;rw[Zaj,aq]at h;rcases Ry (VI c (AW c)) (AW c).length with⟨e,_⟩|⟨i,h1,h2,h3,h4⟩
 all_goals grind[cw]
end
section
abbrev SM:=List (AQ×Bool)
def VJ(m:SM):List (I×I):=m.map fun p=>(.str p.1,.bool p.2)
def inM(m:SM)(s:AQ):Bool:=(Al m s).getD false
theorem RZ(m:SM)(s:AQ):CF (VJ m) (.str s) (.bool false) false=.bool (inM m s):=MY (eK:=I.str) (f:=I.bool) Jd m s false
theorem PN(m:SM)(s:AQ):DV (VJ m) (.str s) (.bool true)=VJ (AM m s true):=MW (eK:=I.str) (f:=I.bool) Jd m s true
theorem cz(m:SM):(∀e∈VJ m,Ay [.s] e.1=true)=True:=Za8 fun e he=>by obtain⟨p,_,rfl⟩:=Zfh.1 he;rfl
mutual
def Da:Xpr->SM×SM->SM×SM
 |.mk k _ n t _ _ _ _ a,acc=>dirMs a (if k=3\/k=4 then AM acc.1 n true else acc.1,if k=5 then AM acc.2 t true else acc.2)
def dirMs:List Xpr->SM×SM->SM×SM
 |[],acc=>acc
 |x::r,acc=>dirMs r (Da x acc)
end
def eZ(x:Xpr)(acc:SM×SM):SM×SM:=(if x.kind=3\/x.kind=4 then AM acc.1 x.name true else acc.1,if x.kind=5 then AM acc.2 x.table true else acc.2)
theorem zL(x:Xpr)(acc:SM×SM):Da x acc=dirMs x.args (eZ x acc):=by cases x;rfl
theorem zM(l:List Xpr)(i:Nat)(h:i<l.length)(acc:SM×SM):dirMs (l.take (i+1)) acc=Da (l.getD i default) (dirMs (l.take i) acc):=by
 induction l generalizing i acc with
 |nil=>simp at h
 |cons a r ih=>
  cases i with
  |zero=>simp[dirMs]
  |succ i=>grind[dirMs]
theorem zN:∀(m:Nat) (x:Xpr) (acc:SM×SM),Bj x<=m->bX x<=1073741824->MC Tryz.prog (Mi mx) 217 [.i (.agg (eE x)),.ref (.mp 5000),.ref (.mp 5001)] [(5000,.map [.s] (VJ acc.1)),(5001,.map [.s] (VJ acc.2))] []
  (fun r s=>r=.i (.tup [])/\s=[(5000,.map [.s] (VJ (Da x acc).1)),(5001,.map [.s] (VJ (Da x acc).2))]):=by
 intro m
 induction m with
 |zero=>intro x acc h;have:=E8 x;omega
 |succ m ih=>
  intro x acc hm hb;have j0:=D3 x;have hla:=LC x;rw[zL];refine MX nL ?_;refine Man @HD ?_;refine Dl.cutS [1,2,3] (by simp only[V0,JK,reduceIte,Nat.reduceEqDiff];rfl) [] [(5000,.map [.s] (VJ (eZ x acc).1)),(5001,.map [.s] (VJ (eZ x acc).2))] True ?_ (fun _=>?_)
  ·by_cases h3:x.kind=3
   ·have e:eZ x acc=(AM acc.1 x.name true,acc.2):=by simp[eZ,h3]
    rw[e];exact FU (cj h3 @PN) trivial
   ·by_cases h4:x.kind=4
    ·have e:eZ x acc=(AM acc.1 x.name true,acc.2):=by simp[eZ,h4]
     rw[e];exact FU (cj h4 @PN) trivial
    ·by_cases h5:x.kind=5
     ·have e:eZ x acc=(acc.1,AM acc.2 x.table true):=by simp[eZ,h5]
      rw[e];exact FU (cj h5 @PN) trivial
     ·have e:eZ x acc=acc:=by simp[eZ,h3,h4,h5]
      rw[e];exact FU (cj h3 (cj h4 h5)) trivial
  ·generalize eZ x acc=a0;refine Od ?_;refine lT [1,2,22,23] (fun i:Nat=>[(24,.i (iI i))]) (fun i=>[(5000,.map [.s] (VJ (dirMs (x.args.take i) a0).1)),(5001,.map [.s] (VJ (dirMs (x.args.take i) a0).2))]) (fun i=>i<=x.args.length) (fun i=>x.args.length-i) 0 ?_;intro i hi;by_cases ja:i<x.args.length
   ·have jf:=zM x.args i ja a0;have i1:=ih (x.args.getD i default) (dirMs (x.args.take i) a0) (by have:=GW x.args i ja;have:=E7 x.args (i+1);rw[AK ja];omega) (by have:=Fa (At ja);omega);rw[HD]at i1
    (repeat' first|simp(disch:=omega)only[go_sem,simprocAttr,BV ja,HD]|(first|refine D2 (i1) ?_ (fun r sto' hR=>?_)|refine Dg (i1) ?_ (fun r sto' hR=>?_);(focus(first|rfl|(simp only[go_sem,simprocAttr,BV ja,HD];done)));first|(obtain⟨rfl,rfl⟩:=hR)|(obtain⟨_,(rfl|rfl),rfl,rfl⟩:=hR))|refine Ac ?_|fail)
    exact⟨i+1,by omega,by omega,rfl,by rw[jf],by rw[jf]⟩
   ·have e:i=x.args.length:=by omega
    subst e;refine FU (Hi ja) ?_;rw[Zgd];refine Dv [(5000,5000),(5001,5001)] ?_;simp[VL]
end
section
def Ew(ks:List AQ):Type:={p:List AQ//∃rest,(p++rest).Perm ks}
def Gw(ks:List AQ):Ew ks:=⟨[],ks,by simp⟩
def N4(ks:List AQ)(i:Ew ks)(x:List I)(j:Ew ks):Prop:=∃s,x=[.str s]/\j.1=i.1++[s]
def IJ(ks:List AQ)(i:Ew ks):Prop:=i.1.Perm ks
theorem Ew.len{ks:List AQ}(i:Ew ks):i.1.length<=ks.length:=by obtain⟨p,rest,h⟩:=i;have:=h.length_eq;grind
theorem Ew.ext{ks:List AQ}{i j:Ew ks}(h:i.1=j.1):i=j:=Subtype.ext h
theorem zO(gf:Nat)(caps:List I)(ks:List AQ)(ku:Ck Tryz.prog gf=true)(hs:Ja Tryz.prog (Mi mx) gf caps (Ew ks) (Gw ks) (N4 ks) (IJ ks))(hl:ks.length<=1000000):
  MC Tryz.prog (Mi mx) 258 [.ref (.sl 5500 1 0 0),.i (.fn gf [] caps)] [(5500,.rows 9 1 [])] [5500]
   (fun r s=>∃p:List AQ,p.Perm ks/\r=.ref (.sl 5500 1 0 p.length)/\s=[(5500,.rows 9 1 (p.map fun s=>[.str s]))]):=by
 refine MX Yv ?_
 (repeat' first|simp(disch:=omega)only[go_sem,simprocAttr]|fail)
 refine lR (gf:=gf) rfl ku hs [(2,5002)] [.any,.any,.ref (.loc 5002 0),.any,.any,.any,.any,.any,.any,.any,.any,.any,.any] (fun i=>[(5002,.cells [.ref (.sl 5500 1 0 i.1.length)]),(5500,.rows 9 1 (i.1.map fun s=>[.str s]))]) [5500] (fun _=>.none)
  rfl rfl (fun i=>⟨rfl,rfl,rfl,rfl⟩) rfl (by simp[Hw,Aj,Cv,I8,OF,IM,sw]) rfl (by simp[IL,KL,I8,OF,IM,sw,Be,Aa,Gw]) (fun i x j hx _=>?_) (fun i hi=>?_)
 ·obtain⟨s,rfl,hj⟩:=hx;have wl:=i.len;have v7:=HT (f:=fun s:AQ=>[I.str s]) (k:=1) (fun _=>rfl) (fun _=>rfl) s;rw[hj];refine⟨rfl,?_⟩;generalize i.1=acc at wl;have kc:List.take acc.length (acc.map fun s=>[I.str s])=acc.map fun s=>[.str s]:=Zgf (by simp)
  have ji:(acc.map fun s:AQ=>[I.str s]).length=acc.length:=by simp
  simp only[EG,DK,Nat.reduceAdd]
  (repeat' first|simp(disch:=omega)only[go_sem,simprocAttr,D1,fi,v7.1,v7.2,Zg6,kc,ji]|(refine And.intro ?_ ?_;focus omega))
  all_goals(refine⟨rfl,[],?_⟩;simp(disch:=omega)only[go_sem,Nat.reduceEqDiff];try simp)
 ·have hp:i.1.Perm ks:=by
   rcases hi with hi|hi
   ·exact absurd rfl hi
   ·exact hi
  refine⟨by simp[IL,KL,I8,OF,IM,sw,A7,ren,Aa],by simp[IL,KL,I8,OF,IM,sw,ren,Aa],rfl,?_⟩;show E3 0 _ .normal _
  (repeat' first|simp(disch:=omega)only[go_sem,simprocAttr,IL,KL,I8,OF,IM,sw,A7,ren]|fail)
  refine Dv [(5500,5500)] ?_;exact⟨i.1,hp,by simp[VL]⟩
theorem zP(nm:Nat)(hn:nm<5000)(gf:Nat)(caps:List I)(ks:List AQ)(ku:Ck Tryz.prog gf=true)(hs:Ja Tryz.prog (Mi mx) gf caps (Ew ks) (Gw ks) (N4 ks) (IJ ks))(hl:ks.length<=1000000):
  MC Tryz.prog (Mi mx) 258 [.ref (.sl nm 1 0 0),.i (.fn gf [] caps)] [(nm,.rows 9 1 [])] [nm]
   (fun r s=>∃p:List AQ,p.Perm ks/\r=.ref (.sl nm 1 0 p.length)/\s=[(nm,.rows 9 1 (p.map fun s=>[.str s]))]):=by
 have e1:KN [(5500,nm)] 5500=nm:=by rfl
 have h:=(MC.as [(5500,nm)] (zO (mx:=mx) gf caps ks ku hs hl)).mono (R':=fun r s=>∃p:List AQ,p.Perm ks/\r=.ref (.sl nm 1 0 p.length)/\s=[(nm,.rows 9 1 (p.map fun s=>[.str s]))]) (by
  rintro r s ⟨p,hp,h1,h2⟩;have k:=DX (f:=IM [(5500,nm)]) (g:=KN [(5500,nm)]) (BQ _) r;have k2:=E2 (f:=IM [(5500,nm)]) (g:=KN [(5500,nm)]) (BQ _) s;rw[h1]at k;rw[h2]at k2;refine⟨p,hp,?_,?_⟩
  ·rw[<-k];simp only[I8,OF,e1]
  ·rw[<-k2];simp only[IL,KL,e1])
 simp only[Ze1,Ze5,I8,OF,IL,KL,e1]at h;exact h
theorem zQ(gf:Nat)(caps:List I)(ks:List AQ)(ku:Ck Tryz.prog gf=true)(hs:Ja Tryz.prog (Mi mx) gf caps (Ew ks) (Gw ks) (N4 ks) (IJ ks))(hl:ks.length<=1000000):
  MC Tryz.prog (Mi mx) 220 [.i (.fn gf [] caps)] [] [] (fun r s=>∃p:List AQ,p.Perm ks/\r=.ref (.sl 6000 1 0 p.length)/\s=[(6000,.rows 9 1 (p.map fun s=>[.str s]))]):=by
 have m1:=(zP (mx:=mx) 2004 (by decide) gf caps ks ku hs hl).arrIn [];refine MX Yq ?_;refine Od ?_;refine Ve m1 rfl rfl (by simp[Be,Aa]) (by simp[PW,Oe,Blk.nms,D.nms,Ref.nm,Aa]) (fun r sto' hR=>?_);obtain⟨p,hp,rfl,rfl⟩:=hR;refine Od ?_;refine Dv [(2004,6000)] ?_;exact⟨p,hp,by simp[VL]⟩
theorem cA(gf:Nat)(caps:List I)(ks:List AQ)(ku:Ck Tryz.prog gf=true)(hs:Ja Tryz.prog (Mi mx) gf caps (Ew ks) (Gw ks) (N4 ks) (IJ ks))(hl:ks.length<=1000000):
  Is mx 168 [.fn gf [] caps] (.sl ((Cr ks).map Fd)):=by
 have m1:=zQ (mx:=mx) gf caps ks ku hs hl;refine MX Yx ?_;refine Od ?_;refine Dg m1 (by simp only[go_sem,reduceCtorEq]) (fun r sto' hR=>?_);obtain⟨p,hp,rfl,rfl⟩:=hR;have vz:=hp.length_eq;have m2:=QW (mx:=mx) 5 9 p (by decide) (by omega);have qr:(p.mergeSort fun x y=>decide (x<=y)).length=p.length:=(Zfr _ _).length_eq;have hso:Cr p=Cr ks:=YZ hp;rw[<-hso];unfold Cr
 (repeat' first|simp(disch:=omega)only[go_sem,simprocAttr]|(first|refine D2 (m2) ?_ (fun r sto' hR=>?_)|refine Dg (m2) ?_ (fun r sto' hR=>?_);(focus(first|rfl|(simp only[go_sem,simprocAttr];done)));first|(obtain⟨rfl,rfl⟩:=hR)|(obtain⟨_,(rfl|rfl),rfl,rfl⟩:=hR))|refine Sz.s ?_|fail)
 rw[Zaa (by rw[qr];exact Zgu _),Zgf (by rw[Zes,qr];exact Zgu _)];exact⟨rfl,rfl⟩
structure KeyG{α:Type}(l:List (AQ×α)) where
 acc:List AQ
 rest:List (AQ×α)
 cur:Option (I×I)
 ok:(acc++rest.map (·.1)).Perm (l.map (·.1))
def KeyG.idx{α:Type}{l:List (AQ×α)}(g:KeyG l):Ew (l.map (·.1)):=⟨g.acc,g.rest.map (·.1),g.ok⟩
theorem KeyG.next{α:Type}{l:List (AQ×α)}(g:KeyG l){q:Nat}(h:q<g.rest.length):((g.acc++[(g.rest[q]).1])++(g.rest.eraseIdx q).map (·.1)).Perm (l.map (·.1)):=by refine List.Perm.trans ?_ g.ok;rw[Zc0];refine Zcr _ ?_;exact(Pa h).map (·.1)
theorem zR(l:List (AQ×Bool)):Ja Tryz.prog (Mi mx) 260 [.elt [.map (l.map fun p=>(I.str p.1,I.bool p.2))] 0] (Ew (l.map (·.1))) (Gw _) (N4 _) (IJ _):=by
 intro y m mv stop hV h0 hm hy;have hk:∀i,Sj mv (m i)=true:=fun i=>(hm i).1
 have g1:∀i q,q<5000->Aa (m i) q=none:=fun i q hq=>L7 (hk i) hq
 have g2:∀i q b,q<5000->Sk q b (m i)=m i:=fun i q b hq=>NR (hk i) hq b
 have g3:∀i q,q<5000->B6 (m i) q=m i:=fun i q hq=>NS (hk i) hq
 have g8:∀i q b,q<5000->B7 (m i) q b=m i:=fun i q b hq=>RP fun p hp=>by have:=PK (hk i) p hp;omega
 have g5:∀i,PW (m i) (m i)=true:=fun i=>EH (hk i)
 refine MX pc ?_ (hpin:=NT (hk _));refine Jf g1 ?_;refine A4 [0,5] (by simp only[V0,JK,reduceIte,Nat.reduceEqDiff];rfl) (fun _:KeyG l=>[]) (fun g=>(5,.iter g.cur (g.rest.map fun p=>(I.str p.1,I.bool p.2)))::m g.idx) (fun g=>stop g.idx=false) (fun g=>g.rest.length) ⟨[],l,none,by simp⟩ h0 ?_ ?_
 ·have g6:=II (hk (Gw (l.map (·.1)))) (q:=5) (by decide) (.iter none (l.map fun p=>(I.str p.1,I.bool p.2)));have g7:=E4 (k:=5) (b:=.iter none (l.map fun p=>(I.str p.1,I.bool p.2))) (g5 (Gw (l.map (·.1))));have e:(KeyG.idx (⟨[],l,none,by simp⟩:KeyG l))=Gw (l.map (·.1)):=Ew.ext rfl;rw[e];simp[V0,H0,JJ,Ref.nm]at g6 g7⊢;exact⟨g6,g7⟩
 ·rintro g hg
  (repeat' first|simp(disch:=omega)only[go_sem,simprocAttr,g8]|refine Ac ?_|refine Ih (fun hr=>?_) (fun q hq=>?_)|fail)
  ·have ko:IJ _ g.idx:=by have:=g.ok;grind[IJ,KeyG.idx]
   exact JB (own:=[(5,_)]) (hk _) rfl ⟨rfl,g.idx,.inr ko,rfl⟩
  ·let g':KeyG l:=⟨g.acc++[(g.rest[q]).1],g.rest.eraseIdx q,some (I.str (g.rest[q]).1,I.bool (g.rest[q]).2),g.next hq⟩
   have y1:=hy g.idx [.str (g.rest[q]).1] g'.idx ⟨_,rfl,rfl⟩ hg;have ji:g'.rest.length<g.rest.length:=by grind
   generalize ja:g'.idx=i' at y1;generalize hi:g.idx=i at y1;refine Od ?_;refine Vd (mj:=m i) (mk:=m i') y1 (fun s e=>by cases e;decide) (by simp only[DF,EA,go_sem,reduceCtorEq,Nat.reduceEqDiff,Ze1,Ze5,Zc1,Zft]) (hk _) (hk _) ((hm _).2.trans (hm _).2.symm) hV rfl [0,5] (by simp only[V0,JK,reduceIte,Nat.reduceEqDiff];rfl) (by simp only[go_sem,Zct,Zcw]) ?_;cases jf:stop i'
   ·refine Od ?_;refine⟨g',by rw[ja];exact jf,ji,?_⟩;rw[ja];exact⟨⟨rfl,II (hk _) (by decide) _⟩,E4 (g5 _)⟩
   ·refine Od ?_;exact JB (own:=[(5,_)]) (hk _) rfl ⟨rfl,i',.inl jf,rfl⟩
theorem zS(l:List (AQ×Bool)):Is mx 223 [.map (l.map fun p=>(I.str p.1,I.bool p.2))] (.fn 260 [] [.elt [.map (l.map fun p=>(I.str p.1,I.bool p.2))] 0]):=by generalize (l.map fun p=>(I.str p.1,I.bool p.2))=m;refine MX oU ?_;exact eS trivial
theorem zT(l:List (AQ×Bool))(hl:l.length<=1000000):Is mx 168 [.fn 260 [] [.elt [.map (l.map fun p=>(I.str p.1,I.bool p.2))] 0]] (.sl ((Cr (l.map (·.1))).map Fd)):=
 cA _ _ _ (by kernel_rfl) (zR l) (by simpa using hl)
theorem zU(l:List (AQ×(List (AQ×Bool)))):Ja Tryz.prog (Mi mx) 222 [.elt [.map (l.map fun p=>(I.str p.1,I.map (p.2.map fun p=>(I.str p.1,I.bool p.2))))] 0] (Ew (l.map (·.1))) (Gw _) (N4 _) (IJ _):=by
 intro y m mv stop hV h0 hm hy;have hk:∀i,Sj mv (m i)=true:=fun i=>(hm i).1
 have g1:∀i q,q<5000->Aa (m i) q=none:=fun i q hq=>L7 (hk i) hq
 have g2:∀i q b,q<5000->Sk q b (m i)=m i:=fun i q b hq=>NR (hk i) hq b
 have g3:∀i q,q<5000->B6 (m i) q=m i:=fun i q hq=>NS (hk i) hq
 have g8:∀i q b,q<5000->B7 (m i) q b=m i:=fun i q b hq=>RP fun p hp=>by have:=PK (hk i) p hp;omega
 have g5:∀i,PW (m i) (m i)=true:=fun i=>EH (hk i)
 refine MX Yu ?_ (hpin:=NT (hk _));refine Jf g1 ?_;refine A4 [0,5] (by simp only[V0,JK,reduceIte,Nat.reduceEqDiff];rfl) (fun _:KeyG l=>[]) (fun g=>(5,.iter g.cur (g.rest.map fun p=>(I.str p.1,I.map (p.2.map fun p=>(I.str p.1,I.bool p.2)))))::m g.idx) (fun g=>stop g.idx=false) (fun g=>g.rest.length) ⟨[],l,none,by simp⟩ h0 ?_ ?_
 ·have g6:=II (hk (Gw (l.map (·.1)))) (q:=5) (by decide) (.iter none (l.map fun p=>(I.str p.1,I.map (p.2.map fun p=>(I.str p.1,I.bool p.2)))));have g7:=E4 (k:=5) (b:=.iter none (l.map fun p=>(I.str p.1,I.map (p.2.map fun p=>(I.str p.1,I.bool p.2))))) (g5 (Gw (l.map (·.1))));have e:(KeyG.idx (⟨[],l,none,by simp⟩:KeyG l))=Gw (l.map (·.1)):=Ew.ext rfl;rw[e];simp[V0,H0,JJ,Ref.nm]at g6 g7⊢;exact⟨g6,g7⟩
 ·rintro g hg
  (repeat' first|simp(disch:=omega)only[go_sem,simprocAttr,g8]|refine Ac ?_|refine Ih (fun hr=>?_) (fun q hq=>?_)|fail)
  ·have ko:IJ _ g.idx:=by have:=g.ok;grind[IJ,KeyG.idx]
   exact JB (own:=[(5,_)]) (hk _) rfl ⟨rfl,g.idx,.inr ko,rfl⟩
  ·let g':KeyG l:=⟨g.acc++[(g.rest[q]).1],g.rest.eraseIdx q,some (I.str (g.rest[q]).1,I.map ((g.rest[q]).2.map fun p=>(I.str p.1,I.bool p.2))),g.next hq⟩
   have y1:=hy g.idx [.str (g.rest[q]).1] g'.idx ⟨_,rfl,rfl⟩ hg;have ji:g'.rest.length<g.rest.length:=by grind
   generalize ja:g'.idx=i' at y1;generalize hi:g.idx=i at y1;refine Od ?_;refine Vd (mj:=m i) (mk:=m i') y1 (fun s e=>by cases e;decide) (by simp only[DF,EA,go_sem,reduceCtorEq,Nat.reduceEqDiff,Ze1,Ze5,Zc1,Zft]) (hk _) (hk _) ((hm _).2.trans (hm _).2.symm) hV rfl [0,5] (by simp only[V0,JK,reduceIte,Nat.reduceEqDiff];rfl) (by simp only[go_sem,Zct,Zcw]) ?_;cases jf:stop i'
   ·refine Od ?_;refine⟨g',by rw[ja];exact jf,ji,?_⟩;rw[ja];exact⟨⟨rfl,II (hk _) (by decide) _⟩,E4 (g5 _)⟩
   ·refine Od ?_;exact JB (own:=[(5,_)]) (hk _) rfl ⟨rfl,i',.inl jf,rfl⟩
theorem zV(l:List (AQ×(List (AQ×Bool)))):Is mx 169 [.map (l.map fun p=>(I.str p.1,I.map (p.2.map fun p=>(I.str p.1,I.bool p.2))))] (.fn 222 [] [.elt [.map (l.map fun p=>(I.str p.1,I.map (p.2.map fun p=>(I.str p.1,I.bool p.2))))] 0]):=by generalize (l.map fun p=>(I.str p.1,I.map (p.2.map fun p=>(I.str p.1,I.bool p.2))))=m;refine MX Yz ?_;exact eS trivial
theorem zW(l:List (AQ×(List (AQ×Bool))))(hl:l.length<=1000000):Is mx 168 [.fn 222 [] [.elt [.map (l.map fun p=>(I.str p.1,I.map (p.2.map fun p=>(I.str p.1,I.bool p.2))))] 0]] (.sl ((Cr (l.map (·.1))).map Fd)):=
 cA _ _ _ (by kernel_rfl) (zU l) (by simpa using hl)
end
section
abbrev DM:=List (AQ×SM)
def eV(all:DM):List (I×I):=all.map fun p=>(I.str p.1,I.map (p.2.map fun p=>(I.str p.1,I.bool p.2)))
def Gx(all:DM)(f:Ftr):DM:=if(Al all f.name).isSome=true then all else all++[(f.name,(Da f.body ([],[])).1)]
def Cd(l:List Ftr):DM:=l.foldl Gx []
theorem zX{l:List Ftr}{i:Nat}(h:i<l.length):Cd (l.take (i+1))=Gx (Cd (l.take i)) (l.getD i default):=by unfold Cd;rw[BM h,Zds];rfl
theorem zY(all:DM)(s:AQ):GB (eV all) (.str s)=(Al all s).map fun m=>I.map (VJ m):=X6 (eK:=I.str) (f:=fun m:SM=>I.map (VJ m)) Jd all s
theorem cB(all:DM)(s:AQ):CF (eV all) (.str s) .nilmap false=((Al all s).map fun m=>I.map (VJ m)).getD .nilmap:=by unfold CF;rw[zY];rfl
theorem cC(all:DM):(∀e∈eV all,Ay [.s] e.1=true)=True:=Za8 fun e he=>by obtain⟨p,_,rfl⟩:=Zfh.1 he;rfl
@[go_sem] theorem aJr(x:I)(key:D)(z:I)(ok:Bool)(ls:List LK)(d:Nat)(st:St)(K:St->Prop):IX (.i x) key z ok ls d st K=EY (.i x) key z ok ls d st K:=rfl
theorem zZ(all:DM)(s:AQ)(b:Bool):MC Tryz.prog (Mi mx) 219 [.i (.str s),.i (.bool b),.ref (.loc 5000 0)] [(5000,.cells [.i (.map (eV all))])] [] (fun r t=>r=.i (.bool (Al all s).isNone)/\t=[(5000,.cells [.i (.map (eV all))])]):=by
 have kn:=cB all s;have hf:=cC all;refine MX pV ?_;cases ha:Al all s with
 |none=>rw[ha]at kn;simp only[Zhm,Zhg]at kn;refine Man (cj kn hf) ?_;refine Dv [(5000,5000)] ?_;exact⟨rfl,rfl⟩
 |some m=>rw[ha]at kn;simp only[Zhn,Zhh]at kn;refine Man (cj kn hf) ?_;refine Dv [(5000,5000)] ?_;exact⟨rfl,rfl⟩
theorem cD{P:Program}{GG:List (Nat×List I)}{get:St->Option (FuncId×List D)}{f:FuncId}{st:St}{d:Option Nat}{K:St->Prop}{ds:List D}{sto:List (Nat×Blk)}{mv:List Nat}{R:D->List (Nat×Blk)->Prop}(h:MC P GG f ds sto mv R)(ki:get (frzNs [] st)=some (f,ds))(h1:Be sto st.sto)
  (h2:(PW sto sto&&(ds.all fun x=>Oe sto x.nms)&&(mv.all fun m=>Nat.blt m 5000||Nat.ble 5500 m))=true)(hk:∀r sto',R r sto'->((A7 (d.getD 999) sto').map (·.1)).all (fun nm=>(Aa sto nm).isSome||((Aa st.sto nm).isNone&&Nat.blt nm 5000))=true/\
   (sto.map (·.1)).all (fun nm=>(Aa sto' nm).isNone||ren (d.getD 999) nm==nm)=true/\K (putO (Ds st sto sto' mv (d.getD 999)) d (CW (d.getD 999) r))):Ah P GG get st d K:=by
 rw[Zbz,Zbz]at h2;unfold Ah;refine⟨[],?_⟩;rw[ki];refine .inl ⟨sto,mv,R,h,h1,h2.1.1,h2.1.2,h2.2,fun r s hr=>?_⟩;obtain⟨k1,k2,k3⟩:=hk r s hr;rw[Zcu]at k1 k2;refine⟨fun nm hm=>?_,fun nm hm hs=>?_,k3⟩
 ·have:=k1 nm hm;rw[Zcb,Zbz]at this;rcases this with e|⟨e1,e2⟩
  ·exact .inl e
  ·exact .inr ⟨by show Aa st.sto nm=none;simpa using e1,by simpa using e2⟩
 ·have:=k2 nm hm;rw[Zcb]at this;rcases this with e|e
  ·cases hg:Aa s nm<;>simp[hg]at e hs
  ·simpa using e
theorem z6(all:DM)(m:SM)(hm:∀p∈m,(Al all p.1).isSome=true):MC Tryz.prog (Mi mx) 218 [.i (.map (m.map fun p=>(I.str p.1,I.bool p.2))),.fn 219 [] [.ref (.loc 5000 0)]] [(5000,.cells [.i (.map (eV all))])] []
  (fun r t=>r=.i (.tup [])/\t=[(5000,.cells [.i (.map (eV all))])]):=by
 refine MX oT ?_;refine Od ?_;refine lT [0,1,7] (fun _:SM×Option (I×I)=>[]) (fun g=>[(7,.iter g.2 (g.1.map fun p=>(I.str p.1,I.bool p.2))),(5000,.cells [.i (.map (eV all))])]) (fun g=>∀p∈g.1,(Al all p.1).isSome=true) (fun g=>g.1.length) (m,none) ?_;rintro⟨rest,cur⟩ jb;simp only at jb
 (repeat' first|simp(disch:=omega)only[go_sem,simprocAttr]|refine Ac ?_|refine Ih (fun hr=>?_) (fun q hq=>?_)|fail)
 ·refine Dv [(5000,5000)] ?_;simp[VL]
 ·have h1:=zZ (mx:=mx) all (rest[q]).1 (rest[q]).2;have h2:(Al all (rest[q]).1).isNone=false:=by have:=jb _ (Zef hq);simp_all
  rw[h2]at h1;refine cD h1 (by simp only[frzNs,DF,EA,go_sem,reduceCtorEq,Nat.reduceEqDiff,Ze1,Ze5,Zft,Cp.toD]) (by simp[Be,Aa]) (by simp[PW,Oe,Blk.nms,D.nms,Ref.nm,Aa]) (fun r sto' hR=>?_);obtain⟨rfl,rfl⟩:=hR;refine Od ?_;refine⟨(rest.eraseIdx q,some (I.str (rest[q]).1,I.bool (rest[q]).2)),fun p hp=>jb p (Zfk hp),?_,rfl⟩;show(rest.eraseIdx q).length<_;rw[Zep];split<;>omega
theorem z7(all:DM)(m:SM)(hm:∀p∈m,(Al all p.1).isSome=true):MC Tryz.prog (Mi mx) 218 [.i (.map (m.map fun p=>(I.str p.1,I.bool p.2))),.fn 219 [] [.ref (.loc 3 0)]] [(3,.cells [.i (.map (eV all))])] []
  (fun r t=>r=.i (.tup [])/\t=[(3,.cells [.i (.map (eV all))])]):=by
 have e1:KN [(5000,3)] 5000=3:=by rfl
 have h:=(MC.as [(5000,3)] (z6 (mx:=mx) all m hm)).mono (R':=fun r t=>r=.i (.tup [])/\t=[(3,.cells [.i (.map (eV all))])]) (by
  rintro r s ⟨h1,h2⟩;have k:=DX (f:=IM [(5000,3)]) (g:=KN [(5000,3)]) (BQ _) r;have k2:=E2 (f:=IM [(5000,3)]) (g:=KN [(5000,3)]) (BQ _) s;rw[h1]at k;rw[h2]at k2;refine⟨?_,?_⟩
  ·rw[<-k];simp only[I8]
  ·rw[<-k2];simp only[IL,KL,I8,e1,Ze1,Ze5])
 simp only[Ze1,Ze5,I8,mpC,OF,IL,KL,e1]at h;exact h
theorem z8(x:Xpr)(acc:SM×SM)(hb:bX x<=1073741824):MC Tryz.prog (Mi mx) 217 [.i (.agg (eE x)),.ref (.mp 22),.ref (.mp 26)] [(22,.map [.s] (VJ acc.1)),(26,.map [.s] (VJ acc.2))] []
  (fun r s=>r=.i (.tup [])/\s=[(22,.map [.s] (VJ (Da x acc).1)),(26,.map [.s] (VJ (Da x acc).2))]):=by
 have e1:KN [(5000,22),(5001,26)] 5000=22:=by rfl
 have e2:KN [(5000,22),(5001,26)] 5001=26:=by rfl
 have h:=(MC.as [(5000,22),(5001,26)] (zN (mx:=mx) _ x acc (Zgu _) hb)).mono (R':=fun r s=>r=.i (.tup [])/\s=[(22,.map [.s] (VJ (Da x acc).1)),(26,.map [.s] (VJ (Da x acc).2))]) (by
  rintro r s ⟨h1,h2⟩;have k:=DX (f:=IM [(5000,22),(5001,26)]) (g:=KN [(5000,22),(5001,26)]) (BQ _) r;have k2:=E2 (f:=IM [(5000,22),(5001,26)]) (g:=KN [(5000,22),(5001,26)]) (BQ _) s;rw[h1]at k;rw[h2]at k2;refine⟨?_,?_⟩
  ·rw[<-k];simp only[I8]
  ·rw[<-k2];simp only[IL,KL,e1,e2])
 simp only[Ze1,Ze5,I8,OF,IL,KL,e1,e2]at h;exact h
def VM:Nat->DM->List (I×Nat×D)
 |_,[]=>[]
 |k,p::r=>(.str p.1,k,.i (.map (VJ p.2)))::VM (k+1) r
def fg(old:DM)(n:AQ):List (I×Nat×D):=VM 0 old++[(.str n,old.length,.ref (.mp 22))]
theorem cE:∀(a b:DM) (k:Nat),VM k (a++b)=VM k a++VM (k+a.length) b
 |[],b,k=>by simp[VM]
 |p::r,b,k=>by simp only[Zc3,VM,cE r b (k+1)];rw[Zem,show k+1+r.length=k+(r.length+1) by omega]
theorem cF(b:Blk):∀(l:DM) (k:Nat),(VM k l).map (fun e=>(e.1,e.2.1,PZ 22 b e.2.2))=VM k l
 |[],_=>rfl
 |p::r,k=>by simp only[VM,Ze1,cF b r (k+1)];rfl
theorem cG(old:DM)(n:AQ)(m:SM):(fg old n).map (fun e=>(e.1,e.2.1,PZ 22 (.map [.s] (VJ m)) e.2.2))=VM 0 (old++[(n,m)]):=by unfold fg;rw[Zez,cF,cE,Zg8];rfl
theorem cH:∀(l:DM) (k:Nat),(VM k l).flatMap (fun e=>e.2.2.nms)=[]
 |[],_=>rfl
 |p::r,k=>by simp only[VM,Zdp,cH r (k+1)];rfl
theorem R0(old:DM)(n:AQ):(fg old n).flatMap (fun e=>e.2.2.nms)=[22]:=by unfold fg;rw[List.flatMap_append,cH];rfl
theorem cI:∀(l:DM) (k:Nat),(VM k l).map (fun e=>(e.1,H1 e.2.2))=eV l
 |[],_=>rfl
 |p::r,k=>by simp only[VM,Ze1,cI r (k+1)];rfl
theorem cJ:∀(l:DM) (k:Nat),((VM k l).all fun e=>JH e.2.2)=true
 |[],_=>rfl
 |p::r,k=>by simp only[VM,Zct,cJ r (k+1)];rfl
theorem Vi(s:AQ):∀(l:DM) (k:Nat),Ec (VM k l) (.str s)=l.findIdx? (fun p=>decide (p.1=s))
 |[],_=>rfl
 |p::r,k=>by have ih:=Vi s r (k+1);unfold Ec at ih⊢;simp only[VM,Zdn,Jd p.1 s,ih]
theorem cK:∀(l:DM) (k j:Nat),(VM k l)[j]? =(l[j]?).map fun p=>(.str p.1,k+j,.i (.map (VJ p.2)))
 |[],_,_=>by simp[VM]
 |p::r,k,0=>rfl
 |p::r,k,j+1=>by simp only[VM,Zd0,cK r (k+1) j];grind
theorem R1:∀(l:DM) (k:Nat),(VM k l).length=l.length
 |[],_=>rfl
 |p::r,k=>by simp[VM,R1 r (k+1)]
theorem cL{A:DM}{w:AQ}:(A.findIdx? (fun p=>decide (p.1=w))=none/\Al A w=none)\/∃j,∃(hj:j<A.length),A.findIdx? (fun p=>decide (p.1=w))=some j/\Al A w=some A[j].2:=by
 induction A with
 |nil=>exact .inl ⟨rfl,rfl⟩
 |cons p r ih=>
  by_cases e:p.1=w
  ·refine .inr ⟨0,by simp,?_,?_⟩
   ·rw[Zdn];simp[e]
   ·simp[Al,e]
  ·rcases ih with⟨h1,h2⟩|⟨j,hj,h1,h2⟩
   ·refine .inl ⟨?_,?_⟩
    ·rw[Zdn];simp[e,h1]
    ·rw[Al,Zac e,h2]
   ·refine .inr ⟨j+1,by simpa using hj,?_,?_⟩
    ·rw[Zdn];simp[e,h1]
    ·rw[Al,Zac e,h2];simp
theorem aA0(old:DM)(n s:AQ):(Al old s=none/\n≠s/\Ec (fg old n) (.str s)=none/\Fs (fg old n) (.str s)=none)\/((Al old s).isSome=true\/n=s)/\(∃y,Fs (fg old n) (.str s)=some (.i (.map y))\/Fs (fg old n) (.str s)=some (.ref (.mp 22))):=by
 have hi:Ec (fg old n) (.str s)=match old.findIdx? (fun p=>decide (p.1=s))with|some j=>some j|none=>if n=s then some old.length else none:=by
  have h:=Vi s old 0;unfold Ec fg at*;rw[List.findIdx?_append,h,R1];cases old.findIdx? (fun p=>decide (p.1=s))with
  |some j=>rfl
  |none=>simp only[Option.none_or,Zdn,List.findIdx?_nil,Jd n s];simp
 rcases cL (A:=old) (w:=s)with⟨h1,h2⟩|⟨j,hj,h1,h2⟩
 ·rw[h1]at hi;simp only at hi;by_cases e:n=s
  ·rw[Zaa e]at hi;refine .inr ⟨.inr e,[],.inr ?_⟩;unfold Fs;grind[fg,R1]
  ·rw[Zac e]at hi;exact .inl ⟨h2,e,hi,by unfold Fs;rw[hi]⟩
 ·rw[h1]at hi;simp only at hi;refine .inr ⟨.inl (by rw[h2];rfl),VJ old[j].2,.inl ?_⟩;unfold Fs;grind[fg,R1,cK]
theorem R2(a:DM)(n:AQ)(m:SM)(s:AQ):Al (a++[(n,m)]) s=match Al a s with|some v=>some v|none=>if n=s then some m else none:=by
 induction a with
 |nil=>simp[Al]
 |cons p r ih=>simp only[Zc3,Al,ih];grind
end
section
@[go_sem] theorem aJs(nm:Nat)(q:I)(v:D)(ls:List LK)(st:St)(K:St->Prop):Lb (.ref (.mp nm)) (.i q) v ls st K=(Ay ls q=true/\IY (Aa st.sto nm) nm ls q v st K):=rfl
@[go_sem] theorem aJt(ls':List LK)(clk:Nat)(es:List (I×Nat×D))(nm:Nat)(ls:List LK)(q:I)(v:D)(st:St)(K:St->Prop):IY (some (.gmap ls' clk es)) nm ls q v st K=(ls'=ls/\K (st.setB nm (On ls clk es q v))):=rfl
theorem R3{ls:List LK}{clk:Nat}{es:List (I×Nat×D)}{q:I}{v:D}(h:Ec es q=none):On ls clk es q v=.gmap ls (clk+1) (es++[(q,clk,v)]):=by unfold On;rw[h]
abbrev DG:=Option (DM×AQ×SM)
def dB:DG->List (Nat×Blk)
 |none=>[(9,.gmap [.s] 0 []),(3,.cells [.ref (.mp 9)])]
 |some (old,n,m)=>[(22,.map [.s] (VJ m)),(9,.gmap [.s] (old.length+1) (fg old n)),(3,.cells [.ref (.mp 9)])]
def Vj:DG->DM
 |none=>[]
 |some (old,n,m)=>old++[(n,m)]
theorem cM{old:DM}{n s:AQ}{m:SM}(h:(Al old s).isSome=true\/n=s):(Al (Vj (some (old,n,m))) s).isSome=true:=by show(Al (old++[(n,m)]) s).isSome=true;grind[R2]
theorem aA1(q:Nat)(hq:q≠22)(b:Blk)(old:DM)(n:AQ):(fg old n).map (fun e=>(e.1,e.2.1,PZ q b e.2.2))=fg old n:=by
 have h:∀(l:DM) (k:Nat),(VM k l).map (fun e=>(e.1,e.2.1,PZ q b e.2.2))=VM k l:=fun l=>by
  induction l with
  |nil=>intro k;rfl
  |cons p r ih=>intro k;simp only[VM,Ze1,ih (k+1)];rfl
 unfold fg;rw[Zez,h];have:¬(22=q):=fun e=>hq e.symm
 simp[PZ,VP,Ref.nm,this,Cp.toD]
theorem aA2(c:Cat)(hc:AR c<=1073741823)(j8:∀p∈Cd c.features,∀q∈p.2,(Al (Cd c.features) q.1).isSome=true):Is mx 167 [.agg (Ap c)] (.map (eV (Cd c.features))):=by
 have hcb:=BR c;have hlf:=C1 c.features;refine MX Yt ?_
 (repeat' first|simp(disch:=omega)only[go_sem,simprocAttr]|fail)
 refine A4 [3,11,12] (by simp only[V0,JK,reduceIte,Nat.reduceEqDiff];rfl) (fun g:Nat×DG=>[(13,.i (iI g.1))]) (fun g=>dB g.2) (fun g=>g.1<=c.features.length/\Vj g.2=Cd (c.features.take g.1)) (fun g=>c.features.length-g.1) (0,none) ⟨by simp,rfl⟩ (by simp[V0,H0,JJ,Ref.nm,dB,Oe,Blk.nms]) ?_;rintro⟨i,g⟩ ⟨hi,hg⟩;simp only at hi hg;by_cases ja:i<c.features.length
 ·have jf:=zX ja;rw[<-hg]at jf;have hbx:bX (c.features.getD i default).body<=1073741824:=by have:=B4 (b:=Bd) (At ja);have:=G2 (c.features.getD i default);omega
  have d1:=z8 (mx:=mx) (c.features.getD i default).body ([],[]) hbx;rw[HD]at d1;have hsm:VJ []=[]:=rfl;simp only[hsm]at d1;have hn0:∀q:I,Ec [] q=none:=fun _=>rfl
  have htf:(true !=false)=true:=rfl;have hff:(false !=false)=false:=rfl;cases g with
  |none=>
   have hg0:Fs [] (.str (c.features.getD i default).name)=none:=rfl;simp only[dB]
   (repeat' first|simp(disch:=omega)only[go_sem,simprocAttr,BV ja,Ci,hg0,R3 (hn0 _),Zft,htf]|(first|refine D2 (d1) ?_ (fun r sto' hR=>?_)|refine Dg (d1) ?_ (fun r sto' hR=>?_);(focus(first|rfl|(simp only[go_sem,simprocAttr,BV ja,Ci,hg0,R3 (hn0 _),Zft,htf];done)));first|(obtain⟨rfl,rfl⟩:=hR)|(obtain⟨_,(rfl|rfl),rfl,rfl⟩:=hR))|refine Ac ?_|fail)
   refine⟨(i+1,some ([],(c.features.getD i default).name,(Da (c.features.getD i default).body ([],[])).1)),⟨by simp only;omega,?_⟩,by simp only;omega,rfl,?_⟩
   ·simp only;rw[jf];rfl
   ·simp only;simp[Be,Aa,PW,Oe,Blk.nms,D.nms,Ref.nm,fg,VM]
  |some g=>
   obtain⟨old,n,m⟩:=g;simp only[dB];have hz5:=fun b=>aA1 5 (by decide) b old n
   rcases aA0 old n (c.features.getD i default).name with⟨h1,h2,h3,h4⟩|⟨h1,y,h2|h2⟩
   ·have hz:=cG old n m;have hgi:Ec (VM 0 (old++[(n,m)])) (.str (c.features.getD i default).name)=none:=by grind[Vi,cL,R2]
    have w9:VM 0 (old++[(n,m)])++[(I.str (c.features.getD i default).name,old.length+1,D.ref (Ref.mp 22))]=fg (old++[(n,m)]) (c.features.getD i default).name:=by simp[fg]
    (repeat' first|simp(disch:=omega)only[go_sem,simprocAttr,BV ja,Ci,h4,hz5,hz,R3 hgi,w9,Ze1,Ze5,htf]|(first|refine D2 (d1) ?_ (fun r sto' hR=>?_)|refine Dg (d1) ?_ (fun r sto' hR=>?_);(focus(first|rfl|(simp only[go_sem,simprocAttr,BV ja,Ci,h4,hz5,hz,R3 hgi,w9,Ze1,Ze5,htf];done)));first|(obtain⟨rfl,rfl⟩:=hR)|(obtain⟨_,(rfl|rfl),rfl,rfl⟩:=hR))|refine Ac ?_|fail)
    refine⟨(i+1,some (old++[(n,m)],(c.features.getD i default).name,(Da (c.features.getD i default).body ([],[])).1)),⟨by simp only;omega,?_⟩,by simp only;omega,?_,?_⟩
    ·simp only;rw[jf,Gx,Zac (by rw[Vj,R2,h1];simp only[Zac h2];exact Bool.false_ne_true)];rfl
    ·rfl
    ·simp only[Be,Aa,PW,Oe,Blk.nms,R0,Zel,Zem,Zeu];simp[D.nms,Ref.nm]
   ·(repeat' first|simp(disch:=omega)only[go_sem,simprocAttr,BV ja,Ci,h2,hff,hz5]|refine Ac ?_|fail)
    refine⟨(i+1,some (old,n,m)),⟨by simp only;omega,?_⟩,by simp only;omega,rfl,?_⟩
    ·simp only;rw[jf,Gx,Zaa (cM h1)]
    ·simp only[Be,Aa,PW,Oe,Blk.nms,R0];simp[D.nms,Ref.nm]
   ·(repeat' first|simp(disch:=omega)only[go_sem,simprocAttr,BV ja,Ci,h2,hff,hz5]|refine Ac ?_|fail)
    refine⟨(i+1,some (old,n,m)),⟨by simp only;omega,?_⟩,by simp only;omega,rfl,?_⟩
    ·simp only;rw[jf,Gx,Zaa (cM h1)]
    ·simp only[Be,Aa,PW,Oe,Blk.nms,R0];simp[D.nms,Ref.nm]
 ·have wl:i=c.features.length:=by omega
  subst wl;rw[Zgd]at hg;cases g
  case' none=>
   have hd:([]:List (I×I))=eV (Cd c.features):=by rw[<-hg];rfl
   simp only[dB]
   (repeat' first|simp(disch:=omega)only[go_sem,simprocAttr,Hi ja]|refine Ac ?_|fail)
   rw[hd]
  case' some g=>
   obtain⟨old,n,m⟩:=g;have hd:eV (old++[(n,m)])=eV (Cd c.features):=by rw[<-hg];rfl
   simp only[dB]
   (repeat' first|simp(disch:=omega)only[go_sem,simprocAttr,Hi ja,R0,cG,cJ,cI,Zc3,Zft]|refine Ac ?_|fail)
   rw[hd]
  all_goals
   refine lT [3,34] (fun _:DM×Option (I×I)=>[]) (fun g=>[(34,.iter g.2 (eV g.1)),(3,.cells [.i (.map (eV (Cd c.features)))])]) (fun g=>∀p∈g.1,p∈Cd c.features) (fun g=>g.1.length) (Cd c.features,none) ?_ (fun _ h=>h);rintro⟨rest,cur⟩ jb;simp only[eV]at jb⊢
   (repeat' first|simp(disch:=omega)only[go_sem,simprocAttr]|refine Ac ?_|refine Sz.s ?_|refine Ih (fun hr=>?_) (fun q hq=>?_)|fail)
   have h1:=z7 (mx:=mx) (Cd c.features) (rest[q]).2 (j8 _ (jb _ (Zef hq)));simp only[eV]at h1;refine cD h1 (by simp only[frzNs,EX,go_sem,Nat.reduceEqDiff,Ze1,Ze5]) (by simp[Be,Aa]) (by simp[PW,Oe,Blk.nms,D.nms,Cp.nms,Ref.nm,Aa]) (fun r sto' hR=>?_);obtain⟨rfl,rfl⟩:=hR;refine Od ?_;refine⟨(rest.eraseIdx q,some (I.str (rest[q]).1,I.map ((rest[q]).2.map fun p=>(I.str p.1,I.bool p.2)))),fun p hp=>jb p (Zfk hp),?_,rfl⟩;show(rest.eraseIdx q).length<_;rw[Zep];split<;>omega
end
section
theorem cN(l:List AQ)(hl:l.length<=1073741824):MC Tryz.prog (Mi mx) 224 [.i (.sl (l.map Fd))] [] []
  (fun r s=>r=.ref (.sl 6000 1 0 l.length)/\s=[(6000,.rows 9 1 (l.map Fd))]):=by
 refine MX pW ?_;have hr:=A1 (f:=Fd) (k:=1) l (fun _=>rfl) (fun _=>rfl)
 (repeat' first|simp(disch:=omega)only[go_sem,simprocAttr,Zg8]|refine Sx.s ?_ ?_<;>try(intro h;have h':=h;try simp only[HB]at h';try rewrite [h];try simp only[h])|refine Ac ?_|refine QM (fun wq b=>?_) (fun wq=>?_)|fail)
 ·have e:l=[]:=by simpa using wq
  subst e;cases h';refine Dv [(2,6000)] ?_;simp[VL]
 ·refine⟨hr.1,hr.2,by omega,by omega,?_⟩;refine Dv [(5,6000)] ?_;simp[VL]
 ·simp at h
 ·refine⟨hr.1,hr.2,by omega,by omega,?_⟩;refine Dv [(5,6000)] ?_;simp[VL]
end
section
theorem PO{κ α:Type}[DecidableEq κ]:∀(m:List (κ×α)) (k:κ) (v:α),Al m k=none->AM m k v=m++[(k,v)]
 |[],_,_,_=>rfl
 |p::r,k,v,h=>by
  simp only[Al]at h;split at h
  ·cases h
  ·rename_i hn;simp only[AM,Zac hn,PO r k v h,Zc3]
theorem Vk{κ α:Type}[DecidableEq κ]:∀(m:List (κ×α)) (k:κ) (v:α) (j:κ),Al (AM m k v) j=if k=j then some v else Al m j
 |[],k,v,j=>by rfl
 |p::r,k,v,j=>by
  simp only[AM];split
  ·rename_i e;subst e;simp only[Al];split<;>rfl
  ·rename_i hn;simp only[Al,Vk r k v j];grind
theorem aget_mem{κ α:Type}[DecidableEq κ]:∀{m:List (κ×α)} {k:κ} {v:α},Al m k=some v->(k,v)∈m
 |p::r,k,v,h=>by
  simp only[Al]at h;split at h
  ·rename_i e;subst e;cases h;exact Zfd
  ·exact Zfc _ (aget_mem h)
theorem Vl{κ α:Type}[DecidableEq κ]:∀{m:List (κ×α)} {k:κ},k∈m.map (·.1)->(Al m k).isSome=true
 |p::r,k,h=>by
  simp only[Al];split
  ·rfl
  ·rename_i hn;rcases Zfb.1 h with e|e
   ·exact absurd e.symm hn
   ·exact Vl e
theorem Vm{α:Type}[DecidableEq α]:∀{a b:List α},a.Nodup->(∀x∈a,x∈b)->a.length<=b.length
 |[],_,_,_=>Zg9 _
 |x::r,b,h,k=>by have hx:=k x Zfd;have h2:=Zfu.1 h;have:=Vm (a:=r) (b:=b.erase x) h2.2 (fun y hy=>(List.mem_erase_of_ne (fun(e:y=x)=>h2.1 (e▸hy))).2 (k y (Zfc _ hy)));grind
def DT(A:DM)(a b:AQ):Prop:=∃m,Al A a=some m/\inM m b=true
def Fo(m:SM):Prop:=∀p∈m,p.2=true
theorem R4{m:SM}(h:Fo m){s:AQ}:inM m s=true↔s∈m.map (·.1):=by
 unfold inM;constructor
 ·intro q;cases e:Al m s with
  |none=>rw[e]at q;cases q
  |some v=>exact Zfh.2 ⟨_,aget_mem e,rfl⟩
 ·intro q;obtain⟨v,e⟩:=Zhi.1 (Vl q);rw[e];exact h _ (aget_mem e)
theorem R5{m:SM}(h:Fo m){s:AQ}(q:inM m s=false):Al m s=none:=by
 unfold inM at q;cases e:Al m s with
 |none=>rfl
 |some v=>rw[e]at q;have:=h _ (aget_mem e);simp only at this;rw[this]at q;cases q
theorem R6(m:SM)(n s:AQ):inM (AM m n true) s=(decide (n=s)||inM m s):=by grind[inM,Vk]
theorem Vn{E:AQ->AQ->Prop}:∀{n:Nat} {a b c:AQ},Ev E n a b->E b c->Ev E (n+1) a c
 |0,_,b,_,h,k=>⟨b,h,k⟩
 |_+1,_,_,_,⟨m,h1,h2⟩,k=>⟨m,h1,Vn h2 k⟩
structure BI(A:DM)(fr:AQ)(seen:SM)(front:List AQ):Prop where
 cl:∀s,(s=fr\/inM seen s=true)->s∈front\/(¬DT A s fr/\∀t,DT A s t->inM seen t=true)
 wk:∀s∈front,s=fr\/∃n,Ev (DT A) n fr s
 dm:∀s∈front,(Al A s).isSome=true
 nd:(seen.map (·.1)).Nodup
 ks:∀s∈seen.map (·.1),(Al A s).isSome=true
 tr:Fo seen
theorem BI.len{A:DM}{fr:AQ}{seen:SM}{front:List AQ}(h:BI A fr seen front):seen.length<=A.length:=by
 have:=Vm h.nd (b:=A.map (·.1)) (fun x hx=>by obtain⟨v,e⟩:=Zhi.1 (h.ks x hx);exact Zfh.2 ⟨_,aget_mem e,rfl⟩)
 grind
theorem BI.start{A:DM}{fr:AQ}(h:(Al A fr).isSome=true):BI A fr [] [fr] where
 cl:=fun s hs=>by
  rcases hs with e|e
  ·subst e;exact .inl Zfd
  ·cases e
 wk:=fun s hs=>.inl (by simpa using hs)
 dm:=fun s hs=>by
  have:s=fr:=by simpa using hs
  subst this;exact h
 nd:=List.nodup_nil
 ks:=fun s hs=>by simp at hs
 tr:=fun p hp=>by simp at hp
theorem BI.add{A:DM}{fr:AQ}{seen:SM}{front front':List AQ}{cur n:AQ}(h:BI A fr seen front)(hc:cur∈front)(he:DT A cur n)(hn:inM seen n=false)(hd:(Al A n).isSome=true)(hf:∀s,s∈front'↔s∈front\/s=n):BI A fr (AM seen n true) front' where
 cl:=fun s hs=>by
  rw[R6]at hs;by_cases e:n=s
  ·subst e;exact .inl ((hf _).2 (.inr rfl))
  ·rw[Zba e,Zb5]at hs;rcases h.cl s hs with q|⟨q1,q2⟩
   ·exact .inl ((hf s).2 (.inl q))
   ·exact .inr ⟨q1,fun t ht=>by rw[R6,q2 t ht,Zcd]⟩
 wk:=fun s hs=>by
  rcases(hf s).1 hs with q|q
  ·exact h.wk s q
  ·subst q;rcases h.wk cur hc with e|⟨k,hk⟩
   ·subst e;exact .inr ⟨0,he⟩
   ·exact .inr ⟨k+1,Vn hk he⟩
 dm:=fun s hs=>by
  rcases(hf s).1 hs with q|q
  ·exact h.dm s q
  ·subst q;exact hd
 nd:=by
  rw[PO _ _ _ (R5 h.tr hn),Zez,List.nodup_append];refine⟨h.nd,by simp,fun a ha b hb e=>?_⟩;have hb':b=n:=by simpa using hb
  subst hb' e;rw[(R4 h.tr).2 ha]at hn;cases hn
 ks:=fun s hs=>by
  rw[PO _ _ _ (R5 h.tr hn),Zez]at hs;rcases Ze9.1 hs with q|q
  ·exact h.ks s q
  ·have:s=n:=by simpa using q
   subst this;exact hd
 tr:=fun p hp=>by
  rw[PO _ _ _ (R5 h.tr hn)]at hp;rcases Ze9.1 hp with q|q
  ·exact h.tr p q
  ·have:p=(n,true):=by simpa using q
   rw[this]
theorem BI.more{A:DM}{fr:AQ}{seen:SM}{front:List AQ}{n:AQ}(h:BI A fr seen front)(hn:inM seen n=false):(AM seen n true).length=seen.length+1:=by rw[PO _ _ _ (R5 h.tr hn)];simp
theorem BI.done{A:DM}{fr:AQ}{seen:SM}{front front':List AQ}{cur:AQ}(h:BI A fr seen front)(h1:¬DT A cur fr)(h2:∀t,DT A cur t->inM seen t=true)(hf:∀s,s∈front->s∈front'\/s=cur)(hg:∀s,s∈front'->s∈front):BI A fr seen front' where
 cl:=fun s hs=>by
  rcases h.cl s hs with q|q
  all_goals grind
 wk:=fun s hs=>h.wk s (hg s hs)
 dm:=fun s hs=>h.dm s (hg s hs)
 nd:=h.nd
 ks:=h.ks
 tr:=h.tr
theorem BI.found{A:DM}{fr cur:AQ}{seen:SM}{front:List AQ}(h:BI A fr seen front)(hc:cur∈front)(he:DT A cur fr):∃n,Ev (DT A) n fr fr:=by
 rcases h.wk cur hc with e|⟨n,hn⟩
 ·subst e;exact⟨0,he⟩
 ·exact⟨n+1,Vn hn he⟩
theorem BI.none{A:DM}{fr:AQ}{seen:SM}(h:BI A fr seen []):¬∃n,Ev (DT A) n fr fr:=by
 have key:∀n s,(s=fr\/inM seen s=true)->¬Ev (DT A) n s fr:=by
  intro n
  induction n with
  |zero=>
   intro s hs hw;rcases h.cl s hs with q|q
   ·simp at q
   ·exact q.1 hw
  |succ n ih=>
   rintro s hs ⟨m,h1,h2⟩;rcases h.cl s hs with q|q
   ·simp at q
   ·exact ih m (.inr (q.2 m h1)) h2
 rintro⟨n,hn⟩;exact key n fr (.inl rfl) hn
def EU(p:List AQ):AQ:=p.getD (p.length-1) default
theorem aA3(p:List AQ)(n:AQ):EU (p++[n])=n:=by simp[EU]
end
section
def JE(p:List AQ):List I:=[.sl (p.map Fd)]
theorem aA4(p:List AQ):(JE p).length=1:=rfl
theorem aA5(p:List AQ):(JE p).all I.one=true:=rfl
abbrev shD(b:Bool)(ps:List (List AQ)):D:=if b=true then .i (.sl (ps.map JE))else .ref (.sl 7 1 0 ps.length)
abbrev shB(b:Bool)(ps:List (List AQ)):List (Nat×Blk):=if b=true then[]else[(7,.rows 160 1 (ps.map JE))]
theorem aA6(A:DM)(fr:AQ)(hA:A.length<=1000000)(j8:∀p∈A,(Fo p.2)/\p.2.length<=1000000/\∀q∈p.2,(Al A q.1).isSome=true)(hfr:(Al A fr).isSome=true):MC Tryz.prog (Mi mx) 170 [.i (.map (eV A)),.i (.str fr)] [] [] (fun r s=>s=[]/\((r=.i .nilsl/\¬∃n,Ev (DT A) n fr fr)\/∃(x:AQ) (L:List AQ),r=.i (.sl ((x::L).map Fd))/\∃n,Ev (DT A) n fr fr)):=by
 refine MX mz ?_
 (repeat' first|simp(disch:=omega)only[go_sem,simprocAttr]|fail)
 refine A4 [0,1,5] (by simp only[V0,JK,reduceIte,Nat.reduceEqDiff];rfl) (fun g:Bool×SM×List (List AQ)=>[(6,shD g.1 g.2.2)]) (fun g=>(13,.map [.s] (VJ g.2.1))::shB g.1 g.2.2)
  (fun g=>BI A fr g.2.1 (g.2.2.map EU)/\∀p∈g.2.2,p≠[]/\p.length<=g.2.1.length+1/\g.2.2.length<=g.2.1.length+1) (fun g=>2*(A.length-g.2.1.length)+g.2.2.length) (true,[],[[fr]]) ⟨BI.start hfr,by simp⟩ (by simp[V0,H0,JJ,Ref.nm,VJ,JE,shD,shB]) ?_
 rintro⟨fl,seen,paths⟩ ⟨hb,hp⟩;simp only at hb hp⊢;have qy:=hb.len;cases fl
 case' false=>simp only[shD,shB,Zb4,reduceIte]
 case' true=>simp only[shD,shB,reduceIte]
 all_goals
  (repeat' first|simp(disch:=omega)only[go_sem,simprocAttr]|refine Sx.s ?_ ?_<;>try(intro h;have h':=h;try simp only[HB]at h';try rewrite [h];try simp only[h])|refine Ac ?_|fail)
 case' false.refine_1=>have vz:0<paths.length:=by omega
 case' true.refine_1=>have vz:0<paths.length:=by omega
 case' false.refine_2=>have vz:paths=[]:=Zdf (by omega)
 case' true.refine_2=>have vz:paths=[]:=Zdf (by omega)
 case false.refine_2|true.refine_2=>
  subst vz;refine HA ?_;simp only[go_sem];exact .inl hb.none
 all_goals
  refine lT [0,1,5,20,21] (fun g:Nat×SM×List (List AQ)=>[(7,.ref (.sl 7 1 0 g.2.2.length)),(22,.i (iI g.1))]) (fun g=>[(13,.map [.s] (VJ g.2.1)),(7,.rows 160 1 (g.2.2.map JE))]) (fun g=>g.1<=paths.length/\BI A fr g.2.1 ((paths.drop g.1).map EU++g.2.2.map EU)/\(∀p∈g.2.2,p≠[]/\p.length<=g.2.1.length+1)/\g.2.1.length=seen.length+g.2.2.length) (fun g=>paths.length-g.1) (0,seen,[]) ?_ ⟨by simp,by simpa using hb,by simp,by simp⟩;rintro⟨i,seen1,longer⟩ ⟨hi1,k6,vo,hn1⟩;simp only at hi1 k6 vo hn1⊢;have hbl1:=k6.len;by_cases ja:i<paths.length
  ·obtain⟨hp1n,hp1l,hpp⟩:=hp _ (At ja);have ju:0<(paths.getD i default).length:=Zev.2 hp1n;have hcur:EU (paths.getD i default)∈(paths.drop i).map EU++longer.map EU:=Zfa _ (Zfh.2 ⟨_,by rw[Dj ja];exact Zfd,rfl⟩);obtain⟨m,hm⟩:=Zhi.1 (k6.dm _ hcur);obtain⟨hmt,qr,hmr⟩:=j8 _ (aget_mem hm);simp only at hmt qr hmr;have kn:CF (eV A) (.str ((paths.getD i default).getD (((paths.getD i default).length:Int)-1).toNat default)) .nilmap false=.map (VJ m):=by
    rw[cB];unfold EU at hm;have e:(((paths.getD i default).length:Int)-1).toNat=(paths.getD i default).length-1:=by omega
    rw[e,hm];rfl
   (repeat' first|simp(disch:=omega)only[go_sem,simprocAttr,BV ja,JE,kn,cC,cz,RZ]|refine Sx.s ?_ ?_<;>try(intro h;have h':=h;try simp only[HB]at h';try rewrite [h];try simp only[h])|refine Ab (zS m) ?_|refine Ab (zT m qr) ?_|refine Ac ?_|(refine And.intro ?_ ?_;focus omega))
   ·refine HA ?_;simp only[go_sem];obtain⟨x,L,e⟩:=List.exists_cons_of_ne_nil hp1n;rw[e];exact .inr ⟨x,L,rfl,k6.found hcur ⟨m,hm,h'⟩⟩
   generalize hns:Cr (m.map fun x=>x.1)=ns;have kw:∀t,t∈ns↔inM m t=true:=fun t=>by rw[R4 hmt,<-hns];exact(Zfr _ _).mem_iff
   have hnl:ns.length<=1000000:=by rw[<-hns];unfold Cr;rw[(Zfr _ _).length_eq];simpa using qr
   have hNE:¬DT A (EU (paths.getD i default)) fr:=by rintro⟨m2,e1,e2⟩;rw[hm]at e1;cases e1;rw[h']at e2;cases e2
   refine lT [0,1,5,9,20,21,22,40,41] (fun g:Nat×SM×List (List AQ)=>[(7,.ref (.sl 7 1 0 g.2.2.length)),(42,.i (iI g.1))]) (fun g=>[(13,.map [.s] (VJ g.2.1)),(7,.rows 160 1 (g.2.2.map JE))]) (fun g=>g.1<=ns.length/\BI A fr g.2.1 ((paths.drop i).map EU++g.2.2.map EU)/\(∀t∈ns.take g.1,inM g.2.1 t=true)/\(∀p∈g.2.2,p≠[]/\p.length<=g.2.1.length+1)/\g.2.1.length=seen.length+g.2.2.length) (fun g=>ns.length-g.1) (0,seen1,longer) ?_ ⟨by simp,k6,by simp,vo,hn1⟩;rintro⟨j,seen2,longer2⟩ ⟨hj,jy,ht2,hp2,hn2⟩;simp only at hj jy ht2 hp2 hn2⊢;have hbl2:=jy.len;by_cases jp:j<ns.length
   ·have jl:=(kw _).1 (At jp);by_cases hse:inM seen2 (ns.getD j default)=true
    ·(repeat' first|simp(disch:=omega)only[go_sem,simprocAttr,BV jp,RZ,hse]|refine Ac ?_|fail)
     refine⟨(j+1,seen2,longer2),⟨by simp only;omega,jy,fun t ht=>?_,hp2,hn2⟩,by simp only;omega,⟨rfl,rfl⟩,rfl,rfl⟩;rw[BM jp]at ht;rcases Ze9.1 ht with q|q
     ·exact ht2 t q
     ·rw[Zfq.1 q];exact hse
    ·replace hse:inM seen2 (ns.getD j default)=false:=by simpa using hse
     have kc:List.take ((paths.getD i default).length+1) (List.map Fd (paths.getD i default)++[[I.str (ns.getD j default)]])=(paths.getD i default++[ns.getD j default]).map Fd:=by rw[Zgf (by simp),Zez];rfl
     (repeat' first|simp(disch:=omega)only[go_sem,simprocAttr,BV jp,RZ,PN,hse,Zg8,Zg6,kc]|(first|refine D2 (cN (paths.getD i default) (by omega)) ?_ (fun r sto' hR=>?_)|refine Dg (cN (paths.getD i default) (by omega)) ?_ (fun r sto' hR=>?_);(focus(first|rfl|(simp only[go_sem,simprocAttr,BV jp,cz,RZ,PN,hse,aA4,aA5,Zg8,Zg6,kc];done)));first|(obtain⟨rfl,rfl⟩:=hR)|(obtain⟨_,(rfl|rfl),rfl,rfl⟩:=hR))|refine Ac ?_|fail)
     refine⟨by simp,by simp[I.one],by omega,by omega,by simp,by simp[I.one],by omega,by omega,(j+1,AM seen2 (ns.getD j default) true,longer2++[paths.getD i default++[ns.getD j default]]),⟨by simp only;omega,?_,fun t ht=>?_,fun p hpp=>?_,?_⟩,by simp only;omega,⟨by simp,rfl⟩,rfl,by simp[JE]⟩
     ·have hcur2:EU (paths.getD i default)∈(paths.drop i).map EU++longer2.map EU:=Zfa _ (Zfh.2 ⟨_,by rw[Dj ja];exact Zfd,rfl⟩);obtain⟨q,hq1,hq2⟩:=Zfh.1 ((R4 hmt).1 jl);refine jy.add hcur2 ⟨m,hm,jl⟩ hse (by rw[<-hq2];exact hmr q hq1) fun s=>?_
      simp only[Zez,Ze1,Ze5,aA3,Ze9,Zfq,or_assoc]
     ·rw[BM jp]at ht;simp only;rw[R6];rcases Ze9.1 ht with q|q
      ·rw[ht2 t q,Zcd]
      ·rw[Zfq.1 q,Za5 rfl,Zcf]
     ·simp only at hpp⊢;rw[jy.more hse];rcases Ze9.1 hpp with q|q
      ·have:=hp2 p q;exact⟨this.1,by omega⟩
      ·rw[Zfq.1 q];exact⟨by simp,by simp only[Zel,Zem,Zeu];omega⟩
     ·simp only;rw[jy.more hse,Zel,Zem,Zeu];omega
   ·refine FU (Hi jp) ?_;have qx:j=ns.length:=by omega
    subst qx;rw[Zgd]at ht2;refine⟨(i+1,seen2,longer2),⟨by simp only;omega,jy.done (cur:=EU (paths.getD i default)) hNE (fun t ⟨m2,e1,e2⟩=>?_) (fun s q=>?_) (fun s q=>?_),hp2,hn2⟩,by simp only;omega,⟨rfl,rfl⟩,rfl,rfl⟩
    ·rw[hm]at e1;cases e1;exact ht2 t ((kw t).2 e2)
    ·rw[Dj ja,Ze1,Zc3,Zfb]at q;exact q.symm
    ·rw[Dj ja,Ze1,Zc3];exact Zfc _ q
  ·refine FU (Hi ja) ?_;have wl:i=paths.length:=by omega
   subst wl;rw[Zdb,Ze5,Zft]at k6;refine⟨(false,seen1,longer),⟨k6,fun p q=>⟨(vo p q).1,(vo p q).2,by simp only;omega⟩⟩,?_,rfl,⟨rfl,?_⟩,?_,?_⟩
   ·simp only;omega
   ·simp[Be,Aa]
   ·simp[Oe,Aa,D.nms,Ref.nm]
   ·simp[PW,Oe,Aa,Blk.nms]
end
section
theorem aA7{l:List Nat}{i:Nat}(h:i<l.length):l.getD i 0=l[i]:=by grind
theorem cP(to:List (List Nat))(j:Nat):∀(v i:Nat),i<to.length->(A2 to j).getD i 0=v->v<1000->∀k,1<=k->k<=v->k∈A2 to j
 |0,i,hi,h,_,k,h1,h2=>by omega
 |v+1,i,hi,h,h9,k,h1,h2=>by
  have wl:i<(A2 to j).length:=by rw[Kz];exact hi
  by_cases hk:k=v+1
  ·subst hk;rw[<-h,aA7 wl];exact Zef _
  have hw:=(Nz to j i wl).2;rcases hw with hw|⟨t,ht,hv⟩
  ·omega
  ·have qi:=Rx (to:=to) (target:=j) hi ht;unfold eX at hv qi;split at hv
   ·rename_i e;rw[Zaa e]at qi;omega
   ·rename_i e;rw[Zac e]at qi;have ht9:t<to.length:=by
     apply Zcg;intro hn;have h0:(A2 to j).getD t 0=0:=by rw[Zdx,Zd3 (by rw[Kz];omega)];rfl
     have h3:=(Nz to j i wl).1;omega
    exact cP to j v t ht9 (by omega) (by omega) k h1 (by omega)
theorem aA8(to:List (List Nat))(j i:Nat)(hi:i<to.length)(h9:(A2 to j).getD i 0<1000):(A2 to j).getD i 0<=to.length:=by
 have h:=Vm (a:=(List.range ((A2 to j).getD i 0)).map (·+1)) (b:=A2 to j) (by
  rw[Zfv,Zf1];exact List.Pairwise.imp (fun{a b} (h:a≠b) (e:a+1=b+1)=>h (by omega)) (Zfv.1 List.nodup_range)) (fun x hx=>by
  obtain⟨y,hy,rfl⟩:=Zfh.1 hx;rw[Zfn]at hy;exact cP to j _ i hi rfl h9 _ (by omega) (by omega))
 rw[Zes,List.length_range,Kz]at h;exact h
theorem cQ{c:Cat}{j:Nat}(hj:j<(AW c).length)(hl:(AW c).length<=900):∀(n i:Nat),i<(AW c).length->Ev (N3 c) n ((AW c).getD i default) ((AW c).getD j default)->(A2 (VI c (AW c)) j).getD i 0<1000
 |0,i,hi,h=>by have h1:=Rx (to:=VI c (AW c)) (target:=j) (i:=i) (t:=j) (by unfold VI;simpa using hi) ((Vh hi).2 ⟨hj,h⟩);unfold eX at h1;grind
 |n+1,i,hi,h=>by
  obtain⟨m,h1,h2⟩:=h;obtain⟨t,ht,rfl⟩:=PM (zJ h1);have h3:=Rx (to:=VI c (AW c)) (target:=j) (i:=i) (t:=t) (by unfold VI;simpa using hi) ((Vh hi).2 ⟨ht,h1⟩);have h4:=cQ hj hl n t ht h2;have h5:=aA8 (VI c (AW c)) j t (by unfold VI;simpa using ht) h4;have h6:(VI c (AW c)).length=(AW c).length:=by unfold VI;simp
  unfold eX at h3;grind
theorem aA9{c:Cat}{a:AQ}{n:Nat}(hl:(AW c).length<=900)(ha:a∈AW c)(h:Ev (N3 c) n a a):G6 c≠[]:=by obtain⟨i,hi,rfl⟩:=PM ha;intro hc;unfold G6 at hc;rw[aq]at hc;have h1:=cx _ _ hc i hi;grind[cQ]
theorem cR{c:Cat}{name ent:AQ}(h:(Dx c.features name ent).2=0):(BL c.features name).isSome=true:=by unfold Dx at h;unfold BL;grind
theorem aAa{x:Xpr}{acc:List AQ×List AQ}{b:AQ}(h:b∈(Gj x acc).1):b∈acc.1\/((x.kind=3\/x.kind=4)/\b=x.name):=by unfold Gj at h;grind[N2]
mutual
theorem cS(c:Cat):∀(x:Xpr) (ent:AQ) (t:Tbl) (acc:List AQ×List AQ),(Dy c ent t x).2=0->∀b∈(EP x acc).1,b∈acc.1\/(BL c.features b).isSome=true
 |.mk k o n tb v u p w a,ent,t,acc,h,b,hb=>by
  have hd:EP (.mk k o n tb v u p w a) acc=dirRs a (Gj (.mk k o n tb v u p w a) acc):=rfl;rw[hd]at hb;rw[Rr]at h;split at h
  ·rename_i q;exact absurd h q
  ·simp only[Xpr.args]at h;split at h
   ·rename_i e he;exact absurd h (by simpa using infers_err c a _ _ e he)
   ·rename_i l hl;rcases infers_res c a _ _ _ l hl b hb with q|q
    ·rcases aAa q with q|⟨q1,q2⟩
     ·exact .inl q
     ·refine .inr ?_;rw[q2];unfold opR at h;rcases q1 with e|e<;>simp only[Xpr.kind]at e<;>subst e
      ·simp only[Xpr.kind,Int.reduceEq,Zad,Zag]at h;exact cR h
      ·simp only[Xpr.kind,Int.reduceEq,Zad,Zag]at h;split at h
       ·simp at h
       ·exact cR h
    ·exact .inr q
theorem infers_res(c:Cat):∀(l:List Xpr) (ent:AQ) (t:Tbl) (acc:List AQ×List AQ) (ts:List Typ),inferRs c ent t l=.ok ts->∀b∈(dirRs l acc).1,b∈acc.1\/(BL c.features b).isSome=true
 |[],ent,t,acc,ts,h,b,hb=>.inl hb
 |x::r,ent,t,acc,ts,h,b,hb=>by
  simp only[inferRs]at h;simp only[dirRs]at hb;split at h
  ·cases h
  ·rename_i q;split at h
   ·cases h
   ·rename_i l2 hl2;rcases infers_res c r ent t _ l2 hl2 b hb with q2|q2
    ·exact cS c x ent t acc (Zch.1 q) b q2
    ·exact .inr q2
theorem infers_err(c:Cat):∀(l:List Xpr) (ent:AQ) (t:Tbl) (e:Int),inferRs c ent t l=.error e->e≠0
 |[],ent,t,e,h=>by simp[inferRs]at h
 |x::r,ent,t,e,h=>by
  simp only[inferRs]at h;split at h
  ·rename_i q;cases h;exact q
  ·split at h
   ·rename_i e2 he2;cases h;exact infers_err c r ent t _ he2
   ·cases h
end
theorem aAb{m:SM}{n:AQ}(h:Fo m):Fo (AM m n true):=by
 induction m with
 |nil=>
  intro p hp;have:p=(n,true):=by simpa[AM]using hp
  rw[this]
 |cons q r ih=>intro p hp;simp only[AM]at hp;grind[Fo]
def Mf(m:SM)(l:List AQ):Prop:=∀b,inM m b=true↔b∈l
theorem aAc(x:Xpr)(m:SM×SM)(l:List AQ×List AQ)(h:Mf m.1 l.1)(ht:Fo m.1):Mf (eZ x m).1 (Gj x l).1/\Fo (eZ x m).1:=by
 unfold eZ Gj;by_cases hk:x.kind=3\/x.kind=4
 ·rw[Zaa hk,Zaa hk];refine⟨fun b=>?_,aAb ht⟩;rw[R6,N2,Zcb,Za0,h b,eq_comm]
 all_goals grind
mutual
theorem R7:∀(x:Xpr) (m:SM×SM) (l:List AQ×List AQ),Mf m.1 l.1->Fo m.1->Mf (Da x m).1 (EP x l).1/\Fo (Da x m).1
 |.mk k o n tb v u p w a,m,l,h,ht=>by have h1:Da (.mk k o n tb v u p w a) m=dirMs a (eZ (.mk k o n tb v u p w a) m):=rfl;have h2:EP (.mk k o n tb v u p w a) l=dirRs a (Gj (.mk k o n tb v u p w a) l):=rfl;rw[h1,h2];have hh:=aAc (.mk k o n tb v u p w a) m l h ht;exact dirs_same a _ _ hh.1 hh.2
theorem dirs_same:∀(a:List Xpr) (m:SM×SM) (l:List AQ×List AQ),Mf m.1 l.1->Fo m.1->Mf (dirMs a m).1 (dirRs a l).1/\Fo (dirMs a m).1
 |[],m,l,h,ht=>⟨h,ht⟩
 |x::r,m,l,h,ht=>by have:=R7 x m l h ht;exact dirs_same r _ _ this.1 this.2
end
theorem Vo{c:Cat}:∀{l:List Ftr},DP c l=0->∀f∈l,Dz c f=0
 |g::r,h,f,hf=>by
  simp only[DP]at h;split at h
  ·rename_i q;exact absurd h q
  ·rename_i q;rcases Zfb.1 hf with e|e
   ·rw[e];exact Zch.1 q
   ·exact Vo h f e
theorem cT{c:Cat}{f:Ftr}(h:Dz c f=0):Fh f.body=0/\(Dy c f.entity Bk f.body).2=0:=by
 unfold Dz at h;split at h
 ·simp at h
 ·split at h
  ·rename_i q;exact absurd h q
  ·split at h
   ·rename_i q;exact absurd h q
   ·rename_i q;have q:=Zch.1 q;unfold EO at q;split at q
    ·rename_i q2;exact absurd q q2
    ·rename_i q2;exact⟨Zch.1 q2,q⟩
theorem aAd(f:Ftr)(r:List Ftr)(s:AQ):BL (f::r) s=if f.name=s then some f else BL r s:=by unfold BL;grind
theorem cU:∀(l:List Ftr) (acc:DM) (s:AQ),Al (l.foldl Gx acc) s=match Al acc s with
  |some m=>some m
  |none=>(BL l s).map fun f=>(Da f.body ([],[])).1
 |[],acc,s=>by cases h:Al acc s<;>simp[h,BL]
 |f::r,acc,s=>by rw[Zdt,cU r (Gx acc f) s,aAd];grind[Gx,R2]
theorem Vp(l:List Ftr)(s:AQ):Al (Cd l) s=(BL l s).map fun f=>(Da f.body ([],[])).1:=by unfold Cd;rw[cU];rfl
theorem cV:∀(l:List Ftr) (acc:DM) (p:AQ×SM),p∈l.foldl Gx acc->p∈acc\/∃f∈l,p=(f.name,(Da f.body ([],[])).1)
 |[],acc,p,h=>.inl h
 |f::r,acc,p,h=>by
  rw[Zdt]at h;rcases cV r _ p h with q|⟨g,hg,e⟩
  all_goals grind[Gx]
theorem cW:∀(l:List Ftr) (acc:DM),(l.foldl Gx acc).length<=acc.length+l.length
 |[],acc=>by simp
 |f::r,acc=>by rw[Zdt,Zem];have:=cW r (Gx acc f);grind[Gx]
theorem aput_len{m:SM}{n:AQ}:(AM m n true).length<=m.length+1:=by
 induction m with
 |nil=>simp[AM]
 |cons q r ih=>simp only[AM];split<;>simp<;>omega
mutual
theorem cX:∀(x:Xpr) (m:SM×SM),(Da x m).1.length<=m.1.length+Bj x
 |.mk k o n tb v u p w a,m=>by
  have h1:Da (.mk k o n tb v u p w a) m=dirMs a (eZ (.mk k o n tb v u p w a) m):=rfl;have h2:=dirMs_len a (eZ (.mk k o n tb v u p w a) m);have h3:(eZ (.mk k o n tb v u p w a) m).1.length<=m.1.length+1:=by grind[eZ,aput_len]
  rw[h1,Bj];omega
theorem dirMs_len:∀(a:List Xpr) (m:SM×SM),(dirMs a m).1.length<=m.1.length+sizeXs a
 |[],m=>by simp[dirMs]
 |x::r,m=>by have h1:=cX x m;have h2:=dirMs_len r (Da x m);simp only[dirMs,sizeXs];omega
end
theorem Vq:Mf [] []:=fun b=>by simp[inM,Al]
theorem Vr:Fo []:=fun p hp=>by simp at hp
theorem cY{c:Cat}(h:DP c c.features=0){f:Ftr}(hf:f∈c.features){b:AQ}(hb:inM (Da f.body ([],[])).1 b=true):(BL c.features b).isSome=true:=by
 have h1:=(cT (Vo h f hf)).2;have h2:=((R7 f.body ([],[]) ([],[]) Vq Vr).1 b).1 hb;rcases cS c f.body f.entity Bk ([],[]) h1 b h2 with q|q
 all_goals grind
theorem aAe{l:List Ftr}{s:AQ}{f:Ftr}(h:BL l s=some f):f∈l:=Zfi h
theorem aAf{c:Cat}(h:DP c c.features=0):∀p∈Cd c.features,Fo p.2/\p.2.length<=1000000/\∀q∈p.2,(Al (Cd c.features) q.1).isSome=true:=by
 intro p hp;rcases cV _ _ p hp with q|⟨f,hf,e⟩
 ·cases q
 ·rw[e];have ht:=(R7 f.body ([],[]) ([],[]) Vq Vr).2;refine⟨ht,?_,fun q hq=>?_⟩
  ·have h1:=(cT (Vo h f hf)).1;have h2:=cX f.body ([],[]);have h3:Bj f.body<=1000000:=by
    unfold Fh at h1;split at h1
    ·simp at h1
    ·omega
   simp only[Zeu]at h2;simp only;omega
  ·have:=cY h hf ((R4 ht).2 (Zfh.2 ⟨q,hq,rfl⟩));rw[Vp,Option.isSome_map];exact this
theorem aAg{c:Cat}(h:DP c c.features=0):DT (Cd c.features)=N3 c:=by
 funext a b;refine propext ?_;unfold DT N3 FK IA;rw[Zfe,Vp];cases e:BL c.features a with
 |none=>
  constructor
  ·rintro⟨m,h1,_⟩;cases h1
  ·rintro⟨h1,_⟩;have:(EP noX ([],[])).1=[]:=rfl;simp only[Zhg]at h1;rw[this]at h1;cases h1
 |some f=>
  have hs:=(R7 f.body ([],[]) ([],[]) Vq Vr).1 b;constructor
  ·rintro⟨m,h1,h2⟩;cases h1;exact⟨hs.1 h2,cY h (aAe e) h2⟩
  ·rintro⟨h1,_⟩;exact⟨_,rfl,hs.2 h1⟩
theorem aAh(c:Cat):(AW c).length<=c.features.length:=by have:=Ru c.features [];unfold AW;simpa using this
theorem aAi{c:Cat}{s:AQ}:(Al (Cd c.features) s).isSome=true↔s∈AW c:=by simp[Vp,cu,cv]
theorem aAj{c:Cat}(h:DP c c.features=0)(hl:c.features.length<=32):G6 c=[]↔∀s,(Al (Cd c.features) s).isSome=true->¬∃n,Ev (DT (Cd c.features)) n s s:=by grind[aAg,aA9,aAh,aAi,zK]
end
section
def cZ(c:Cat)(r:D)(s:List (Nat×Blk)):Prop:=s=[]/\((r=.i .nilsl/\G6 c=[])\/∃(x:AQ) (L:List AQ),r=.i (.sl ((x::L).map fun s=>[.str s]))/\G6 c≠[])
theorem c7(c:Cat)(hc:AR c<=1073741823)(hv:Is mx 118 [.agg (Ap c)] (iI (Em c.features.length (c.features.length+c.drafts.length) [] (B5 c))))
  (hf:∀f∈c.features,Is mx 119 [.agg (Ap c),.agg (Af f)] (iI (Dz c f)))(hcy:c.features.length<=32->DP c c.features=0->MC Tryz.prog (Mi mx) 120 [.i (.agg (Ap c))] [] [] (cZ c)):
  Is mx 79 [.agg (Ap c)] (iI (G8 c)):=by
 have hR:=G8.eq_1 c;have lt:=G3 c.tables;have lf:=C1 c.features;have ld:=C1 c.drafts;have lp:=C1 c.past;have hb:=BR c;by_cases hlim:16<c.tables.length\/32<c.features.length\/32<c.drafts.length\/32<c.past.length
 ·rw[Zaa hlim]at hR;rw[hR];have l1:(decide ((16:Int)<(c.tables.length:Int))||decide ((32:Int)<(c.features.length:Int))||decide ((32:Int)<(c.drafts.length:Int))||decide ((32:Int)<(c.past.length:Int)))=true:=by simp only[Zcb,Za0];omega
  refine MX F79 ?_;exact EV l1 trivial
 ·rw[Zac hlim]at hR;have l1:(decide ((16:Int)<(c.tables.length:Int))||decide ((32:Int)<(c.features.length:Int))||decide ((32:Int)<(c.drafts.length:Int))||decide ((32:Int)<(c.past.length:Int)))=false:=by simp only[Zca,Za4];omega
  refine MX F79 ?_;refine EV l1 ?_;refine lT [1,33,34] (fun i:Nat=>[(35,.i (iI i))]) (fun _=>[]) (fun i=>i<=c.tables.length/\G7 (FL c.tables i) (c.tables.drop i)=G7 none c.tables) (fun i=>c.tables.length-i) 0 ?_ ⟨by omega,rfl⟩;rintro i ⟨hi,jb⟩;by_cases ja:i<c.tables.length
  ·have hm:=At ja;have hbt:Dh (c.tables.getD i default)<=1073741824:=by have:=B4 (b:=Dh) hm;omega
   have h1:=tI (mx:=mx) (c.tables.getD i default) (fun f hf=>by have h1:=HO (c.tables.getD i default);have h2:=B4 (b:=FC) hf;have h3:=Nn f;have h4:D4 f.typ=Ag AY f.typ.unit+f.typ.of.length+1:=rfl;have h5:=E9 f.typ.unit;show f.typ.unit.length<=_;omega) (by have h1:=HO (c.tables.getD i default);have:=Pn (c.tables.getD i default).fields;omega);rw[<-uj]at h1;rw[Dj ja,ar]at jb;have hnx:FL c.tables (i+1)=some (c.tables.getD i default).name:=by simp[FL]
   rw[<-hnx]at jb;by_cases h0:i=0
   ·subst h0;have hp0:gtP (FL c.tables 0) (c.tables.getD 0 default).name=false:=rfl;simp only[hp0,Zb4,Zag]at jb;have hz:(0:Int)<(c.tables.length:Int):=by omega
    by_cases ht:Gf (c.tables.getD 0 default)=0
    ·rw[Zac (by omega)]at jb;rw[ht]at h1;refine AU (cj h1 (cj hz (cj @Zcm @Zcl))) ?_;exact⟨1,⟨ja,jb⟩,by omega,rfl⟩
    ·rw[Zaa ht]at jb;rw[<-jb,Zaa ht]at hR;rw[hR];exact AU (cj h1 (cj hz (cj @Zcm ht))) trivial
   ·have hpr:FL c.tables i=some (c.tables.getD (i-1) default).name:=by simp[FL,h0]
    have hg:gtP (FL c.tables i) (c.tables.getD i default).name=(Op.bytesLess (c.tables.getD i default).name (c.tables.getD (i-1) default).name||decide ((c.tables.getD i default).name=(c.tables.getD (i-1) default).name)):=by rw[hpr];rfl
    rw[hg]at jb;have ju:(0:Int)<(i:Int):=by omega
    have kh:((i:Int)-1).toNat=i-1:=by omega
    have kg:(i:Int)-1=((i-1:Nat):Int):=by omega
    have hltp:i-1<c.tables.length:=by omega
    by_cases ht:Gf (c.tables.getD i default)=0
    ·rw[Zac (by omega)]at jb;rw[ht]at h1;cases hgv:(Op.bytesLess (c.tables.getD i default).name (c.tables.getD (i-1) default).name||decide ((c.tables.getD i default).name=(c.tables.getD (i-1) default).name))
     ·rw[hgv,Zac (by simp)]at jb;refine AU (cj h1 (cj (BV ja) (cj ju (cj kg (cj (BV hltp) hgv))))) ?_;exact⟨i+1,⟨by omega,jb⟩,by omega,rfl⟩
     ·rw[hgv,Zaa rfl]at jb;rw[<-jb,Zaa (by decide)]at hR;rw[hR];exact AU (cj h1 (cj (BV ja) (cj ju (cj kg (cj (BV hltp) hgv))))) trivial
    ·rw[Zaa ht]at jb;rw[<-jb,Zaa ht]at hR;rw[hR];exact AU (cj h1 (cj (BV ja) ht)) trivial
  ·rw[Zda (by omega),show∀p,G7 p []=0 from fun p=>by cases p<;>rfl]at jb;rw[<-jb,Zac (by simp)]at hR;by_cases hvz:Em c.features.length (c.features.length+c.drafts.length) [] (B5 c)=0
   ·rw[Zac (by omega)]at hR;rw[hvz]at hv;refine AU (cj hv (Hi ja)) ?_;refine lT [1,66,67] (fun i:Nat=>[(68,.i (iI i))]) (fun _=>[]) (fun i=>i<=c.features.length/\DP c (c.features.drop i)=DP c c.features) (fun i=>c.features.length-i) 0 ?_;rintro j ⟨hj,hjv⟩;by_cases jp:j<c.features.length
    ·have hm:=At jp;have h1:=hf _ hm;rw[Ci]at h1;rw[Dj jp]at hjv;simp only[DP]at hjv;by_cases ht:Dz c (c.features.getD j default)=0
     ·rw[Zac (by omega)]at hjv;rw[ht]at h1;refine AU (cj h1 (cj (BV jp) @Ci)) ?_;exact⟨j+1,⟨by omega,hjv⟩,by omega,rfl⟩
     ·rw[Zaa ht]at hjv;rw[<-hjv,Zaa ht]at hR;rw[hR];exact AU (cj h1 (cj (BV jp) (cj @Ci ht))) trivial
    ·rw[Zda (by omega)]at hjv;rw[<-hjv,Zac (by simp[DP])]at hR;have hcy':=hcy (by omega) (by rw[<-hjv];rfl);have hce:Ap c=[.sl (c.tables.map AS),.sl (c.features.map Af),.sl (c.drafts.map Af),.sl (c.past.map Af)]:=rfl;rw[hce]at hcy';refine FU (Hi jp) ?_;refine Dg hcy' ?_ (fun r sto' hR'=>?_)
     ·simp only[go_sem,Nat.reduceEqDiff,Ze1,Ze5]
     obtain⟨rfl,⟨rfl,h0⟩|⟨x,L,rfl,h0⟩⟩:=hR'
     ·rw[Zac (by simp[h0])]at hR;rw[hR];exact eS trivial
     ·rw[Zaa h0]at hR;rw[hR];refine eP ?_;intro _ _;exfalso;omega
   ·rw[Zaa hvz]at hR;rw[hR];exact AU (cj hv (cj (Hi ja) hvz)) trivial
theorem aAk(t:List Tbl):G6 (CL t)=[]:=rfl
theorem aAl(t:List Tbl)(hc:AR (CL t)<=1073741823):Is mx 79 [.agg (Ap (CL t))] (iI (G8 (CL t))):=
 c7 (CL t) hc (ze t) (fun f h=>by cases h) (fun _ _=>MC.mono (zn t) fun r s h=>⟨h.2,.inl ⟨h.1,aAk t⟩⟩)
theorem aAm(t:List Tbl)(x:Chg)(hk:x.kind=1)(hb:AR (CL t)+D5 x<=1073741):Is mx 42 [.agg (Ap (CL t)),.agg (AF x)] (KK (Cu (CL t) x)):=by
 have hch:=RD (CL t) x;have h1:CJ (CL t) x=G9 (CL t) x.table:=by unfold CJ;rw[Zaa hk]
 have je:(CL t).tables.length<=1073741:=by have:=BR (CL t);have:=G3 (CL t).tables;omega
 refine bM (CL t) x (IH (CL t) x.table) (fun _ _ _=>?_) ?_ ?_ ?_
 ·rw[hk];exact bI (CL t) x (by omega)
 ·rw[h1];unfold IH G9;split<;>rfl
 ·rw[h1];unfold IH G9;split
  ·intro h;simp at h
  ·intro _;rfl
 ·intro h;have e:(CJ (CL t) x).1=CL (En t x.table):=by
   rw[h1];unfold IH at h;unfold G9;split at h
   ·simp at h
   ·rename_i q;rw[Zac q];rfl
  have jy:AR (CJ (CL t) x).1<=1073741:=by omega
  rw[e]at jy⊢;exact aAl _ (by omega)
end
end Go.Proofs.YtojgbkiejjingaaGreatDoor
