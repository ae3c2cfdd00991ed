/-Lemmas.-/
import Derived.Test.YtojgbkiejjingaaGreatDoorV19
set_option linter.all false
set_option maxRecDepth 100000
set_option maxHeartbeats 8000000
namespace Go.Proofs.YtojgbkiejjingaaGreatDoor
open Go Go.Dl Go.As Go.Proofs
variable {mx:Int}
attribute[local irreducible] Ah Ai MC W2 Fq ev evD step Ad
section
def Gr(x:Ent):Bool:=decide (x.no<1)||decide (1099511627776<x.no)||decide (x.tick<0)||decide (1099511627776<x.tick)
def Gs(l:List Ent)(i:Nat)(x:Ent):Bool:=decide (0<i)&&(decide (x.no<=(l.getD (i-1) default).no)||decide (x.tick<(l.getD (i-1) default).tick))
def Dn(l:List Ent)(i:Nat)(c:Cat):Cat×Int:=
 if(Gr (l.getD i default)||Gs l i (l.getD i default))=true then(c,150)
 else if FM (l.getD i default)=false then(c,1)
 else if(l.getD i default).kind=1 then(if Gm c (l.getD i default).fact=0/\FN l i=true then(c,151)else(c,Gm c (l.getD i default).fact))
 else if(l.getD i default).kind=2 then(if L1 (l.getD i default).erasure=false then(c,1)else(c,0))
 else Cu c (l.getD i default).change
theorem wZ(l:List Ent)(i:Nat)(c:Cat)(hl:Ag AB l<=1073740)(hi:i<l.length)(hc:AR c+AB (l.getD i default)<=1073741):Is mx 43 [.sl (l.map Ae),iI i,.agg (Ap c)] (KK (Dn l i c)):=by
 have je:=LM l;have hbe:=El (l.getD i default);have hbf:=LL (l.getD i default).fact;have c1:=wX (mx:=mx) (l.getD i default) (by omega);have c2:=wB (mx:=mx) c (l.getD i default).fact (by omega) (by omega);have c3:=wY (mx:=mx) l i (by omega) hi;have c4:=wU (mx:=mx) (l.getD i default).erasure (by omega);have c5:=aA (mx:=mx) c (l.getD i default).change (by omega);have hR:=Dn.eq_1 l i c;have hoB:i≠0->Gs l i (l.getD i default)=(decide ((l.getD i default).no<=(l.getD (i-1) default).no)||decide ((l.getD i default).tick<(l.getD (i-1) default).tick)):=fun h=>by grind[Gs]
 have hoA:(decide ((l.getD i default).no<1)||decide (1099511627776<(l.getD i default).no)||decide ((l.getD i default).tick<0)||decide (1099511627776<(l.getD i default).tick))=Gr (l.getD i default):=rfl;have jn:=BV hi;refine MX F43 ?_;refine Man jn ?_;refine Dl.cutS [0,1,5,6,8] (by simp only[V0,JK,reduceIte,Nat.reduceEqDiff];rfl) [] [(6,.cells LY)] ((Gr (l.getD i default)||Gs l i (l.getD i default))=false) ?_ (fun qz=>?_)
 ·cases hA:Gr (l.getD i default)
  ·rw[hA]at hoA hR;by_cases h0:i=0
   ·subst h0;have hB:Gs l 0 (l.getD 0 default)=false:=rfl;rw[hB];exact EV (cj hoA (cj @Zcm @Zcl)) trivial
   ·have ju:((0:Int)<(i:Int))=True:=Za8 (by omega);have kh:((i:Int)-1).toNat=i-1:=by omega
    have kg:(i:Int)-1=((i-1:Nat):Int):=by omega
    have hlp:i-1<l.length:=by omega
    rw[hoB h0]at hR⊢;cases k6:decide ((l.getD i default).no<=(l.getD (i-1) default).no)
    ·cases jy:decide ((l.getD i default).tick<(l.getD (i-1) default).tick)
     ·exact EV (cj hoA (cj ju (cj kg (cj (BV hlp) (cj k6 jy))))) trivial
     ·rw[Zaa (by rw[k6,jy];rfl)]at hR;rw[hR];exact EV (cj @KK.eq_1 (cj hoA (cj ju (cj kg (cj (BV hlp) (cj k6 jy)))))) trivial
    ·rw[Zaa (by rw[k6];rfl)]at hR;rw[hR];exact EV (cj @KK.eq_1 (cj hoA (cj ju (cj kg (cj (BV hlp) k6))))) trivial
  ·rw[hA]at hoA;rw[Zaa (by rw[hA];rfl)]at hR;rw[hR];exact EV (cj @KK.eq_1 hoA) trivial
 ·rw[Zac (by rw[qz];simp)]at hR;cases v8:FM (l.getD i default)
  ·rw[Zaa v8]at hR;rw[v8]at c1;rw[hR];exact EV (cj c1 @KK.eq_1) trivial
  ·rw[Zac (by rw[v8];simp)]at hR;rw[v8]at c1;by_cases qc:(l.getD i default).kind=1
   ·rw[Zaa qc]at hR;by_cases he:Gm c (l.getD i default).fact=0
    ·cases ht:FN l i
     ·rw[ht]at c3;rw[Zac (by rw[ht];simp)]at hR;rw[hR];exact EV (cj c1 (cj c2 (cj c3 (cj @KK.eq_1 (cj qc he))))) trivial
     ·rw[ht]at c3;rw[Zaa ⟨he,ht⟩]at hR;rw[hR];exact EV (cj c1 (cj c2 (cj c3 (cj @KK.eq_1 (cj qc he))))) trivial
    ·rw[Zac (fun h=>he h.1)]at hR;rw[hR];exact EV (cj c1 (cj c2 (cj @KK.eq_1 (cj qc he)))) trivial
   ·rw[Zac qc]at hR;by_cases qe:(l.getD i default).kind=2
    ·rw[Zaa qe]at hR;cases her:L1 (l.getD i default).erasure
     ·rw[her]at c4;rw[Zaa her]at hR;rw[hR];exact EV (cj c1 (cj c4 (cj @KK.eq_1 (cj qc qe)))) trivial
     ·rw[her]at c4;rw[Zac (by rw[her];simp)]at hR;rw[hR];exact EV (cj c1 (cj c4 (cj @KK.eq_1 (cj qc qe)))) trivial
    ·rw[Zac qe]at hR;rw[hR];exact EV (cj c1 (cj c5 (cj @KK.eq_1 (cj qc qe)))) trivial
def A6(l:List Ent):Nat->Cat×Int
 |0=>(BD,0)
 |i+1=>if(A6 l i).2≠0 then A6 l i else Dn l i (A6 l i).1
def C8(l:List Ent):Int:=if 4096<l.length then 2 else(A6 l l.length).2
theorem UM{l:List Ent}{i:Nat}(h:(A6 l i).2≠0):∀j,i<=j->A6 l j=A6 l i:=by
 intro j hj
 induction j with
 |zero=>rw[show i=0 by omega]
 |succ j ih=>grind[A6]
theorem xo(l:List Ent)(i:Nat)(c:Cat):AR (Dn l i c).1<=AR c+AB (l.getD i default):=by
 have h1:=aB c (l.getD i default).change;have h2:=El (l.getD i default);unfold Dn;repeat' split
 all_goals first|(show AR c<=_;omega)|omega
theorem RE(l:List Ent):∀i,i<=l.length->AR (A6 l i).1<=Ag AB (l.take i)+1
 |0,_=>by simp[A6,Ag];decide
 |i+1,h=>by have h0:=RE l i (by omega);grind[Ag,AB,BM,Hb,xo,A6]
theorem UN(l:List Ent)(hl:Ag AB l<=1073740):Is mx 12 [.sl (l.map Ae)] (iI (C8 l)):=by
 have je:=LM l;have hR:=C8.eq_1 l;refine MX F12 ?_;by_cases h4:4096<l.length
 ·rw[Zaa h4]at hR;rw[hR];have h4T:((4096:Int)<(l.length:Int))=True:=Za8 (by omega);exact FU h4T trivial
 ·rw[Zac h4]at hR;have h4F:((4096:Int)<(l.length:Int))=False:=Za9 (by omega)
  (repeat' first|simp(disch:=omega)only[go_sem,simprocAttr,h4F]|refine Ac ?_)
  refine Df [0,3] (by simp only[V0,JK,reduceIte,Nat.reduceEqDiff];rfl) (fun i=>[(4,.i (iI i))]) (fun i=>[(3,.cells ((Ap (A6 l i).1).map .i))]) (fun i=>(A6 l i).2=0) l.length 0 (by omega) rfl (by simp[V0,H0,Ref.nm,A6,Ap,D.nms,Oe]) ?_
  intro i hi jb
  have hb:=RE l i hi
  by_cases ja:i<l.length
  ·have hts:Ag AB (l.take (i+1))=Ag AB (l.take i)+AB (l.getD i default):=by rw[BM ja,Hb];simp[Ag]
   have qy:=NF AB l (i+1)
   have hS:A6 l (i+1)=Dn l i (A6 l i).1:=by grind[A6]
   have herr:=UM (l:=l) (i:=i+1)
   have c1:=wZ (mx:=mx) l i (A6 l i).1 hl ja (by omega)
   generalize (A6 l i).1=c at hS c1
   rw[<-hS]at c1
   by_cases he:(A6 l (i+1)).2=0
   ·refine AU (cj c1 (cj @KK.eq_1 (cj (BV ja) he))) ?_
    first|done|exact ja|exact⟨ja,he⟩
   ·have:=herr he l.length (by omega)
    rw[this]at hR
    rw[hR]
    exact AU (cj c1 (cj @KK.eq_1 (cj (BV ja) he))) trivial
  ·have e:i=l.length:=by omega
   rw[<-e,jb]at hR
   rw[hR]
   exact A8 (Hi ja) trivial
end
section
theorem KC(x:Ent):(Ae x).length=40:=Yg.2.2.2.2.1 x
theorem L3(x:Ent):(Ae x).all I.one=true:=Yh.2.2.2.2.1 x
theorem NJ(x:Fid):(Am x).length=2:=rfl
theorem NL(x:Fid):(Am x).all I.one=true:=rfl
theorem HT{α:Type}{f:α->List I}{k:Nat}(h1:∀x,(f x).length=k)(h2:∀x,(f x).all I.one=true)(a:α):(∀r∈[f a],r.length=k)=True/\(∀r∈[f a],r.all I.one=true)=True:=by grind
def Bt(l:List Ent)(tick:Int):List Ent:=l.filter fun x=>decide (x.tick<=tick)
def cutI(l:List Fid)(id:Fid):Nat:=(l.takeWhile fun y=>decide (Ct y id<0)).length
def Ep(l:List Fid)(id:Fid):List Fid:=if cutI l id<l.length/\l.getD (cutI l id) default=id then l else Bg l (cutI l id) id
theorem UO(l:List Fid)(id:Fid):(Ep l id).length<=l.length+1:=by grind[Ep,Bg]
theorem UP{l:List Fid}{id:Fid}{k:Nat}(h:cutI l id=k):Ep l id=if k<l.length/\l.getD k default=id then l else l.take k++[id]++l.drop k:=by rw[<-h];rfl
theorem UQ(l:List Fid)(id:Fid)(hl:l.length<=1073741823):Is mx 62 [.sl (l.map Am),.agg (Am id)] (.sl ((Ep l id).map Am)):=by
 refine MX F62 ?_;refine Od ?_;refine lT [0,3] (fun k:Nat=>[(5,.i (iI k))]) (fun _=>[]) (fun k=>k<=l.length/\(l.take k).all (fun y=>decide (Ct y id<0))=true) (fun k=>l.length-k) 0 ?_;rintro k ⟨hk,jj⟩;have h1:=A1 (l.take k) NJ NL;have h2:=A1 (l.drop k) NJ NL;have h0:=A1 l NJ NL;have c5:((k:Int)<=(l.length:Int))=True:=Za8 (by omega);have h3:=HT NJ NL id;rw[Ze7]at h1;rw[Ze2]at h2;simp only[Am]at h3;have c1:(k<=l.length)=True:=Za8 (by omega);have c3:min k l.length=k:=by omega
 by_cases jk:k<l.length
 ·have q1:=ay (mx:=mx) (l.getD k default) id;cases kz:decide (Ct (l.getD k default) id<0)
  ·have kp:cutI l id=k:=Rz jj jk kz;have heq0:(decide ((l.getD k default).source=id.source)&&decide ((l.getD k default).seq=id.seq))=decide (l.getD k default=id):=(Hc _ _).symm;by_cases wd:l.getD k default=id
   ·have jo:Ep l id=l:=by rw[UP kp,Zaa ⟨jk,wd⟩]
    rw[jo];rw[Za5 wd]at heq0;exact FU (cj q1 (cj (BV jk) (cj kz (cj @DA (cj @DB heq0))))) trivial
   ·have jo:Ep l id=l.take k++[id]++l.drop k:=by rw[UP kp,Zac];rintro⟨_,h⟩;exact wd h
    rw[jo];rw[Zba wd]at heq0
    (repeat' first|simp(disch:=omega)only[go_sem,simprocAttr,BV jk,kz,DA,DB,heq0,Za8 h0.1,Za8 h1.1,Za8 h1.2,Zck,Za8 h2.1,Za8 h2.2,h3.1,h3.2,Zg8,Zg6,Zes,Zex,Zen,Zeu,c3,c5,Zgi,Zg0]|refine Ab (q1) ?_|refine Ac ?_|refine Au ?_|refine Sz.s ?_|(refine And.intro ?_ ?_;focus omega))
    rw[<-KB (f:=Am) hk];rfl
  ·refine FU (cj q1 (cj (BV jk) kz)) ?_;exact⟨k+1,⟨by omega,BW (d:=default) jj jk kz⟩,by omega,rfl⟩
 ·have kp:cutI l id=k:=Jp jj hk (.inl (by omega));have jo:Ep l id=l.take k++[id]++l.drop k:=by rw[UP kp,Zac];omega
  rw[jo]
  (repeat' first|simp(disch:=omega)only[go_sem,simprocAttr,Hi jk,Za8 h0.1,Za8 h1.1,Za8 h1.2,Zck,Za8 h2.1,Za8 h2.2,h3.1,h3.2,Zg8,Zg6,Zes,Zex,Zen,Zeu,c3,c5,Zgi,Zg0]|refine Ac ?_|refine Au ?_|refine Sz.s ?_|(refine And.intro ?_ ?_;focus omega))
  rw[<-KB (f:=Am) hk];rfl
def Er(l:List Fid)(id:Fid):Bool:=l.any fun y=>decide (y=id)
theorem xp(l:List Fid)(id:Fid)(hl:l.length<=1073741824):Is mx 51 [.sl (l.map Am),.agg (Am id)] (.bool (Er l id)):=by
 refine MX F51 ?_;refine Od ?_;refine lS [0,3] (fun i=>[(5,.i (iI i))]) (fun _=>[]) (fun i=>(l.take i).all (fun y=>!decide (y=id))=true) l.length ?_;intro i hi jb;by_cases ja:i<l.length
 ·have heq0:(decide ((l.getD i default).source=id.source)&&decide ((l.getD i default).seq=id.seq))=decide (l.getD i default=id):=(Hc _ _).symm;by_cases hn:l.getD i default=id
  ·have:Er l id=true:=by grind[Er]
   rw[this];rw[Za5 hn]at heq0;exact FU (cj (BV ja) (cj @DA (cj @DB heq0))) trivial
  ·rw[Zba hn]at heq0;refine La (cj (BV ja) (cj @DA (cj @DB heq0))) ?_;exact BW (d:=default) jb ja (by rw[Zba hn];rfl)
 ·have:Er l id=false:=by grind[Er]
  rw[this];exact FU (Hi ja) trivial
end
section
def JA(c:Cat)(x:Ers)(ids:List Fid)(e:Ent):List Fid:=
 if e.kind≠1\/e.fact.kind=3\/e.fact.key≠x.key then ids
 else match AV c.tables e.fact.table with
  |none=>ids
  |some t=>if t.entity=x.entity then Ep ids (AO e.fact)else ids
def DR(l:List Ent)(c:Cat)(x:Ers)(ids:List Fid):List Fid:=l.foldl (JA c x) ids
theorem xq(c:Cat)(x:Ers)(ids:List Fid)(e:Ent):(JA c x ids e).length<=ids.length+1:=by
 have:=UO ids (AO e.fact);unfold JA;repeat' split
 all_goals omega
theorem UR(c:Cat)(x:Ers):∀(l:List Ent) (ids:List Fid),(DR l c x ids).length<=ids.length+l.length
 |[],ids=>by simp[DR]
 |e::l,ids=>by have h1:=xq c x ids e;have h2:=UR c x l (JA c x ids e);grind[DR]
theorem xr(l:List Ent)(c:Cat)(x:Ers)(ids:List Fid)(hl:l.length<=1000000)(hi:ids.length<=1072000000)(hc:c.tables.length<=1073741824):Is mx 63 [.sl (l.map Ae),.agg (Ap c),.agg (Cy x),.sl (ids.map Am)] (.sl ((DR l c x ids).map Am)):=by
 refine MX F63 ?_
 (repeat' first|simp(disch:=omega)only[go_sem,simprocAttr]|fail)
 refine A4 [0,5,6] (by simp only[V0,JK,reduceIte,Nat.reduceEqDiff];rfl) (fun i:Nat=>[(3,.i (.sl ((DR (l.take i) c x ids).map Am))),(9,.i (iI i))]) (fun _=>[])
  (fun i=>i<=l.length) (fun i=>l.length-i) 0 (by simp) (by simp[V0,H0,JJ,DR]) ?_
 intro i v6;by_cases ja:i<l.length
 ·have je:=UR c x (l.take i) ids;have jf:DR (l.take (i+1)) c x ids=JA c x (DR (l.take i) c x ids) (l.getD i default):=by grind[BM,DR]
  have jn:(l.take i).length<=l.length:=by simp;omega
  have b1:=UJ (mx:=mx) (l.getD i default).fact;have t1:=Rs (mx:=mx) c (l.getD i default).fact.table hc;generalize DR (l.take i) c x ids=acc at je jf;have p1:=UQ (mx:=mx) acc (AO (l.getD i default).fact) (by omega);have hg:(decide ((l.getD i default).kind≠1)||decide ((l.getD i default).fact.kind=3)||decide ((l.getD i default).fact.key≠x.key))=decide ((l.getD i default).kind≠1\/(l.getD i default).fact.kind=3\/(l.getD i default).fact.key≠x.key):=by grind
  unfold JA at jf;by_cases hq:(l.getD i default).kind≠1\/(l.getD i default).fact.kind=3\/(l.getD i default).fact.key≠x.key
  ·rw[Za5 hq]at hg;rw[Zaa hq]at jf;refine EV (cj (BV ja) hg) ?_;exact⟨i+1,by omega,by omega,by rw[jf],rfl⟩
  ·rw[Zba hq]at hg;rw[Zac hq]at jf;cases ht:AV c.tables (l.getD i default).fact.table with
   |none=>rw[ht]at t1 jf;simp only[Gi,Zhg,Zhj]at t1 jf;refine EV (cj t1 (cj (BV ja) hg)) ?_;exact⟨i+1,by omega,by omega,by rw[jf],rfl⟩
   |some t=>
    rw[ht]at t1 jf;simp only[Gi,Zhh,Zhk]at t1 jf;by_cases he:t.entity=x.entity
    ·rw[Zaa he]at jf;refine EV (cj t1 (cj b1 (cj p1 (cj (BV ja) (cj hg he))))) ?_;exact⟨i+1,by omega,by omega,by rw[jf],rfl⟩
    ·rw[Zac he]at jf;refine EV (cj t1 (cj (BV ja) (cj hg he))) ?_;exact⟨i+1,by omega,by omega,by rw[jf],rfl⟩
 ·have e:l.take i=l:=Zgf (by omega);rw[e];exact FU (Hi ja) trivial
def Bl(l:List Ent):Nat->List Fid
 |0=>[]
 |i+1=>if(l.getD i default).kind≠2 then Bl l i else if(l.getD i default).erasure.kind=2 then Ep (Bl l i) (l.getD i default).erasure.id
  else DR (l.take i) (atR (l.take i) 1099511627776) (l.getD i default).erasure (Bl l i)
def Bn(l:List Ent):List Fid:=Bl l l.length
theorem US(l:List Ent):∀i,i<=l.length->(Bl l i).length<=i*(l.length+1)
 |0,_=>by simp[Bl]
 |i+1,h=>by
  have h0:=US l i (by omega);have h1:=UO (Bl l i) (l.getD i default).erasure.id;have h2:=UR (atR (l.take i) 1099511627776) (l.getD i default).erasure (l.take i) (Bl l i);rw[Zex]at h2;rw[Zg7];simp only[Bl];repeat' split
  all_goals omega
abbrev idD(b:Bool)(l:List Fid):D:=if b=true then .i (.sl (l.map Am))else .ref (.sl 3 2 0 0)
abbrev idB(b:Bool):List (Nat×Blk):=if b=true then[]else[(3,.rows 30 2 [])]
theorem aF(l:List Ent)(hl:Ag AB l<=1073740)(h30:l.length<=30000):Is mx 29 [.sl (l.map Ae)] (.sl ((Bn l).map Am)):=by
 refine MX F29 ?_
 (repeat' first|simp(disch:=omega)only[go_sem,simprocAttr]|fail)
 refine A4 [0] (by simp only[V0,JK,reduceIte,Nat.reduceEqDiff];rfl) (fun g:Bool×Nat=>[(3,idD g.1 (Bl l g.2)),(4,.i (iI g.2))]) (fun g=>idB g.1)
  (fun g=>g.2<=l.length/\(g.1=false->Bl l g.2=[])) (fun g=>l.length-g.2) (false,0) ⟨by simp,fun _=>rfl⟩ (by simp[idD,idB,V0,H0,JJ,Ref.nm]) ?_
 rintro⟨b,i⟩ ⟨hi,hb⟩;simp only at hi hb;by_cases ja:i<l.length
 ·have je:(Bl l i).length<=1000000000:=by have h0:=US l i hi;have h1:i*(l.length+1)<=30000*30001:=Zg3 (by omega) (by omega);omega
  have jf:Bl l (i+1)=if(l.getD i default).kind≠2 then Bl l i else if(l.getD i default).erasure.kind=2 then Ep (Bl l i) (l.getD i default).erasure.id
   else DR (l.take i) (atR (l.take i) 1099511627776) (l.getD i default).erasure (Bl l i):=rfl
  generalize Bl l i=acc at je jf hb;have c1:((i:Int)<=(l.length:Int))=True:=Za8 (by omega);have c2:(i<=l.length)=True:=Za8 (by omega);by_cases h2:(l.getD i default).kind=2
  ·rw[Zac (by omega)]at jf;by_cases h3:(l.getD i default).erasure.kind=2
   ·rw[Zaa h3]at jf;have p1:=UQ (mx:=mx) acc (l.getD i default).erasure.id (by omega);cases b
    ·obtain rfl:=hb rfl;simp only[Ze5]at p1;simp only[idD,idB]
     (repeat' first|simp(disch:=omega)only[go_sem,simprocAttr,BV ja,Za8 h2,Za8 h3,Zaj,Za3,Za2,Zb4]|refine Sx.s ?_ ?_<;>try(intro h;have h':=h;try simp only[HB]at h';try rewrite [h];try simp only[h])|refine Ab (p1) ?_|refine Ac ?_|fail)
     exact⟨(true,i+1),⟨ja,by simp⟩,by show l.length-(i+1)<_;omega,by rw[jf];exact⟨rfl,rfl⟩,trivial,rfl,rfl⟩
    ·simp only[idD,idB]
     (repeat' first|simp(disch:=omega)only[go_sem,simprocAttr,BV ja,Za8 h2,Za8 h3,Zaj,Za3,Za2]|refine Sx.s ?_ ?_<;>try(intro h;have h':=h;try simp only[HB]at h';try rewrite [h];try simp only[h])|refine Ab (p1) ?_|refine Ac ?_|fail)
     exact⟨(true,i+1),⟨ja,by simp⟩,by show l.length-(i+1)<_;omega,by rw[jf];exact⟨rfl,rfl⟩,trivial,rfl,rfl⟩
   ·rw[Zac h3]at jf;have hbt:=NF AB l i;have qv:(l.take i).length<=l.length:=by simp;omega
    have hlb:=LM l;have rowsE:=Za8 (A1 l KC L3).1;have a0:=aC (mx:=mx) (l.take i) 1099511627776 (by omega);have hcb:=PD (l.take i) 1099511627776 (l.take i).length (Zgu _);rw[Zgd]at hcb;have hct:(atR (l.take i) 1099511627776).tables.length<=1073741824:=by grind[BR,atR,G3,AR,Ag,AB]
    have p1:=xr (mx:=mx) (l.take i) (atR (l.take i) 1099511627776) (l.getD i default).erasure acc (by omega) (by omega) hct;generalize atR (l.take i) 1099511627776=cc at a0 p1 jf;rw[Ze7]at a0 p1;cases b
    ·obtain rfl:=hb rfl;simp only[Ze5]at p1;simp only[idD,idB]
     (repeat' first|simp(disch:=omega)only[go_sem,simprocAttr,BV ja,Za8 h2,Za9 h3,c1,Zaj,Za3,Za2,Zb4,Zdd,rowsE]|refine Ab (a0) ?_|refine Ab (p1) ?_|refine Ac ?_|refine Au ?_|fail)
     exact⟨(true,i+1),⟨ja,by simp⟩,by show l.length-(i+1)<_;omega,by rw[jf];exact⟨rfl,rfl⟩,trivial,rfl,rfl⟩
    ·simp only[idD,idB]
     (repeat' first|simp(disch:=omega)only[go_sem,simprocAttr,BV ja,Za8 h2,Za9 h3,c1,Zaj,Za3,Za2,Zdd,rowsE]|refine Ab (a0) ?_|refine Ab (p1) ?_|refine Ac ?_|refine Au ?_|fail)
     exact⟨(true,i+1),⟨ja,by simp⟩,by show l.length-(i+1)<_;omega,by rw[jf];exact⟨rfl,rfl⟩,trivial,rfl,rfl⟩
  ·rw[Zaa h2]at jf;cases b
   ·obtain rfl:=hb rfl;simp only[idD,idB]
    (repeat' first|simp(disch:=omega)only[go_sem,simprocAttr,BV ja,Za9 h2,Zaj,Zat,Za1,Zb4]|refine Ac ?_|fail)
    exact⟨(false,i+1),⟨ja,fun _=>jf⟩,by show l.length-(i+1)<_;omega,⟨rfl,rfl⟩,⟨rfl,trivial⟩,rfl,rfl⟩
   ·simp only[idD,idB]
    (repeat' first|simp(disch:=omega)only[go_sem,simprocAttr,BV ja,Za9 h2,Zaj,Zat,Za1]|refine Ac ?_|fail)
    exact⟨(true,i+1),⟨ja,by simp⟩,by show l.length-(i+1)<_;omega,by rw[jf];exact⟨rfl,rfl⟩,trivial,rfl,rfl⟩
 ·have e:i=l.length:=by omega
  rw[Bn,<-e];cases b
  ·have h0:=hb rfl;simp only[idD,idB,h0];exact A8 (Hi ja) trivial
  ·simp only[idD,idB];exact FU (Hi ja) trivial
end
section
abbrev HU:Fct:=⟨NG,0,0,[],[],0,[]⟩
abbrev Fl:Chg:=⟨0,Bk,Cs,[]⟩
abbrev L4:Ent:=⟨0,0,0,HU,Jy,Fl⟩
def RF(e:Ent):Ent:=⟨e.no,e.tick,2,HU,⟨2,[],[],AO e.fact⟩,Fl⟩
theorem UT{l:List Ent}(h30:l.length<=30000):(Bn l).length<=1000000000:=by have h0:=US l l.length (Zgu _);have h1:l.length*(l.length+1)<=30000*30001:=Zg3 (by omega) (by omega);grind[Bn]
end
section
theorem PE:∀(x y:AQ),Op.bytesLess x y=decide (x<y)
 |[],[]=>by rfl
 |_::_,[]=>by rfl
 |[],_::_=>by rfl
 |a::x,b::y=>by rw[Op.bytesLess,PE x y];simp only[List.cons_lt_cons_iff];grind
theorem aG(x:AQ):Op.bytesLess x x=false:=by simp[PE]
theorem xt(a:Int):Is mx 102 [iI a] (.bool false):=by refine MX oz ?_;exact TF trivial
theorem xu(a:AQ):Is mx 151 [.str a] (.bool false):=by refine MX oG ?_;exact TF trivial
theorem aH(a b:Int):Is mx 71 [iI a,iI b] (iI (DQ a b)):=by
 refine MX F71 ?_
 (repeat' first|simp(disch:=omega)only[go_sem,simprocAttr]|refine Sx.s ?_ ?_<;>try(intro h;have h':=h;try simp only[HB]at h';try rewrite [h];try simp only[h])|refine Ab (xt _) ?_|refine Ac ?_|refine Sz.s ?_|fail)
 all_goals(refine Zae (I.int .i64) ?_;simp only[DQ];first|done|(grind(splits:=20)))
def PF(a b:AQ):Int:=if Op.bytesLess a b=true then-1 else if a=b then 0 else 1
theorem xv(a b:AQ):Is mx 91 [.str a,.str b] (iI (PF a b)):=by
 refine MX F91 ?_
 (repeat' first|simp(disch:=omega)only[go_sem,simprocAttr]|refine Sx.s ?_ ?_<;>try(intro h;have h':=h;try simp only[HB]at h';try rewrite [h];try simp only[h])|refine Ab (xu _) ?_|refine Ac ?_|refine Sz.s ?_|fail)
 all_goals(refine Zae (I.int .i64) ?_;simp only[PF];first|done|(grind(splits:=20)))
def orR(l:List Int):Int:=(l.find? fun x=>decide (x≠0)).getD 0
theorem aI(l:List Int)(hl:l.length<=1073741824):Is mx 70 [.sl (l.map fun x=>[iI x])] (iI (orR l)):=by
 refine MX F70 ?_;refine Od ?_;refine lS [3,6,7] (fun i=>[(8,.i (iI i))]) (fun _=>[]) (fun i=>(l.take i).all (fun x=>!decide (x≠0))=true) l.length ?_;intro i hi jb;by_cases ja:i<l.length
 ·by_cases hn:l.getD i default=0
  ·refine lY (cj (BV ja) hn) ?_;exact BW (d:=default) jb ja (by rw[hn];decide)
  ·have hf:=LR (p:=fun x:Int=>decide (x≠0)) jb ja (Za5 hn);rw[orR,hf];refine A8 (cj (BV ja) hn) ?_
   try rfl
 ·rw[orR,LS jb ja];refine FU (Hi ja) ?_
  try rfl
theorem or2(a b:Int):orR [a,b]=if a≠0 then a else b:=by grind[orR]
theorem xw(a b:Fid):Ct a b=if a=b then 0 else orR [PF a.source b.source,DQ a.seq b.seq]:=by grind[or2,Ct,PF,aG,DQ]
theorem aJ(a b:Fid):Is mx 55 [.agg (Am a),.agg (Am b)] (iI (Ct a b)):=by
 have h1:=xv (mx:=mx) a.source b.source;have h2:=aH (mx:=mx) a.seq b.seq;have h3:=aI (mx:=mx) [PF a.source b.source,DQ a.seq b.seq] (by simp);have hR:=xw a b;have xe:(decide (a.source=b.source)&&decide (a.seq=b.seq))=decide (a=b):=(Hc _ _).symm;simp only[Ze1,Ze5]at h3;rw[hR];refine MX F55 ?_;by_cases he:a=b
 ·rw[Zaa he];rw[Za5 he]at xe;exact FU (cj @DA (cj @DB xe)) trivial
 ·rw[Zac he];rw[Zba he]at xe;exact FU (cj h1 (cj h2 (cj h3 (cj @DA (cj @DB xe))))) trivial
theorem aK(a b:Rw):Is mx 36 [.agg (JI a),.agg (JI b)] (iI (Dk a b)):=by
 have h1:=aH (mx:=mx) a.event b.event;have h2:=aJ (mx:=mx) a.id b.id;have h3:=aI (mx:=mx) [DQ a.event b.event,Ct a.id b.id] (by simp);have hR:Dk a b=orR [DQ a.event b.event,Ct a.id b.id]:=by rw[or2];rfl
 simp only[Ze1,Ze5]at h3;rw[hR];refine MX F36 ?_;exact FU (cj h1 (cj h2 h3)) trivial
theorem RG(f:Fct):Is mx 35 [.agg (BJ f)] (.agg (Am (AO f))):=by
 refine MX F35 ?_;refine eP (cj ?_ ?_)
 ·intro h h';simp[AO,h']
 ·intro h h';simp[AO,h']
theorem xy(s:AQ):decide (FA ⟨5,0,s⟩=0)=LP s:=by rw[<-ZL,Zb2];grind[ck5,Pp,inR,LP]
theorem xz(s:AQ):Is mx 104 [.str s] (.bool (LP s)):=by have h1:=TO (mx:=mx) ⟨5,0,s⟩;rw[<-xy];refine MX mh ?_;exact EV h1 trivial
theorem xA(f:Fct):Is mx 74 [.agg (BJ f)] (.bool (KA f)):=by
 refine MX F74 ?_
 (repeat' first|exact Ao _|simp(disch:=omega)only[go_sem,simprocAttr]|refine' Av (fun hq=>?_) (fun f=>?_)<;>try(have jd:=hq;try simp only[HB]at jd)|refine Sx.s ?_ ?_<;>try(intro h;have h':=h;try simp only[HB]at h';try rewrite [h];try simp only[h])|refine Ab (Fz _) ?_|refine Ab (xz _) ?_|refine Ac ?_|refine Sz.s ?_|fail)
 all_goals(refine Zae I.bool ?_;simp only[KA,UH,UI,G4];first|done|(grind(splits:=20)))
theorem RH(c:Cat)(name:AQ)(hc:c.tables.length<=1073741824):Is mx 23 [.agg (Ap c),.str name] (Gi (AV c.tables name)):=by
 refine MX F23 ?_
 (repeat' first|simp(disch:=omega)only[go_sem,simprocAttr]|fail)
 refine Df [1,4,9,10] (by simp only[V0,JK,reduceIte,Nat.reduceEqDiff];rfl) (fun i=>[(11,.i (iI i))]) (fun _=>[(4,.cells Z1)]) (fun i=>(c.tables.take i).all (fun f=>!decide (f.name=name))=true) c.tables.length 0 (by omega) (by simp) (by simp[V0,H0,Ref.nm,D.nms,Oe]) ?_;intro i hi jb;by_cases ja:i<c.tables.length
 ·by_cases hn:(c.tables.getD i default).name=name
  ·have hf:=LR (p:=fun f=>decide (f.name=name)) jb ja (by simpa using hn);rw[AV,hf]
   (repeat' first|simp(disch:=omega)only[go_sem,simprocAttr,BV ja,Za8 hn]|refine Ac ?_|refine Sz.s ?_|fail)
   try rfl
  ·refine La (cj (BV ja) hn) ?_;exact BW (d:=default) jb ja (by simpa using hn)
 ·rw[AV,LS jb ja];refine FU (Hi ja) ?_
  try rfl
end
section
structure SLt{α:Type}(lt:α->α->Prop):Prop where
 irr:∀a,¬lt a a
 tr:∀a b c,lt a b->lt b c->lt a c
theorem KD{α:Type}{lt:α->α->Prop}(h:SLt lt):∀{l m:List α},l.Pairwise lt->m.Pairwise lt->(∀x,x∈l↔x∈m)->l=m
 |[],[],_,_,_=>rfl
 |[],b::m,_,_,e=>by have:=(e b).2 (by simp);simp at this
 |a::l,[],_,_,e=>by have:=(e a).1 (by simp);simp at this
 |a::l,b::m,hl,hm,e=>by
  have hl':=Zfy.1 hl;have hm':=Zfy.1 hm;have hab:a=b:=by
   rcases Zfb.1 ((e a).1 (by simp))with h1|h1
   ·exact h1
   ·rcases Zfb.1 ((e b).2 (by simp))with h2|h2
    ·exact h2.symm
    ·exact absurd (h.tr _ _ _ (hl'.1 b h2) (hm'.1 a h1)) (h.irr a)
  subst hab;congr 1;refine KD h hl'.2 hm'.2 fun x=>⟨fun hx=>?_,fun hx=>?_⟩
  ·rcases Zfb.1 ((e x).1 (Zfc _ hx))with h1|h1
   ·subst h1;exact absurd (hl'.1 _ hx) (h.irr _)
   ·exact h1
  ·rcases Zfb.1 ((e x).2 (Zfc _ hx))with h1|h1
   ·subst h1;exact absurd (hm'.1 _ hx) (h.irr _)
   ·exact h1
theorem xB{α:Type}{lt:α->α->Prop}(h:SLt lt){l:List α}(hl:l.Pairwise lt):l.Nodup:=List.Pairwise.imp (fun{a b} (hab:lt a b) (e:a=b)=>h.irr a (by rw[<-e]at hab;exact hab)) hl
theorem PG(a:AQ):¬Op.bytesLess a a=true:=by simp[aG]
theorem RI(a b c:AQ)(h:Op.bytesLess a b=true)(k:Op.bytesLess b c=true):Op.bytesLess a c=true:=by grind[PE]
theorem UU(a b:AQ):Op.bytesLess a b=true\/a=b\/Op.bytesLess b a=true:=by grind[PE]
def DC(a b:Fid):Prop:=Ct a b<0
theorem RJ(a b:Fid):DC a b↔Op.bytesLess a.source b.source=true\/(a.source=b.source/\a.seq<b.seq):=by grind[DC,Ct,DQ]
theorem HV:SLt DC where
 irr a h:=by grind[RJ,PG]
 tr a b c h k:=by grind[RJ,RI]
theorem PH(a b:Fid):DC a b\/a=b\/DC b a:=by
 simp only[RJ];rcases UU a.source b.source with h|h|h
 ·exact .inl (.inl h)
 ·rcases Int.lt_trichotomy a.seq b.seq with k|k|k
  ·exact .inl (.inr ⟨h,k⟩)
  ·refine .inr (.inl ?_);cases a;cases b;simp_all
  ·exact .inr (.inr (.inr ⟨h.symm,k⟩))
 ·exact .inr (.inr (.inl h))
theorem aL{α:Type}{p:α->Bool}:∀{l:List α},∀y∈l.take (l.takeWhile p).length,p y=true
 |[],y,h=>by simp at h
 |a::l,y,h=>by
  cases hp:p a
  ·simp[hp]at h
  ·rw[Zf8 hp,Zem,Zgg]at h;rcases Zfb.1 h with e|e
   ·rw[e];exact hp
   ·exact aL y e
theorem aM{α:Type}{p:α->Bool}:∀{l:List α} (h:(l.takeWhile p).length<l.length),p l[(l.takeWhile p).length]=false
 |[],h=>by simp at h
 |a::l,h=>by
  cases hp:p a
  ·simp[hp]
  ·simp only[Zf8 hp,Zem,Zec];exact aM (by simpa[Zf8 hp]using h)
theorem aN{α:Type}{lt:α->α->Prop}{l:List α}{x:α}{k:Nat}(hl:l.Pairwise lt)(h1:∀y∈l.take k,lt y x)(h2:∀y∈l.drop k,lt x y):(Bg l k x).Pairwise lt:=by
 have hs:(l.take k++l.drop k).Pairwise lt:=by simp_all
 grind[Bg]
theorem aO{α:Type}{l:List α}{k:Nat}{x y:α}:y∈Bg l k x↔y=x\/y∈l:=by
 have:y∈l↔y∈l.take k\/y∈l.drop k:=by rw[<-Ze9,Zga]
 grind[Bg]
theorem NM{l:List Fid}{id x:Fid}:x∈Ep l id↔x=id\/x∈l:=by grind[Ep,At,aO]
theorem UV{l:List Fid}{id:Fid}(hl:l.Pairwise DC):(Ep l id).Pairwise DC:=by
 unfold Ep;split
 ·exact hl
 ·rename_i jg;have h1:∀y∈l.take (cutI l id),DC y id:=fun y hy=>by simpa[DC]using aL (p:=fun y=>decide (Ct y id<0)) y hy
  refine aN hl h1 ?_;by_cases hk:cutI l id<l.length
  ·have h2:=aM (p:=fun y=>decide (Ct y id<0)) hk;have hd:l.drop (cutI l id)=l[cutI l id]::l.drop (cutI l id+1):=Zc8 hk;have jn:DC id l[cutI l id]:=by
    rcases PH l[cutI l id] id with h|h|h
    ·exfalso;have h3:decide (Ct l[cutI l id] id<0)=false:=h2;rw[Za4]at h3;exact h3 h
    ·exact absurd ⟨hk,by rw[AK hk];exact h⟩ jg
    ·exact h
   have hs:(l.drop (cutI l id)).Pairwise DC:=List.Pairwise.sublist (List.drop_sublist _ _) hl;rw[hd,Zfy]at hs;rw[hd];intro y hy;rcases Zfb.1 hy with e|e
   ·rw[e];exact jn
   ·exact HV.tr _ _ _ jn (hs.1 y e)
  ·rw[Zdc (by omega)];simp
theorem NN(l:List Fid)(id:Fid):Er l id=true↔id∈l:=by simp[Er]
theorem NO(c:Cat)(x:Ers):∀(l:List Ent) (ids:List Fid) (y:Fid),y∈DR l c x ids↔y∈ids\/∃e∈l,e.kind=1/\e.fact.kind≠3/\e.fact.key=x.key/\(∃t,AV c.tables e.fact.table=some t/\t.entity=x.entity)/\y=AO e.fact
 |[],ids,y=>by simp[DR]
 |e::l,ids,y=>by have ih:=NO c x l (JA c x ids e) y;grind[DR,JA,AV,AO,NM]
theorem RK(c:Cat)(x:Ers):∀(l:List Ent) (ids:List Fid),ids.Pairwise DC->(DR l c x ids).Pairwise DC
 |[],ids,h=>h
 |e::l,ids,h=>by
  simp only[DR,Zdt];refine RK c x l _ ?_;unfold JA;repeat' split
  all_goals first|exact h|exact UV h
theorem PI(l:List Ent):∀i,(Bl l i).Pairwise DC
 |0=>List.Pairwise.nil
 |i+1=>by
  unfold Bl;repeat' split
  ·exact PI l i
  ·exact UV (PI l i)
  ·exact RK _ _ _ _ (PI l i)
end
section
open Go.Sort Go.RowKit Go.Shelf
def Es(l:List Fid):List Fid:=l.mergeSort fun a b=>!decide (Ct b a<0)
theorem aP:SWO fun x y:Fid=>decide (Ct x y<0) where
 irrefl x:=by have:=HV.irr x;unfold DC at this;simpa using this
 trans x y z h k:=by rw[Za0]at*;exact HV.tr x y z h k
 ntrans x y z h k:=by
  rw[Za4]at*;intro hxz;rcases PH x y with q|q|q
  ·exact h q
  ·subst q;exact k hxz
  ·exact k (HV.tr y x z q hxz)
theorem PJ(l:List Fid):(Es l).Perm l:=Zfr l _
theorem UW(l:List Fid):(Es l).Pairwise fun x y=>¬Ct y x<0:=by
 have:=Zf2 (le:=fun a b:Fid=>!decide (Ct b a<0)) (fun a b c h k=>by
  simp only[Zb7,Za4]at*;intro hca;have:=aP.ntrans c b a (by simpa using k) (by simpa using h);rw[Za4]at this;exact this hca) (fun a b=>by
  simp only[Zcb,Zb7,Za4];by_cases h:Ct b a<0
  ·exact .inr fun k=>HV.irr a (HV.tr a b a k h)
  ·exact .inl h) l
 exact this.imp fun h=>by simpa using h
theorem UX{l l':List Fid}(hp:l'.Perm l)(hs:l'.Pairwise fun x y=>¬Ct y x<0):l'=Es l:=
 (hp.trans (PJ l).symm).eq_of_pairwise (fun x y _ _ h1 h2=>by
  rcases PH x y with q|q|q
  ·exact absurd q h2
  ·exact q
  ·exact absurd q h1) hs (UW l)
theorem xC(l:List Fid):(Es l).length=l.length:=(PJ l).length_eq
theorem xD(l:List Fid)(hl:l.length<4611686018427387904):MC Tryz.prog (Mi mx) 54 [.ref (.sl 5000 2 0 l.length),.i (.fn 55 [] [])] [(5000,.rows 30 2 (l.map Am))] []
  (fun r s=>r=.i (.tup [])/\s=[(5000,.rows 30 2 ((Es l).map Am))]):=by
 refine(Y8 (mx:=mx) Tryz.sortFid rfl 2 30 (by decide) (fun w=>by rfl) (fun w=>by rfl) (by kernel_rfl) (by kernel_rfl) Am NJ NL Ct aP (fun x y=>aJ x y) l hl (by decide)).mono ?_;rintro r s ⟨h1,l',h2,h3,h4⟩;exact⟨h1,by rw[h4,UX h2 h3]⟩
def BE(a b:Rw):Prop:=Dk a b<0
theorem L5(a b:Rw):BE a b↔a.event<b.event\/(a.event=b.event/\DC a.id b.id):=by grind[BE,Dk,DQ,DC]
theorem HW:SLt BE where
 irr a h:=by rcases(L5 a a).1 h with h|h;omega;exact HV.irr _ h.2
 tr a b c h k:=by
  rw[L5]at*;rcases h with h|⟨h1,h2⟩<;>rcases k with k|⟨k1,k2⟩
  ·exact .inl (by omega)
  ·exact .inl (by omega)
  ·exact .inl (by omega)
  ·exact .inr ⟨by omega,HV.tr _ _ _ h2 k2⟩
theorem RL(a b:Rw):BE a b\/(a.event=b.event/\a.id=b.id)\/BE b a:=by grind[L5,PH]
theorem aQ:SWO fun x y:Rw=>decide (Dk x y<0) where
 irrefl x:=by have:=HW.irr x;unfold BE at this;simpa using this
 trans x y z h k:=by rw[Za0]at*;exact HW.tr x y z h k
 ntrans x y z h k:=by
  rw[Za4]at*;intro hxz;rcases RL x y with q|q|q
  ·exact h q
  ·have:BE y z:=by have hxz:BE x z:=hxz;rw[L5]at hxz⊢;rw[<-q.1,<-q.2];exact hxz
   exact k this
  ·exact k (HW.tr y x z q hxz)
theorem xE(l m:List Rw)(hl:l.length<4611686018427387904)(hm:m.Pairwise BE)(hp:m.Perm l):MC Tryz.prog (Mi mx) 53 [.ref (.sl 5000 8 0 l.length),.i (.fn 36 [] [])] [(5000,.rows 68 8 (l.map JI))] []
  (fun r s=>r=.i (.tup [])/\s=[(5000,.rows 68 8 (m.map JI))]):=by
 refine(Y8 (mx:=mx) Tryz.sortRow rfl 8 68 (by decide) (fun w=>by rfl) (fun w=>by rfl) (by kernel_rfl) (by kernel_rfl) JI (fun _=>rfl) (fun _=>rfl) Dk aQ (fun x y=>aK x y) l hl (by decide)).mono ?_;rintro r s ⟨h1,l',h2,h3,h4⟩;refine⟨h1,?_⟩;have hpm:l'.Perm m:=h2.trans hp.symm;have hs:l'.Pairwise BE:=by
  have hn:m.Pairwise fun x y=>BE x y\/BE y x:=hm.imp fun h=>.inl h
  have hn2:l'.Pairwise fun x y=>BE x y\/BE y x:=(hpm.pairwise_iff (fun{a b} (h:BE a b\/BE b a)=>h.symm)).2 hn
  rw[Zfz]at hn2 h3⊢;intro i j hi hj hij;rcases hn2 i j hi hj hij with q|q
  ·exact q
  ·exact absurd q (h3 i j hi hj hij)
 rw[h4,KD HW hs hm fun x=>hpm.mem_iff]
end
section
def Hd:List (Mk×List Fid)->Mk->Fid->List (Mk×List Fid)
 |[],w,x=>[(w,[x])]
 |p::r,w,x=>if p.1=w then(w,p.2++[x])::r else p::Hd r w x
def BZ(A:List (Mk×List Fid)):List (Mk×List (List I)):=A.map fun p=>(p.1,p.2.map Am)
theorem aR(A:List (Mk×List Fid))(w:Mk)(x:Fid):Ko (BZ A) w (Am x)=BZ (Hd A w x):=by
 induction A with
 |nil=>rfl
 |cons p r ih=>grind[BZ,Ko,Hd]
theorem UY(A:List (Mk×List Fid)):(BZ A).length=A.length:=by simp[BZ]
structure ErS where
 ids:List (Fid×Bool)
 kinds:List (AQ×AQ)
 about:List (Mk×List Fid)
def ES(ids:List (Fid×Bool))(l:List Fid):List (Fid×Bool):=l.foldl (fun a id=>AM a id true) ids
def RM(s:ErS)(f:Fct):Mk:=((Al s.kinds f.table).getD [],f.key)
def eT(s:ErS)(x:Ent):ErS:=
 if x.kind=3/\x.change.kind=1 then⟨s.ids,AM s.kinds x.change.table.name x.change.table.entity,s.about⟩
 else if x.kind=1/\x.fact.kind≠3 then⟨s.ids,s.kinds,Hd s.about (RM s x.fact) (AO x.fact)⟩
 else if x.kind=2/\x.erasure.kind=2 then⟨AM s.ids x.erasure.id true,s.kinds,s.about⟩
 else if x.kind=2 then⟨ES s.ids ((Al s.about (x.erasure.entity,x.erasure.key)).getD []),s.kinds,s.about⟩
 else s
def Mj(l:List Ent)(i:Nat):ErS:=(l.take i).foldl eT ⟨[],[],[]⟩
theorem KE{l:List Ent}{i:Nat}(h:i<l.length):Mj l (i+1)=eT (Mj l i) (l.getD i default):=by grind[Mj,BM]
def UZ(n:Nat)(s:ErS):Prop:=∀p∈s.about,p.2.length<=n
theorem xF{n:Nat}{A:List (Mk×List Fid)}{w:Mk}{x:Fid}(h:∀p∈A,p.2.length<=n):∀p∈Hd A w x,p.2.length<=n+1:=by
 induction A with
 |nil=>intro p hp;simp[Hd]at hp;subst hp;simp
 |cons q r ih=>intro p hp;grind[Hd]
theorem xG{n:Nat}{s:ErS}{x:Ent}(h:UZ n s):UZ (n+1) (eT s x):=by
 unfold eT
 repeat' split
 ·exact fun p hp=>Zgv (h p hp)
 ·exact xF h
 ·exact fun p hp=>Zgv (h p hp)
 ·exact fun p hp=>Zgv (h p hp)
 ·exact fun p hp=>Zgv (h p hp)
theorem U0(l:List Ent):∀i,i<=l.length->UZ i (Mj l i)
 |0,_=>fun p hp=>by grind[Mj]
 |i+1,h=>by rw[KE (by omega)];exact xG (U0 l i (by omega))
def He(l:List (Fid×Bool)):List (I×I):=l.map fun p=>(.agg (Am p.1),.bool p.2)
def L6(l:List (AQ×AQ)):List (I×I):=l.map fun p=>(.str p.1,.str p.2)
theorem U1(l:List (Fid×Bool))(id:Fid):DV (He l) (.agg [.str id.source,.int .i64 id.seq]) (.bool true)=He (AM l id true):=MW (eK:=fun id:Fid=>I.agg (Am id)) (f:=I.bool) QX l id true
theorem xH(l:List (AQ×AQ))(k v:AQ):DV (L6 l) (.str k) (.str v)=L6 (AM l k v):=MW (f:=I.str) Jd l k v
theorem xI(l:List (AQ×AQ))(k:AQ):CF (L6 l) (.str k) (.str []) false=.str ((Al l k).getD []):=MY (f:=I.str) Jd l k []
@[go_sem] theorem aJ8(d e kk k:Nat)(A:List (Mk×List (List I)))(σ:List (Nat×Blk)):Be (BK d e kk k A) σ=∀j p,A[j]? =some p->Aa σ (Ar d (k+j))=some (.rows e kk p.2):=by
 induction A generalizing k with
 |nil=>simp[BK,Be]
 |cons q r ih=>
  simp only[BK,Be,ih];refine propext ⟨fun⟨h1,h2⟩ j p hp=>?_,fun h=>⟨?_,fun j p hp=>?_⟩⟩
  ·cases j with
   |zero=>simp at hp;subst hp;exact h1
   |succ j=>have:=h2 j p (by simpa using hp);rw[show k+(j+1)=k+1+j from by omega];exact this
  ·have:=h 0 q rfl;simpa using this
  ·have:=h (j+1) p (by simpa using hp);rw[show k+1+j=k+(j+1)from by omega];exact this
@[go_sem] theorem aJ9(S:List (Nat×Blk))(d e kk k:Nat)(A:List (Mk×List (List I))):PW S (BK d e kk k A)=true:=by
 induction A generalizing k with
 |nil=>rfl
 |cons q r ih=>simp only[BK,PW,ih];rfl
@[go_sem] theorem aJa(ls:List LK)(clk d kk:Nat)(A:List (Mk×List (List I))):Blk.nms (.gmap ls clk (VK d kk 0 A))=(List.range A.length).map (Ar d):=by have:=Y6 d kk A 0;simp only[Zg8]at this;exact this
@[go_sem] theorem aJb(n1 n2 n3:Nat)(b1 b2 b3:Blk)(d e kk:Nat)(A:List (Mk×List (List I)))(h1:n1<7000)(h2:n2<7000)(h3:n3<7000):Oe ((n1,b1)::(n2,b2)::(n3,b3)::BK d e kk 0 A) ((List.range A.length).map (Ar d))=true:=by
 unfold Oe;rw[Zcu];intro nm jl;obtain⟨j,hj,rfl⟩:=Zfh.1 jl;have hj:=Zfn.1 hj;have e1:∀k,k<7000->¬k=Ar d j:=fun k hk=>by grind[Ar]
 have:=FF d e kk A 0 j;simp_all[Aa,e1]
attribute [go_sem] Y4
@[go_sem] theorem aJc(d e kk k:Nat)(A:List (Mk×List (List I)))(n m:Nat)(b:Blk):Aa (B7 (BK d e kk k A) n b) m=if m=n then(Aa (BK d e kk k A) n).map (fun _=>b)else Aa (BK d e kk k A) m:=CO _ _ _ _
theorem RN(l:List Ent)(hl:l.length<=1000000):Is mx 49 [.sl (l.map Ae)] (.map (He (Mj l l.length).ids)):=by
 refine MX F49 ?_
 (repeat' first|simp(disch:=omega)only[go_sem,simprocAttr]|fail)
 refine A4 [3,4,5,14,15] (by simp only[V0,JK,reduceIte,Nat.reduceEqDiff];rfl) (fun i:Nat=>[(16,.i (iI i))]) (fun i=>(11,.map [.g,.s,.i .i64] (He (Mj l i).ids))::(12,.gmap [.g,.s,.s] (Mj l i).about.length (VK 65 2 0 (BZ (Mj l i).about)))::(13,.map [.s] (L6 (Mj l i).kinds))::BK 65 30 2 0 (BZ (Mj l i).about))
  (fun i=>i<=l.length) (fun i=>l.length-i) 0 (by simp) (by simp[V0,H0,JJ,Ref.nm,Mj,BZ,VK,BK,He,L6,Be,PW,rW]) ?_
 intro i hi;by_cases ja:i<l.length
 ·have hsm:=U0 l i hi;have qb:=KE ja;generalize Mj l i=s at hsm qb;have b1:=RG (mx:=mx) (l.getD i default).fact;have ww:=UY s.about;by_cases h1:(l.getD i default).kind=3/\(l.getD i default).change.kind=1
  ·rw[eT,Zaa h1]at qb;refine FU (cj (BV ja) (cj @AN (cj h1.1 (cj h1.2 (cj @xH (cj @Ay.eq_1 (cj @AH.eq_1 @Bc.eq_1))))))) ?_;exact⟨i+1,by omega,by omega,rfl,by rw[qb],by rw[qb],by rw[qb],fun j p hp=>by rw[qb]at hp;rw[FF,hp];rfl⟩
  ·rw[eT,Zac h1]at qb;have h1':∀b1 b2,decide ((l.getD i default).kind=3)=b1->decide ((l.getD i default).change.kind=1)=b2->(b1&&b2)=false:=fun b1 b2 e1 e2=>by grind
   by_cases h2:(l.getD i default).kind=1/\(l.getD i default).fact.kind≠3
   ·rw[Zaa h2]at qb;have qf:¬(l.getD i default).kind=3:=by omega
    have hro:=HT NJ NL (AO (l.getD i default).fact);simp only[Am]at hro;have kn:=xI s.kinds (l.getD i default).fact.table;have hw:RM s (l.getD i default).fact=((Al s.kinds (l.getD i default).fact.table).getD [],(l.getD i default).fact.key):=rfl;generalize hwg:((Al s.kinds (l.getD i default).fact.table).getD []:AQ)=wa at kn hw;have hgi:=TW 65 2 (wa,(l.getD i default).fact.key) (BZ s.about) 0;cases vp:(BZ s.about).findIdx? (fun p=>decide (p.1=(wa,(l.getD i default).fact.key)))with
    |none=>
     rw[vp]at hgi;have ha:=rY (x:=Am (AO (l.getD i default).fact)) vp;rw[aR]at ha;have w5:=sj 65 30 2 (BZ s.about);have ku:=se 65 2 (BZ s.about) (wa,(l.getD i default).fact.key) (Am (AO (l.getD i default).fact)) (.iter none []);rw[<-ha]at ku;have han:=si 65 2 (BZ s.about) (Ir (wa,(l.getD i default).fact.key)) (.iter none []);rw[ww]at w5 ku han
     (repeat' first|simp(disch:=omega)only[go_sem,simprocAttr,BV ja,AN,Za9 qf,Za8 h2.1,Za9 h2.2,Ay,AH,Bc,Zaw,kn,hgi,w5,hro.1,hro.2,han,ku,Am,Zg6,Zaj,Zat,Za1,Za2,Ref.nm]|refine Ab (b1) ?_|refine Ac ?_|refine Au ?_|fail)
     rw[hw]at qb;have je:(Hd s.about (wa,(l.getD i default).fact.key) (AO (l.getD i default).fact)).length=s.about.length+1:=by grind[UY]
     refine⟨i+1,by omega,by omega,rfl,by rw[qb],by rw[qb,je],by rw[qb],fun j p hp=>?_⟩;rw[qb]at hp;simp only at hp;rw[ha]at hp;rw[<-ww];refine su 65 _ 2 hp fun hj=>?_
     have n1:¬Ar 65 (0+j)=12:=by grind[Ar]
     have n2:¬Ar 65 (0+j)=Ar 65 (BZ s.about).length:=by grind[Nb]
     rw[CO,Zac n1,CO,Zac n2]
    |some j=>
     rw[vp]at hgi;obtain⟨hj,hj1,ha⟩:=rZ (x:=Am (AO (l.getD i default).fact)) vp;rw[aR]at ha;have w5:=Pd 65 30 2 hj;have hgj:=Y7 65 2 hj;have ku:=sd 65 2 hj (wa,(l.getD i default).fact.key) (Am (AO (l.getD i default).fact)) (.iter none []);rw[<-ha]at ku;have han:=sf 65 2 hj (Ir (wa,(l.getD i default).fact.key)) (.iter none []);have hln:(BZ s.about)[j].2.length<=i:=by have:=hsm (s.about[j]'(by omega)) (Zef _);grind[BZ]
     have kc:List.take (BZ s.about)[j].2.length (BZ s.about)[j].2=(BZ s.about)[j].2:=Zgd;generalize hrj:(BZ s.about)[j].2=rj at w5 hgj ku ha hln kc
     (repeat' first|simp(disch:=omega)only[go_sem,simprocAttr,BV ja,AN,Za9 qf,Za8 h2.1,Za9 h2.2,Ay,AH,Bc,Zaw,kn,hgi,hgj,w5,hro.1,hro.2,han,ku,Am,Zg6,Zaj,Zat,Za1,Za2,Ref.nm,kc]|refine Ab (b1) ?_|refine Ac ?_|refine Au ?_|(refine And.intro ?_ ?_;focus omega))
     rw[hw]at qb;have je:(Hd s.about (wa,(l.getD i default).fact.key) (AO (l.getD i default).fact)).length=s.about.length:=by grind[UY]
     refine⟨i+1,by omega,by omega,rfl,by rw[qb],by rw[qb,je],by rw[qb],fun j1 p hp=>?_⟩;rw[qb]at hp;simp only at hp;rw[ha]at hp;have n1:¬Ar 65 (0+j1)=12:=by grind[Ar]
     rw[CO,Zac n1,CO,Pd 65 _ 2 hj];exact sv 65 _ 2 hj hp (fun _=>rfl)
   ·rw[Zac h2]at qb;by_cases qe:(l.getD i default).kind=2
    ·have qf:¬(l.getD i default).kind=3:=by rw[qe];decide
     have qc:¬(l.getD i default).kind=1:=by omega
     by_cases h3:(l.getD i default).erasure.kind=2
     ·rw[Zaa ⟨qe,h3⟩]at qb
      (repeat' first|simp(disch:=omega)only[go_sem,simprocAttr,BV ja,AN,Za9 qf,Za9 qc,Za8 qe,Za8 h3,U1,Ay,AH,Bc,Zaw]|refine Ac ?_|fail)
      exact⟨i+1,by omega,by omega,rfl,by rw[qb],by rw[qb],by rw[qb],fun j p hp=>by rw[qb]at hp;rw[FF,hp];rfl⟩
     ·rw[Zac (fun q=>h3 q.2),Zaa qe]at qb;have hgi:=TW 65 2 ((l.getD i default).erasure.entity,(l.getD i default).erasure.key) (BZ s.about) 0;have hgf:(BZ s.about).findIdx? (fun p=>decide (p.1=((l.getD i default).erasure.entity,(l.getD i default).erasure.key)))=s.about.findIdx? (fun p=>decide (p.1=((l.getD i default).erasure.entity,(l.getD i default).erasure.key))):=by simp only[BZ,List.findIdx?_map];rfl
      rw[hgf]at hgi;cases vp:s.about.findIdx? (fun p=>decide (p.1=((l.getD i default).erasure.entity,(l.getD i default).erasure.key)))with
      |none=>
       rw[vp]at hgi;rw[sx vp]at qb;have hgg:=sr hgi;refine A8 (cj (BV ja) (cj @AN (cj qf (cj qc (cj qe (cj h3 (cj @Ay.eq_1 (cj @AH.eq_1 (cj @Bc.eq_1 hgg))))))))) ?_;refine A4 [3,4,5,14,15,16,94,95] (by simp only[V0,JK,reduceIte,Nat.reduceEqDiff];rfl) (fun _:Unit=>[(96,.i (iI 0))]) (fun _=>(11,.map [.g,.s,.i .i64] (He s.ids))::(12,.gmap [.g,.s,.s] s.about.length (VK 65 2 0 (BZ s.about)))::(13,.map [.s] (L6 s.kinds))::BK 65 30 2 0 (BZ s.about)) (fun _=>True) (fun _=>0) () trivial ?_ ?_
       ·simp(disch:=omega)only[go_sem,Nat.reduceEqDiff];exact fun j p hp=>by rw[FF,hp];rfl
       ·intro _ _;refine eS ?_;exact⟨i+1,by omega,by omega,rfl,by rw[qb];rfl,by rw[qb],by rw[qb],fun j p hp=>by rw[qb]at hp;rw[FF,hp];rfl⟩
      |some j=>
       rw[vp]at hgi;obtain⟨hj0,hag⟩:=aget_some vp;rw[hag]at qb;have hj:j<(BZ s.about).length:=by omega
       have hgg:=sk 65 2 hgi hj;have w5:=Pd 65 30 2 hj;have hrj:(BZ s.about)[j].2=s.about[j].2.map Am:=by simp[BZ]
       have hln:=hsm s.about[j] (Zef _);rw[hrj]at hgg w5;simp only[Zhh]at qb;generalize s.about[j].2=L at hgg w5 hln qb;refine A8 (cj (BV ja) (cj @AN (cj qf (cj qc (cj qe (cj h3 (cj @Ay.eq_1 (cj @AH.eq_1 (cj @Bc.eq_1 hgg))))))))) ?_;refine A4 [3,4,5,14,15,16,94,95] (by simp only[V0,JK,reduceIte,Nat.reduceEqDiff];rfl) (fun k:Nat=>[(96,.i (iI k))]) (fun k=>(11,.map [.g,.s,.i .i64] (He (ES s.ids (L.take k))))::(12,.gmap [.g,.s,.s] s.about.length (VK 65 2 0 (BZ s.about)))::(13,.map [.s] (L6 s.kinds))::BK 65 30 2 0 (BZ s.about)) (fun k=>k<=L.length) (fun k=>L.length-k) 0 (by omega) ?_ ?_
       ·simp(disch:=omega)only[go_sem,Nat.reduceEqDiff,w5];exact⟨rfl,rfl,fun j p hp=>by rw[FF,hp];rfl⟩
       ·intro k hk;by_cases wj:k<L.length
        ·have jo:ES s.ids (L.take (k+1))=AM (ES s.ids (L.take k)) (L.getD k default) true:=by grind[BM,ES]
         refine lY (cj (BV wj) (cj @Ay.eq_1 (cj @AH.eq_1 (cj @Bc.eq_1 (cj w5 (cj @Am.eq_1 @U1)))))) ?_;exact⟨k+1,by omega,by omega,rfl,by rw[jo],fun j p hp=>by have:=FF 65 30 2 (BZ s.about) 0 j;rw[Zg8,hp]at this;exact this⟩
        ·have e:k=L.length:=by omega
         subst e;rw[Zgd];refine FU (Hi wj) ?_;exact⟨i+1,by omega,by omega,rfl,by rw[qb],by rw[qb],by rw[qb],fun j p hp=>by rw[qb]at hp;rw[FF,hp];rfl⟩
    ·rw[Zac (fun q=>qe q.1),Zac qe]at qb;have done:i+1<=l.length->l.length-(i+1)<l.length-i:=by omega
     by_cases qf:(l.getD i default).kind=3
     ·have hc:¬(l.getD i default).change.kind=1:=fun e=>h1 ⟨qf,e⟩
      have qc:¬(l.getD i default).kind=1:=by omega
      refine FU (cj (BV ja) (cj @AN (cj qf (cj hc (cj qc qe))))) ?_;exact⟨i+1,by omega,by omega,rfl,by rw[qb],by rw[qb],by rw[qb],fun j p hp=>by rw[qb]at hp;rw[FF,hp];rfl⟩
     ·by_cases qc:(l.getD i default).kind=1
      ·have hf:(l.getD i default).fact.kind=3:=Zci fun e=>h2 ⟨qc,e⟩
       (repeat' first|simp(disch:=omega)only[go_sem,simprocAttr,BV ja,AN,Za9 qf,Za8 qc,Za8 hf,Za9 qe,Zaj,Za3,Za1,Za2]|refine Ac ?_|fail)
       exact⟨i+1,by omega,by omega,rfl,by rw[qb],by rw[qb],by rw[qb],fun j p hp=>by rw[qb]at hp;rw[FF,hp];rfl⟩
      ·refine FU (cj (BV ja) (cj @AN (cj qf (cj qc qe)))) ?_;exact⟨i+1,by omega,by omega,rfl,by rw[qb],by rw[qb],by rw[qb],fun j p hp=>by rw[qb]at hp;rw[FF,hp];rfl⟩
 ·have e:i=l.length:=by omega
  subst e;exact FU (Hi ja) trivial
end
section
theorem aS(nm:Nat)(hn:nm<5000)(l:List Fid)(hl:l.length<4611686018427387904):MC Tryz.prog (Mi mx) 54 [.ref (.sl nm 2 0 l.length),.i (.fn 55 [] [])] [(nm,.rows 30 2 (l.map Am))] []
  (fun r s=>r=.i (.tup [])/\s=[(nm,.rows 30 2 ((Es l).map Am))]):=by
 have e1:KN [(5000,nm)] 5000=nm:=by rfl
 have h:=(MC.as [(5000,nm)] (xD (mx:=mx) l hl)).mono (R':=fun r s=>r=.i (.tup [])/\s=[(nm,.rows 30 2 ((Es l).map Am))]) (by
  rintro r s ⟨h1,h2⟩;have k:=DX (f:=IM [(5000,nm)]) (g:=KN [(5000,nm)]) (BQ _) r;have k2:=E2 (f:=IM [(5000,nm)]) (g:=KN [(5000,nm)]) (BQ _) s;rw[h1]at k;rw[h2]at k2;refine⟨k.symm,?_⟩;rw[<-k2];simp only[IL,KL,e1])
 simp only[Ze1,Ze5,I8,OF,IL,KL,e1]at h;exact h
theorem xJ{a b:List Fid}(h:a.Perm b):Es a=Es b:=UX ((PJ a).trans h) (UW a)
theorem aT(L:List Fid):∀ids:List (Fid×Bool),(ES ids L).length<=ids.length+L.length:=by
 induction L with
 |nil=>intro ids;simp[ES]
 |cons x r ih=>
  intro ids;have h1:=ih (AM ids x true);have h2:(AM ids x true).length<=ids.length+1:=by have:=Kl ids x true;have h3:=Zae List.length this;grind
  grind[ES]
theorem xK(ids:List (Fid×Bool))(x:Fid):(AM ids x true).length<=ids.length+1:=by have:=aT [x] ids;grind[ES]
theorem xL{A:List (Mk×List Fid)}{w:Mk}{L:List Fid}(h:Al A w=some L):∃p∈A,p.2=L:=by
 induction A with
 |nil=>cases h
 |cons q r ih=>grind[Al]
theorem aU(l:List Ent):∀i,i<=l.length->(Mj l i).ids.length<=i*(l.length+1)
 |0,_=>by simp[Mj]
 |i+1,h=>by
  have ih:=aU l i (by omega);have hs:=U0 l i (by omega);rw[KE (by omega),Zg7];unfold eT
  repeat' split
  ·grind
  ·grind
  ·grind[xK,Mj,AM]
  ·have:=aT ((Al (Mj l i).about ((l.getD i default).erasure.entity,(l.getD i default).erasure.key)).getD []) (Mj l i).ids;have h2:((Al (Mj l i).about ((l.getD i default).erasure.entity,(l.getD i default).erasure.key)).getD []).length<=i:=by
    cases e:Al (Mj l i).about ((l.getD i default).erasure.entity,(l.getD i default).erasure.key)with
    |none=>simp
    |some L=>obtain⟨p,hp,rfl⟩:=xL e;exact hs p hp
   grind
  ·omega
theorem xM{l:List Ent}(h30:l.length<=30000):(Mj l l.length).ids.length<=1000000000:=by have h0:=aU l l.length (Zgu _);have h1:l.length*(l.length+1)<=30000*30001:=Zg3 (by omega) (by omega);omega
theorem RO(l:List Ent)(hl:l.length<=30000):Is mx 21 [.sl (l.map Ae)] (.sl ((Es ((Mj l l.length).ids.map (·.1))).map Am)):=by
 have e0:=RN (mx:=mx) l (by omega);have hb:=xM hl;generalize (Mj l l.length).ids=ids at e0 hb;simp only[He,Am]at e0;refine MX F21 ?_;refine EV e0 ?_;refine lT [6] (fun g:List Fid×List (Fid×Bool)×Option (I×I)=>[(2,.ref (.sl 2 2 0 g.1.length))]) (fun g=>[(6,.iter g.2.2 (g.2.1.map fun p=>(.agg [.str p.1.source,.int .i64 p.1.seq],.bool p.2))),(2,.rows 30 2 (g.1.map Am))]) (fun g=>(g.1++g.2.1.map (·.1)).Perm (ids.map (·.1))) (fun g=>g.2.1.length) ([],ids,none) ?_;rintro⟨acc,rest,cur⟩ jb;have je:=jb.length_eq;simp only[Zel,Zes]at je
 (repeat' first|simp only[go_sem,simprocAttr,Zg6]|(first|refine D2 (aS 2 (by decide) acc (by omega)) ?_ (fun r sto' hR=>?_)|refine Dg (aS 2 (by decide) acc (by omega)) ?_ (fun r sto' hR=>?_);(focus(first|rfl|(simp only[go_sem,simprocAttr,Am,Zg6];done)));first|(obtain⟨rfl,rfl⟩:=hR)|(obtain⟨_,(rfl|rfl),rfl,rfl⟩:=hR))|refine Ac ?_|refine Sz.s ?_|refine Ih (fun hr=>?_) (fun q hq=>?_)|fail)
 ·subst hr;have hms:(Es acc).length=acc.length:=xC acc;rw[Zaa (by rw[hms];exact Zgu _),Zgf (by rw[Zes,hms];exact Zgu _)];have hp:acc.Perm (ids.map (·.1)):=by grind
  rw[<-xJ hp];exact⟨rfl,rfl⟩
 ·refine⟨by simp,by simp[I.one],by omega,by omega,⟨acc++[rest[q].1],rest.eraseIdx q,some (.agg [.str rest[q].1.source,.int .i64 rest[q].1.seq],.bool rest[q].2)⟩,?_,?_,by simp,rfl,?_⟩
  ·refine List.Perm.trans ?_ jb;have:=(Pa hq).map (fun x:Fid×Bool=>x.1);simp only[Ze1]at this;rw[Zc0];exact Zcr acc this
  ·rw[Zep];simp[hq];omega
  ·simp[Am]
def inG(ids:List (Fid×Bool))(id:Fid):Bool:=(Al ids id).getD false
theorem NP(l:List (Fid×Bool))(id:Fid):CF (He l) (.agg [.str id.source,.int .i64 id.seq]) (.bool false) false=.bool (inG l id):=MY (eK:=fun id:Fid=>I.agg (Am id)) (f:=I.bool) QX l id false
def FO(ids:List (Fid×Bool))(e:Ent):Ent:=if e.kind=1/\inG ids (AO e.fact)=true then RF e else e
theorem NQ(l:List (Fid×Bool)):(∀e∈He l,Ay [.g,.s,.i .i64] e.1=true)=True:=Za8 fun e he=>by obtain⟨p,_,rfl⟩:=Zfh.1 he;rfl
theorem xN(l:List Ent)(hl:l.length<=30000):Is mx 16 [.sl (l.map Ae)] (.sl ((l.map (FO (Mj l l.length).ids)).map Ae)):=by
 have e0:=RN (mx:=mx) l (by omega);generalize (Mj l l.length).ids=ids at e0;refine MX F16 ?_;refine EV e0 ?_;refine lT [3,8,9] (fun i:Nat=>[(2,.ref (.sl 2 40 0 i)),(10,.i (iI i))]) (fun i=>[(2,.rows 54 40 (((l.take i).map (FO ids)).map Ae))]) (fun i=>i<=l.length) (fun i=>l.length-i) 0 ?_ (by simp);intro i hi;have qr:((l.take i).map (FO ids)).length=i:=by simp;omega
 by_cases ja:i<l.length
 ·have b1:=RG (mx:=mx) (l.getD i default).fact;have hT:(l.take (i+1)).map (FO ids)=(l.take i).map (FO ids)++[FO ids (l.getD i default)]:=by grind[BM]
  have v7:=HT KC L3 (l.getD i default);have hr2:=HT KC L3 (RF (l.getD i default));rw[AN]at v7 hr2;simp only[RF]at hr2;have kn:=NP ids (AO (l.getD i default).fact);generalize (l.take i).map (FO ids)=acc at qr hT;have kc:List.take i (acc.map Ae)=acc.map Ae:=Zgf (by simp[qr]);by_cases hk:(l.getD i default).kind=1
  ·cases j9:inG ids (AO (l.getD i default).fact)
   ·have hp:FO ids (l.getD i default)=l.getD i default:=by rw[FO,Zac];rw[j9];simp
    rw[hp]at hT;rw[j9]at kn
    (repeat' first|simp(disch:=omega)only[go_sem,simprocAttr,BV ja,AN,Za8 hk,v7.1,v7.2,qr,Zg6,kn,Am,Ay,AH,Bc,Zaw]|refine Sx.s ?_ ?_<;>try(intro h;have h':=h;try simp only[HB]at h';try rewrite [h];try simp only[h])|refine Ab (b1) ?_|refine Ac ?_|fail)
    exact⟨Zbb (NQ ids),by omega,by omega,i+1,by omega,by omega,⟨rfl,rfl⟩,by rw[hT,Zez,Ze1,Ze5,AN (l.getD i default),kc]⟩
   ·have hp:FO ids (l.getD i default)=RF (l.getD i default):=by rw[FO,Zaa ⟨hk,j9⟩]
    rw[hp]at hT;rw[j9]at kn;refine AU (cj b1 (cj (BV ja) (cj @AN (cj hk (cj kn (cj @Am.eq_1 (cj @Ay.eq_1 (cj @AH.eq_1 @Bc.eq_1)))))))) ?_;refine⟨Zbb (NQ ids),?_⟩;refine A8 (cj b1 (cj qr @Am.eq_1)) ?_;exact⟨fun r hr=>by simp only[Zfq]at hr;subst hr;rfl,fun r hr=>by simp only[Zfq]at hr;subst hr;rfl,by omega,by omega,i+1,by omega,by omega,⟨rfl,rfl⟩,by rw[hT,Zez,kc];rfl⟩
  ·have hp:FO ids (l.getD i default)=l.getD i default:=by rw[FO,Zac];exact fun h=>hk h.1
   rw[hp]at hT;refine lY (cj (BV ja) (cj @AN (cj hk (cj v7.1 (cj v7.2 qr))))) ?_;exact⟨i+1,by omega,by omega,⟨rfl,rfl⟩,by rw[hT,Zez,Ze1,Ze5,AN (l.getD i default),kc]⟩
 ·have e:i=l.length:=by omega
  subst e;rw[Zgd]at qr⊢;refine FU (cj (Hi ja) qr) ?_;rw[Zgf (by simp)]
end
section
theorem aV(r:Ref):OF id r=r:=by cases r<;>rfl
theorem xO(c:Cp):mpC id c=c:=by cases c<;>simp[mpC,aV]
theorem xP(l:List Cp):l.map (mpC id)=l:=by
 conv=>rhs;rw[<-Ze3 l]
 exact Ze0 fun c _=>xO c
theorem U2(d:D):I8 id d=d:=by cases d<;>simp[I8,aV,xP]
theorem xQ(l:List D):l.map (I8 id)=l:=by
 conv=>rhs;rw[<-Ze3 l]
 exact Ze0 fun c _=>U2 c
theorem xR(b:Blk):KL id b=b:=by cases b<;>simp[KL,xQ,U2]
theorem aW:∀s:List (Nat×Blk),IL id s=s
 |[]=>rfl
 |(m,b)::r=>by simp only[IL,xR,aW r];rfl
theorem aX:∀(ks:List (Nat×Nat)),(∀p∈ks,p.1=p.2)->kf ks=id
 |[],_=>rfl
 |(a,b)::r,h=>by
  funext m;have e:a=b:=h (a,b) Zfd;have ih:=aX r fun p hp=>h p (Zfc _ hp)
  simp_all[kf]
theorem aY{ns:List Nat}:∀{l:List (Nat×Blk)},(∀p∈l,p.1∉ns)->Cn ns l=[]
 |[],_=>rfl
 |(m,b)::r,h=>by
  have h0:ns.contains m=false:=by simp_all
  simp only[Cn,h0,Zb4,Zag];exact aY fun p hp=>h p (Zfc _ hp)
theorem aZ{ns:List Nat}:∀{l:List (Nat×Blk)},(∀p∈l,p.1∈ns)->Cn ns l=l
 |[],_=>rfl
 |(m,b)::r,h=>by have h0:ns.contains m=true:=Zc4.2 (h (m,b) Zfd);simp only[Cn,h0,Zad];rw[aZ fun p hp=>h p (Zfc _ hp)]
theorem bc{ns:List Nat}:∀(a b:List (Nat×Blk)),Cn ns (a++b)=Cn ns a++Cn ns b
 |[],b=>rfl
 |(m,x)::r,b=>by simp only[Zc3,Cn,bc r b];split<;>rfl
theorem PK{mv:List Nat}{l:List (Nat×Blk)}(h:Sj mv l=true):∀p∈l,5000<=p.1/\p.1<6000:=fun p hp=>Ii h p.1 (Cl.1 (Zfh.2 ⟨p,hp,rfl⟩))
theorem U3{mv:List Nat}{l:List (Nat×Blk)}(h:Sj mv l=true):Ea (l.map (·.1))=true:=by grind[Sj]
theorem L7{mv:List Nat}{l:List (Nat×Blk)}(h:Sj mv l=true){q:Nat}(hq:q<5000):Aa l q=none:=by
 cases hg:Aa l q with
 |none=>rfl
 |some b=>have:=Ii h q (by simp[names,hg]);omega
theorem bf{nm:Nat}{b:Blk}:∀{l:List (Nat×Blk)},(∀p∈l,nm∉p.2.nms)->Sk nm b l=l
 |[],_=>rfl
 |(m,x)::r,h=>by simp only[Sk];rw[Th (h (m,x) Zfd),bf fun p hp=>h p (Zfc _ hp)]
theorem NR{mv:List Nat}{l:List (Nat×Blk)}(h:Sj mv l=true){q:Nat}(hq:q<5000)(b:Blk):Sk q b l=l:=
 bf fun p hp hn=>by have:=Ii h q (TC (EH h) p hp q hn);omega
theorem bg{q:Nat}:∀{l:List (Nat×Blk)},(∀p∈l,p.1≠q)->B6 l q=l
 |[],_=>rfl
 |(m,x)::r,h=>by have h0:¬m=q:=h (m,x) Zfd;simp only[B6,Zac h0];rw[bg fun p hp=>h p (Zfc _ hp)]
theorem NS{mv:List Nat}{l:List (Nat×Blk)}(h:Sj mv l=true){q:Nat}(hq:q<5000):B6 l q=l:=bg fun p hp=>by grind[PK]
theorem RP{q:Nat}{b:Blk}:∀{l:List (Nat×Blk)},(∀p∈l,p.1≠q)->B7 l q b=l
 |[],_=>rfl
 |(m,x)::r,h=>by have h0:¬m=q:=h (m,x) Zfd;simp only[B7,Zac h0];rw[RP fun p hp=>h p (Zfc _ hp)]
theorem L8{mv:List Nat}{l:List (Nat×Blk)}(h:Sj mv l=true):Be l l:=OV (mv:=mv) (U3 h) l fun _ _ h=>h
theorem JB{own mN:List (Nat×Blk)}{given mv:List Nat}{E:Env}{R:D->List (Nat×Blk)->Prop}(h:Sj mv mN=true)(ho:(own.map (·.1)).all (fun q=>Nat.blt q 5000)=true)(hR:R (.i (.tup [])) mN):Fy [] given mv R ⟨E,own++mN⟩:=by
 refine⟨[],mN.map (fun p=>(p.1,p.1)),?_⟩;have e1:(mN.map fun p=>(p.1,p.1)).map (·.1)=mN.map (·.1):=by rw[Ze4];rfl
 have e2:(mN.map fun p=>(p.1,p.1)).map (·.2)=mN.map (·.1):=by rw[Ze4];rfl
 have e3:Cn (mN.map (·.1)) (own++mN)=mN:=by
  rw[bc,aY,aZ,Zft]
  ·exact fun p hp=>Zfh.2 ⟨p,hp,rfl⟩
  ·intro p hp hm;rw[Zcu]at ho;have h1:=ho p.1 (Zfh.2 ⟨p,hp,rfl⟩);rw[Zgp]at h1;obtain⟨q,hq,e⟩:=Zfh.1 hm;have:=PK h q hq;omega
 have e4:kf (mN.map fun p=>(p.1,p.1))=id:=aX _ fun p hp=>by obtain⟨q,_,rfl⟩:=Zfh.1 hp;rfl
 have e5:Ie (frzNs [] ⟨E,own++mN⟩) []=some (.i (.tup [])):=rfl;rw[e5];simp only[e1,show(frzNs [] ⟨E,own++mN⟩).sto=own++mN from rfl,e3,e4,U2,aW];refine⟨?_,⟨rfl,EH h⟩,hR⟩;unfold OP;rw[e1,e2,U3 h,Zce,Zce,Zcu];intro p hp;obtain⟨q,_,rfl⟩:=Zfh.1 hp;simp
theorem NT{mv:List Nat}{l:List (Nat×Blk)}(h:Sj mv l=true):((l.map (·.1)).all fun m=>(Nat.ble 5000 m&&Nat.blt m 5500)||mv.contains m)=true:=by grind[Sj]
end
section
theorem xS(l:List Ent)(tick:Int):Is mx 59 [.sl (l.map Ae),iI tick] (.fn 94 [] [.elt [.sl (l.map Ae)] 0,.elt [iI tick] 0]):=by refine MX F59 ?_;exact eS trivial
theorem xT{l:List Ent}{tick:Int}{i:Nat}(hi:i<l.length):Bt (l.take (i+1)) tick=if(l.getD i default).tick<=tick then Bt (l.take i) tick++[l.getD i default]else Bt (l.take i) tick:=by grind[Rv,Bt]
theorem U4(l:List Ent)(tick:Int)(i:Nat):Bt (l.take i) tick<+:Bt l tick:=by grind[Bt]
theorem xU(l:List Ent)(tick:Int)(hl:l.length<=1073741824):Hv Tryz.prog (Mi mx) 94 [.elt [.sl (l.map Ae)] 0,.elt [iI tick] 0] ((Bt l tick).map fun e=>[.agg (Ae e)]):=by
 intro y m mv N go hV hm hN hgo qh hy;rw[Zes]at hN qh;have hk:∀k,Sj mv (m k)=true:=fun k=>(hm k).1
 have g1:∀k q,q<5000->Aa (m k) q=none:=fun k q hq=>L7 (hk k) hq
 have g2:∀k q b,q<5000->Sk q b (m k)=m k:=fun k q b hq=>NR (hk k) hq b
 have g3:∀k q,q<5000->B6 (m k) q=m k:=fun k q hq=>NS (hk k) hq
 have g4:∀k,Be (m k) (m k)=True:=fun k=>Za8 (L8 (hk k))
 have g5:∀k,PW (m k) (m k)=true:=fun k=>EH (hk k)
 have fin:∀(E:Env),Fy [] ((m 0).map (·.1)) mv (fun r s=>r=.i (.tup [])/\s=m N) ⟨E,m N⟩:=fun E=>JB (own:=[]) (hk N) rfl ⟨rfl,rfl⟩
 refine MX F94 ?_ (hpin:=NT (hk 0))
 (repeat' first|simp(disch:=omega)only[go_sem,simprocAttr,Ze1,Ze5]|fail)
 refine A4 [0,2,6,7] (by simp only[V0,JK,reduceIte,Nat.reduceEqDiff];rfl) (fun i:Nat=>[(8,.i (iI i))]) (fun i=>m (Bt (l.take i) tick).length)
  (fun i=>i<=l.length/\(Bt (l.take i) tick).length<=N/\((Bt (l.take i) tick).length=N->N=(Bt l tick).length)) (fun i=>l.length-i) 0 ⟨by omega,by simp[Bt],fun h=>by
   by_cases jn:N<(Bt l tick).length
   ·have:=(qh jn).1;simp[Bt]at h;omega
   ·omega⟩ (by simp[V0,H0,JJ,Bt,g4,g5]) ?_
 rintro i ⟨hi,hc1,hc2⟩;have vz:=(U4 l tick i).length_le;by_cases ja:i<l.length
 ·have hut:=xT (tick:=tick) ja;have hpl2:=(U4 l tick (i+1)).length_le;by_cases ht:(l.getD i default).tick<=tick
  ·rw[Zaa ht]at hut;rw[hut]at hpl2;have hx:((Bt l tick).map fun e=>[I.agg (Ae e)]).getD (Bt (l.take i) tick).length []=[.agg (Ae (l.getD i default))]:=by have hp:=U4 l tick (i+1);rw[hut]at hp;obtain⟨r,hr⟩:=hp;grind
   have hcN:(Bt (l.take i) tick).length<N:=by grind
   have y1:=hy _ hcN;rw[hx]at y1;have je:(Bt (l.take (i+1)) tick).length=(Bt (l.take i) tick).length+1:=by grind
   generalize (Bt (l.take i) tick).length=k at y1 hcN je vz hc1 hc2;rw[AN]at y1
   (repeat' first|simp(disch:=omega)only[go_sem,simprocAttr,BV ja,AN,Za8 ht,g1,g2,g3]|refine Ac ?_|fail)
   refine TD (own:=[]) (mj:=m k) (mk:=m (k+1)) y1 (fun s e=>by cases e;decide) (by simp only[DF,EA,go_sem,reduceCtorEq,Nat.reduceEqDiff,Ze1,Ze5,Zc1,Zft]) (hk _) (hk _) ((hm _).2.trans (hm _).2.symm) hV rfl [0,2,6,7,8,16] (by simp only[V0,JK,reduceIte,Nat.reduceEqDiff];rfl) (by simp only[go_sem,Zct,Zcw]) ?_;cases hgk:go k
   ·(repeat' first|simp(disch:=omega)only[go_sem,simprocAttr,Zft]|fail)
    have hkN:k+1=N:=by grind
    rw[hkN];exact fin _
   ·(repeat' first|simp(disch:=omega)only[go_sem,simprocAttr,Zft]|fail)
    refine⟨i+1,⟨by omega,by rw[je];omega,fun h=>?_⟩,by omega,rfl,by rw[je];exact L8 (hk _),g5 _⟩;rcases Zgz N (Bt l tick).length with q|q
    ·have h2:=(qh q).2;have h3:N-1=k:=by omega
     rw[h3,hgk]at h2;cases h2
    ·omega
  ·rw[Zac ht]at hut;refine FU (cj (BV ja) (cj @AN (cj ht (cj g1 (cj g2 g3))))) ?_;exact⟨i+1,by rw[hut];exact⟨by omega,hc1,hc2⟩,by omega,rfl,by rw[hut];exact L8 (hk _),g5 _⟩
 ·have e:i=l.length:=by omega
  subst e;rw[Zgd]at hc1 hc2⊢;have:(Bt l tick).length=N:=by omega
  refine FU (Hi ja) ?_;rw[this];exact fin _
end
section
abbrev CV:=Bool×Ent
def Bu(b:CV):List I:=.bool b.1::Ae b.2
def IE(m:List (Fid×CV)):List (I×I):=m.map fun p=>(.agg (Am p.1),.agg (Bu p.2))
abbrev no0:CV:=(false,L4)
def KF(b:CV)(x:Ent):CV:=(b.1||decide (x.fact.kind=1),if b.2.fact.id.seq<x.fact.id.seq then x else b.2)
def ff(m:List (Fid×CV))(x:Ent):List (Fid×CV):=if x.kind≠1 then m else AM m (AO x.fact) (KF ((Al m (AO x.fact)).getD no0) x)
def Do(l:List Ent)(tick:Int):List (Fid×CV):=(Bt l tick).foldl ff []
theorem xV(m:List (Fid×CV))(id:Fid):CF (IE m) (.agg [.str id.source,.int .i64 id.seq]) (.agg (Bu no0)) false=.agg (Bu ((Al m id).getD no0)):=MY (eK:=fun id:Fid=>I.agg (Am id)) (f:=fun b:CV=>I.agg (Bu b)) QX m id no0
theorem xW(m:List (Fid×CV))(id:Fid)(b:CV):DV (IE m) (.agg [.str id.source,.int .i64 id.seq]) (.agg (Bu b))=IE (AM m id b):=MW (eK:=fun id:Fid=>I.agg (Am id)) (f:=fun b:CV=>I.agg (Bu b)) QX m id b
theorem xX(l:List Ent)(tick:Int){j:Nat}(hj:j<(Bt l tick).length):((Bt l tick).take (j+1)).foldl ff []=ff (((Bt l tick).take j).foldl ff []) ((Bt l tick).getD j default):=by grind[BM]
theorem bj(l:List Ent)(tick:Int)(hl:l.length<=1000000):Is mx 52 [.sl (l.map Ae),iI tick] (.map (IE (Do l tick))):=by
 have u1:=xS (mx:=mx) l tick;have hs:=xU (mx:=mx) l tick (by omega);have jf:=@xX l tick;have hP:Do l tick=((Bt l tick).take (Bt l tick).length).foldl ff []:=by rw[Zgd];rfl
 rw[hP];generalize Bt l tick=xs at hs jf;refine MX F52 ?_;refine EV u1 ?_;have hx:∀j,j<xs.length->(xs.map fun e=>[I.agg (Ae e)]).getD j []=[.agg (Ae (xs.getD j default))]:=fun j hj=>by grind
 refine OU (gf:=94) rfl (by kernel_rfl) hs [(5,5005),(9,5009)] [.any,.any,.any,.any,.any,.ref (.loc 5005 0),.any,.any,.any,.any,.any,.any,.any,.any,.any,.any,.any,.any,.any,.any,.any,.any,.any,.any,.any,.any,.any,.any,.any,.any,.any,.any,.any,.any,.any,.any,.any,.any,.any,.any,.any,.any,.any,.any,.any,.any,.any,.any] (fun j=>[(5005,.cells [.ref (.mp 5009)]),(5009,.map [.g,.s,.i .i64] (IE ((xs.take j).foldl ff [])))]) [] xs.length .none
  ⟨by simp,fun _=>by simp,fun h=>absurd rfl h⟩ rfl (fun j hj=>⟨rfl,rfl,rfl,rfl⟩) rfl (by simp[Hw,Aj,Cv,I8,OF,IM,sw]) rfl (by simp[IL,KL,I8,OF,IM,sw,Be,Aa,IE]) (fun j hj=>⟨by rw[hx j hj];rfl,?_⟩) ?_
 ·rw[hx j hj,AN,ite_self,jf hj];generalize (xs.take j).foldl ff []=m;have b1:=RG (mx:=mx) (xs.getD j default).fact;have kn:CF (IE m) (.agg [.str (AO (xs.getD j default).fact).source,.int .i64 (AO (xs.getD j default).fact).seq]) (.agg [.bool false,.int .i64 0,.int .i64 0,.int .i64 0,.str [],.int .i64 0,.int .i64 0,.int .i64 0,.str [],.str [],.int .i64 0,.sl [],.int .i64 0,.str [],.str [],.str [],.int .i64 0,.int .i64 0,.str [],.str [],.sl [],.int .i64 0,.str [],.str [],.int .i64 0,.sl [],.str [],.int .i64 0,.str [],.str [],.str [],.int .i64 0,.int .i64 0,.str [],.sl [],.int .i64 0,.int .i64 0,.int .i64 0,.sl [],.int .i64 0,.str []]) false=.agg (Bu ((Al m (AO (xs.getD j default).fact)).getD no0)):=xV m (AO (xs.getD j default).fact);simp only[EG,DK,Nat.reduceAdd];by_cases hk:(xs.getD j default).kind=1
  ·rw[ff,Zac (fun q=>q hk)];generalize (Al m (AO (xs.getD j default).fact)).getD no0=b at kn;obtain⟨ba,be⟩:=b;simp only[Bu,AN]at kn;have jo:DV (IE m) (.agg [.str (AO (xs.getD j default).fact).source,.int .i64 (AO (xs.getD j default).fact).seq]) (.agg (Bu (KF (ba,be) (xs.getD j default))))=_:=xW m (AO (xs.getD j default).fact) (KF (ba,be) (xs.getD j default));by_cases hsq:be.fact.id.seq<(xs.getD j default).fact.id.seq
   ·have hnx:KF (ba,be) (xs.getD j default)=(ba||decide ((xs.getD j default).fact.kind=1),xs.getD j default):=by simp only[KF,Zaa hsq]
    rw[hnx]at jo⊢;simp only[Bu,AN]at jo;cases ha:(ba||decide ((xs.getD j default).fact.kind=1))
    ·rw[ha]at jo
     (repeat' first|exact Ao _|simp(disch:=omega)only[go_sem,simprocAttr,Za8 hk,Am,Ay,AH,Bc,Zaw,kn,jo,ha,D1,fi,Zaj,Za3,Za1,Za2,Za8 hsq]|refine' Av (fun hq=>?_) (fun f=>?_)<;>try(have jd:=hq;try simp only[HB]at jd)|refine Sx.s ?_ ?_<;>try(intro h;have h':=h;try simp only[HB]at h';try rewrite [h];try simp only[h])|refine Ab (b1) ?_|refine Ac ?_|fail)
     all_goals(refine⟨rfl,[],?_⟩;simp(disch:=omega)only[go_sem,Nat.reduceEqDiff];try exact⟨rfl,rfl⟩)
    ·rw[ha]at jo
     (repeat' first|exact Ao _|simp(disch:=omega)only[go_sem,simprocAttr,Za8 hk,Am,Ay,AH,Bc,Zaw,kn,jo,ha,D1,fi,Zaj,Za3,Za1,Za2,Za8 hsq]|refine' Av (fun hq=>?_) (fun f=>?_)<;>try(have jd:=hq;try simp only[HB]at jd)|refine Sx.s ?_ ?_<;>try(intro h;have h':=h;try simp only[HB]at h';try rewrite [h];try simp only[h])|refine Ab (b1) ?_|refine Ac ?_|fail)
     all_goals(refine⟨rfl,[],?_⟩;simp(disch:=omega)only[go_sem,Nat.reduceEqDiff];try exact⟨rfl,rfl⟩)
   ·have hnx:KF (ba,be) (xs.getD j default)=(ba||decide ((xs.getD j default).fact.kind=1),be):=by simp only[KF,Zac hsq]
    rw[hnx]at jo⊢;simp only[Bu,AN]at jo;cases ha:(ba||decide ((xs.getD j default).fact.kind=1))
    ·rw[ha]at jo
     (repeat' first|exact Ao _|simp(disch:=omega)only[go_sem,simprocAttr,Za8 hk,Am,Ay,AH,Bc,Zaw,kn,jo,ha,D1,fi,Zaj,Za3,Za2,Za9 hsq]|refine' Av (fun hq=>?_) (fun f=>?_)<;>try(have jd:=hq;try simp only[HB]at jd)|refine Sx.s ?_ ?_<;>try(intro h;have h':=h;try simp only[HB]at h';try rewrite [h];try simp only[h])|refine Ab (b1) ?_|refine Ac ?_|fail)
     all_goals(refine⟨rfl,[],?_⟩;simp(disch:=omega)only[go_sem,Nat.reduceEqDiff];try exact⟨rfl,rfl⟩)
    ·rw[ha]at jo;refine AU (cj b1 (cj hk (cj @Am.eq_1 (cj @Ay.eq_1 (cj @AH.eq_1 (cj @Bc.eq_1 (cj kn (cj jo (cj ha (cj @D1.eq_1 (cj @fi.eq_1 hsq))))))))))) ?_
     all_goals intros
     all_goals(refine⟨rfl,[],?_⟩;simp(disch:=omega)only[go_sem,Nat.reduceEqDiff];try exact⟨rfl,rfl⟩)
  ·rw[ff,Zaa hk];refine A8 (cj hk (cj @D1.eq_1 @fi.eq_1)) ?_;refine⟨rfl,[],?_⟩;simp(disch:=omega)only[go_sem,Nat.reduceEqDiff]
 ·refine⟨by simp[IL,KL,I8,OF,IM,sw,A7,ren,Aa],by simp[IL,KL,I8,OF,IM,sw,ren,Aa],rfl,?_⟩;show E3 0 _ .normal _
  (repeat' first|simp(disch:=omega)only[go_sem,simprocAttr,IL,KL,I8,OF,IM,sw,A7,ren]|refine Sz.s ?_|fail)
end
section
theorem xY{α:Type}[Inhabited α](p:α->Bool)(l:List α):(Br p l=-1/\l.filter (fun x=>!p x)=l)\/∃k:Nat,Br p l=(k:Int)/\k<l.length/\p (l.getD k default)=true/\(l.take k).filter (fun x=>!p x)=l.take k:=by
 unfold Br;cases h:l.findIdx? p with
 |none=>simp_all
 |some k=>rw[Zdo]at h;obtain⟨hk,h1,h2⟩:=h;refine .inr ⟨k,rfl,hk,by rw[AK hk];exact h1,Zdk.2 fun x hx=>?_⟩;obtain⟨j,hj,rfl⟩:=Zfg.1 hx;grind
theorem xZ{α:Type}{a b:List α}(h:a.length<=b.length):setL a 0 b=b:=by simp_all[setL]
structure DelI{α:Type}[Inhabited α](E:α->List I)(p:α->Bool)(l:List α)(i j:Nat)(R:List (List I)):Prop where
 hj:j<=l.length
 len:R.length=l.length
 cnt:i=((l.take j).filter fun x=>!p x).length
 lt:i<j
 tk:R.take i=((l.take j).filter fun x=>!p x).map E
 dr:R.drop j=(l.drop j).map E
 rw_:∀q,q<R.length->(R.getD q []).length=(E default).length
theorem DelI.getj{α:Type}[Inhabited α]{E:α->List I}{p:α->Bool}{l:List α}{i j:Nat}{R:List (List I)}(h:DelI E p l i j R)(hj:j<l.length):R.getD j []=E (l.getD j default):=by
 have h1:(R.drop j)[0]? =((l.drop j).map E)[0]? :=by rw[h.dr]
 grind
theorem U5{α:Type}[Inhabited α](p:α->Bool){l:List α}{j:Nat}(hj:j<l.length):(l.take (j+1)).filter (fun x=>!p x)=if p (l.getD j default)=true then(l.take j).filter (fun x=>!p x)else(l.take j).filter (fun x=>!p x)++[l.getD j default]:=by grind[Rv]
theorem DelI.skip{α:Type}[Inhabited α]{E:α->List I}{p:α->Bool}{l:List α}{i j:Nat}{R:List (List I)}(h:DelI E p l i j R)(hj:j<l.length)(hp:p (l.getD j default)=true):DelI E p l i (j+1) R:=by have e:=U5 p hj;rw[Zaa hp]at e;exact⟨hj,h.len,by rw[e];exact h.cnt,by have:=h.lt;omega,by rw[e];exact h.tk,by rw[<-Zc7,h.dr,<-Ze2,Zc7],h.rw_⟩
theorem DelI.keep{α:Type}[Inhabited α]{E:α->List I}{p:α->Bool}{l:List α}{i j:Nat}{R:List (List I)}(hE:∀x,(E x).length=(E default).length)(h:DelI E p l i j R)(hj:j<l.length)(hp:p (l.getD j default)=false):DelI E p l (i+1) (j+1) (R.set i (E (l.getD j default))):=by
 have e:=U5 p hj;rw[Zac (by rw[hp];simp)]at e;have hi:=h.lt;have hl:=h.len;refine⟨hj,by simp[h.len],by rw[e,Zel,<-h.cnt];rfl,by omega,?_,?_,fun q hq=>?_⟩
 ·rw[e,Zez,<-h.tk,Zgh (by simp;omega)];rw[List.take_set_of_le (Zgu _)];simp
 ·rw[List.drop_set_of_lt (by omega),<-Zc7,h.dr,<-Ze2,Zc7]
 ·simp only[List.length_set]at hq;rw[Zdx,Zd7];by_cases e2:i=q
  ·subst e2;rw[Zaa rfl,Zaa hq];exact hE _
  ·rw[Zac e2,<-Zdx];exact h.rw_ q hq
end
section
def CK(id:Fid)(tick:Int)(e:Ent):Bool:= !(decide (e.kind≠1)||decide (tick<e.tick)||!decide (AO e.fact=id))
def Si(id:Fid)(tick:Int)(a:Ent×Bool)(e:Ent):Ent×Bool:=
 if CK id tick e=true then(if a.1.fact.id.seq<e.fact.id.seq then e else a.1,a.2||decide (e.fact.kind=1))else a
def Cc(l:List Ent)(id:Fid)(tick:Int):Ent×Bool:=l.foldl (Si id tick) (L4,false)
theorem x5(l:List Ent)(id:Fid)(tick:Int)(hl:l.length<=1073741824):Is mx 98 [.sl (l.map Ae),.agg (Am id),iI tick] (.tup [.agg (Ae (Cc l id tick).1),.bool (Cc l id tick).2]):=by
 refine MX F98 ?_
 (repeat' first|simp(disch:=omega)only[go_sem,simprocAttr]|fail)
 refine A4 [0,2,4,6,8] (by simp only[V0,JK,reduceIte,Nat.reduceEqDiff];rfl) (fun i:Nat=>[(9,.i (.bool (Cc (l.take i) id tick).2)),(10,.i (iI i))]) (fun i=>[(8,.cells ((Ae (Cc (l.take i) id tick).1).map .i)),(6,.cells ((Ae L4).map .i))])
  (fun i=>i<=l.length) (fun i=>l.length-i) 0 (by simp) (by simp[V0,H0,JJ,Ref.nm,Cc];exact⟨rfl,rfl⟩) ?_
 intro i hi;by_cases ja:i<l.length
 ·have jf:Cc (l.take (i+1)) id tick=Si id tick (Cc (l.take i) id tick) (l.getD i default):=by grind[BM,Cc]
  have b1:=UJ (mx:=mx) (l.getD i default).fact;generalize Cc (l.take i) id tick=a at jf;obtain⟨a,asr⟩:=a;have xe:(decide ((AO (l.getD i default).fact).source=id.source)&&decide ((AO (l.getD i default).fact).seq=id.seq))=decide (AO (l.getD i default).fact=id):=(Hc _ _).symm;cases k6:decide ((l.getD i default).kind≠1)
  ·cases jy:decide (tick<(l.getD i default).tick)
   ·cases hb3:decide (AO (l.getD i default).fact=id)
    ·have ho:CK id tick (l.getD i default)=false:=by rw[CK,k6,jy,hb3];rfl
     rw[Si,Zac (by rw[ho];simp)]at jf;rw[hb3]at xe;refine FU (cj b1 (cj (BV ja) (cj k6 (cj jy (cj @DA (cj @DB xe)))))) ?_;exact⟨i+1,by omega,by omega,by simp only[jf];first|exact⟨rfl,rfl⟩|exact⟨trivial,rfl⟩,by simp only[jf]⟩
    ·have ho:CK id tick (l.getD i default)=true:=by rw[CK,k6,jy,hb3];rfl
     rw[Si,Zaa ho]at jf;rw[hb3]at xe;by_cases hs:a.fact.id.seq<(l.getD i default).fact.id.seq
     ·rw[Zaa hs]at jf;refine EV (cj b1 (cj (BV ja) (cj k6 (cj jy (cj @DA (cj @DB (cj xe (cj @AN hs)))))))) ?_;exact⟨i+1,by omega,by omega,by simp only[jf];first|exact⟨rfl,rfl⟩|exact⟨trivial,rfl⟩,by simp only[jf]⟩
     ·rw[Zac hs]at jf;refine EV (cj b1 (cj (BV ja) (cj k6 (cj jy (cj @DA (cj @DB (cj xe (cj @AN hs)))))))) ?_;exact⟨i+1,by omega,by omega,by simp only[jf];first|exact⟨rfl,rfl⟩|exact⟨trivial,rfl⟩,by simp only[jf]⟩
   ·have ho:CK id tick (l.getD i default)=false:=by rw[CK,k6,jy];rfl
    rw[Si,Zac (by rw[ho];simp)]at jf;refine FU (cj (BV ja) (cj k6 jy)) ?_;exact⟨i+1,by omega,by omega,by simp only[jf];first|exact⟨rfl,rfl⟩|exact⟨trivial,rfl⟩,by simp only[jf]⟩
  ·have ho:CK id tick (l.getD i default)=false:=by rw[CK,k6];rfl
   rw[Si,Zac (by rw[ho];simp)]at jf;refine FU (cj (BV ja) k6) ?_;exact⟨i+1,by omega,by omega,by simp only[jf];first|exact⟨rfl,rfl⟩|exact⟨trivial,rfl⟩,by simp only[jf]⟩
 ·have e:l.take i=l:=Zgf (by omega);rw[e];exact FU (cj (Hi ja) @AN) trivial
def DS(e:Ent)(id:Fid):Rw:=⟨id,e.fact.table,e.fact.key,e.fact.event,e.fact.fields,e.no,e.tick⟩
theorem x7(e:Ent)(id:Fid):Is mx 99 [.agg (Ae e),.agg (Am id)] (.agg (JI (DS e id))):=by
 refine MX F99 ?_
 (repeat' first|simp(disch:=omega)only[go_sem,simprocAttr]|refine Sz.s ?_|fail)
 all_goals(try rfl)
abbrev HX:Rw:=⟨NG,[],[],0,[],0,0⟩
def DD(l:List Ent)(gone:List Fid)(id:Fid)(tick:Int):Option Rw:=
 if(!(Cc l id tick).2||decide ((Cc l id tick).1.fact.kind=3)||Er gone id)=true then none else some (DS (Cc l id tick).1 id)
def Hf(o:Option Rw):I:=.tup [.agg (JI (o.getD HX)),.bool o.isSome]
theorem bk(l:List Ent)(gone:List Fid)(id:Fid)(tick:Int)(hl:l.length<=1073741824)(hg:gone.length<=1073741824):Is mx 65 [.sl (l.map Ae),.sl (gone.map Am),.agg (Am id),iI tick] (Hf (DD l gone id tick)):=by
 have o1:=x5 (mx:=mx) l id tick hl;have i1:=xp (mx:=mx) gone id hg;have r1:=x7 (mx:=mx) (Cc l id tick).1 id;have hR:=DD.eq_1 l gone id tick;generalize Cc l id tick=a at o1 r1 hR;obtain⟨a,asr⟩:=a;simp only at o1 r1 hR;refine MX F65 ?_;cases hq:(!asr||decide (a.fact.kind=3)||Er gone id)
 ·rw[hq,Zac (by simp)]at hR;rw[hR]
  (repeat' first|exact Ao _|simp(disch:=omega)only[go_sem,simprocAttr,Hf,Zhh,Zhk,hq]|refine' Av (fun hq=>?_) (fun f=>?_)<;>try(have jd:=hq;try simp only[HB]at jd)|refine Sx.s ?_ ?_<;>try(intro h;have h':=h;try simp only[HB]at h';try rewrite [h];try simp only[h])|refine Ab (o1) ?_|refine Ab (i1) ?_|refine Ab (r1) ?_|refine Ac ?_|refine Sz.s ?_|fail)
  all_goals(try rfl)
 ·rw[hq,Zaa rfl]at hR;rw[hR]
  (repeat' first|exact Ao _|simp(disch:=omega)only[go_sem,simprocAttr,Hf,Zhg,Zhj,hq]|refine' Av (fun hq=>?_) (fun f=>?_)<;>try(have jd:=hq;try simp only[HB]at jd)|refine Sx.s ?_ ?_<;>try(intro h;have h':=h;try simp only[HB]at h';try rewrite [h];try simp only[h])|refine Ab (o1) ?_|refine Ab (i1) ?_|refine Ac ?_|refine Sz.s ?_|fail)
  all_goals(try rfl)
end
section
def C3(l:List Ent)(id:Fid)(tick:Int):Option Rw:=DD l (Bn l) id tick
theorem x8(l:List Ent)(id:Fid)(tick:Int)(hl:Ag AB l<=1073740)(h30:l.length<=30000):Is mx 31 [.sl (l.map Ae),.agg (Am id),iI tick] (Hf (C3 l id tick)):=by have e0:=aF (mx:=mx) l hl h30;have f0:=bk (mx:=mx) l (Bn l) id tick (by omega) (by have:=UT h30;omega);have hR:C3 l id tick=DD l (Bn l) id tick:=rfl;rw[hR];generalize DD l (Bn l) id tick=q at f0;generalize Bn l=gone at e0 f0;refine MX F31 ?_;exact FU (cj e0 (cj f0 @Hf.eq_1)) trivial
def Gt(l:List Rw)(r:Rw):Nat->Nat
 |0=>0
 |k+1=>if 0<Dk (l.getD k default) r then Gt l r k else k+1
def putRow(l:List Rw)(r:Rw):List Rw:=Bg l (Gt l r l.length) r
theorem bm(l:List Rw)(r:Rw):∀k,Gt l r k<=k
 |0=>Zgu _
 |k+1=>by have:=bm l r k;grind[Gt]
theorem x9(l:List Rw)(r:Rw):(putRow l r).length=l.length+1:=by grind[putRow,Bg]
theorem Gu(x:Rw):(JI x).length=8:=rfl
theorem L9(x:Rw):(JI x).all I.one=true:=rfl
theorem ya(l:List Rw)(r:Rw)(hl:l.length<=1073741823):Is mx 66 [.sl (l.map JI),.agg (JI r)] (.sl ((putRow l r).map JI)):=by
 refine MX F66 ?_
 (repeat' first|simp(disch:=omega)only[go_sem,simprocAttr]|fail)
 refine A4 [0,3] (by simp only[V0,JK,reduceIte,Nat.reduceEqDiff];rfl) (fun k:Nat=>[(5,.i (iI k))]) (fun _=>[])
  (fun k=>k<=l.length/\Gt l r k=Gt l r l.length) (fun k=>k) l.length ⟨Zgu _,rfl⟩ (by simp[V0,H0,JJ]) ?_
 rintro k ⟨hk,kp⟩;have h1:=A1 (l.take k) Gu L9;have h2:=A1 (l.drop k) Gu L9;have h0:=A1 l Gu L9;have c5:((k:Int)<=(l.length:Int))=True:=Za8 (by omega);have h3:=HT Gu L9 r;rw[Ze7]at h1;rw[Ze2]at h2;have c1:(k<=l.length)=True:=Za8 (by omega);have c3:min k l.length=k:=by omega
 have stop:Gt l r l.length=k->putRow l r=l.take k++[r]++l.drop k:=fun e=>by rw[putRow,e];rfl
 by_cases vg:k=0
 ·have hF:((0:Int)<(k:Int))=False:=Za9 (by omega);rw[stop (by rw[<-kp,vg];rfl)]
  (repeat' first|simp(disch:=omega)only[go_sem,simprocAttr,hF,Za8 h0.1,Za8 h1.1,Za8 h1.2,Zck,Za8 h2.1,Za8 h2.2,h3.1,h3.2,Zg8,Zg6,Zes,Zex,Zen,Zeu,c3,c5,Zgi,Zg0]|refine Ac ?_|refine Au ?_|refine Sz.s ?_|(refine And.intro ?_ ?_;focus omega))
  rw[<-KB (f:=JI) hk]
 ·have wj:k-1<l.length:=by omega
  have q1:=wC (mx:=mx) (l.getD (k-1) default) r;have ju:((0:Int)<(k:Int))=True:=Za8 (by omega);have kg:(k:Int)-1=((k-1:Nat):Int):=by omega
  have hunf:Gt l r k=if 0<Dk (l.getD (k-1) default) r then Gt l r (k-1)else k:=by obtain⟨j,rfl⟩:∃j,k=j+1:=⟨k-1,by omega⟩;rfl
  cases hg:decide (0<Dk (l.getD (k-1) default) r)
  ·have hno:=of_decide_eq_false hg;rw[Zac hno]at hunf;rw[stop (by rw[<-kp,hunf])]
   (repeat' first|simp(disch:=omega)only[go_sem,simprocAttr,ju,kg,BV wj,hg,Za8 h0.1,Za8 h1.1,Za8 h1.2,Zck,Za8 h2.1,Za8 h2.2,h3.1,h3.2,Zg8,Zg6,Zes,Zex,Zen,Zeu,c3,c5,Zgi,Zg0]|refine Ab (q1) ?_|refine Ac ?_|refine Au ?_|refine Sz.s ?_|(refine And.intro ?_ ?_;focus omega))
   rw[<-KB (f:=JI) hk]
  ·have hyes:=Za6 hg;rw[Zaa hyes]at hunf;refine FU (cj q1 (cj ju (cj kg (cj (BV wj) hg)))) ?_;exact⟨k-1,⟨by omega,by rw[<-kp,hunf]⟩,by omega,rfl⟩
end
section
abbrev nD(nm k:Nat)(b:Bool)(rows:List (List I)):D:=if b=true then .i (.sl rows)else .ref (.sl nm k 0 0)
abbrev nB(nm e k:Nat)(b:Bool):List (Nat×Blk):=if b=true then[]else[(nm,.rows e k [])]
def IF(acc:List Fid)(e:Ent):List Fid:=if e.kind=1 then Ep acc (AO e.fact)else acc
def Et(l:List Ent):List Fid:=l.foldl IF []
theorem RQ:∀(l:List Ent) (acc:List Fid),(l.foldl IF acc).length<=acc.length+l.length
 |[],acc=>by simp
 |e::l,acc=>by have h1:=RQ l (IF acc e);grind[UO,AO,IF]
def Dp(l:List Ent)(gone:List Fid)(tick:Int)(acc:List Rw)(id:Fid):List Rw:=match DD l gone id tick with
 |none=>acc
 |some r=>putRow acc r
def BT(l:List Ent)(tick:Int):List Rw:=(Et l).foldl (Dp l (Bn l) tick) []
theorem yb(l:List Ent)(gone:List Fid)(tick:Int)(acc:List Rw)(id:Fid):(Dp l gone tick acc id).length<=acc.length+1:=by grind[Dp,x9]
theorem U6(l:List Ent)(gone:List Fid)(tick:Int):∀(ids:List Fid) (acc:List Rw),(ids.foldl (Dp l gone tick) acc).length<=acc.length+ids.length
 |[],acc=>by simp
 |e::r,acc=>by have h1:=U6 l gone tick r (Dp l gone tick acc e);grind[yb]
theorem bn(l:List Ent)(tick:Int)(hl:Ag AB l<=1073740)(h30:l.length<=30000):Is mx 32 [.sl (l.map Ae),iI tick] (.sl ((BT l tick).map JI)):=by
 have e0:=aF (mx:=mx) l hl h30;have hgl:=UT h30;unfold BT;generalize Bn l=gone at e0 hgl;refine MX F32 ?_
 (repeat' first|simp(disch:=omega)only[go_sem,simprocAttr]|refine Sx.s ?_ ?_<;>try(intro h;have h':=h;try simp only[HB]at h';try simp only[h])|refine Ab (e0) ?_|fail)
 refine A4 [0,1,5] (by simp only[V0,JK,reduceIte,Nat.reduceEqDiff];rfl) (fun g:Bool×Nat=>[(6,nD 6 2 g.1 ((Et (l.take g.2)).map Am)),(7,.i (iI g.2))]) (fun g=>nB 6 30 2 g.1)
  (fun g=>g.2<=l.length/\(g.1=false->Et (l.take g.2)=[])) (fun g=>l.length-g.2) (false,0) ⟨by simp,fun _=>rfl⟩ (by simp[nD,nB,V0,H0,JJ,Ref.nm]) ?_
 rintro⟨b,i⟩ ⟨hi,hb⟩;simp only at hi hb;by_cases ja:i<l.length
 ·have je:=RQ (l.take i) [];have jf:Et (l.take (i+1))=IF (Et (l.take i)) (l.getD i default):=by grind[BM,Et]
  have qv:(l.take i).length<=l.length:=by simp;omega
  have b1:=UJ (mx:=mx) (l.getD i default).fact;have je:(Et (l.take i)).length<=30000:=by grind[Et]
  generalize Et (l.take i)=acc at je jf hb;have p1:=UQ (mx:=mx) acc (AO (l.getD i default).fact) (by omega);unfold IF at jf;by_cases hk:(l.getD i default).kind=1
  ·rw[Zaa hk]at jf;cases b
   ·obtain rfl:=hb rfl;simp only[Ze5]at p1;simp only[nD,nB];refine AU (cj b1 (cj p1 (cj (BV ja) hk))) ?_;exact⟨(true,i+1),⟨ja,by simp⟩,by show l.length-(i+1)<_;omega,by rw[jf];exact⟨rfl,rfl⟩,trivial,rfl,rfl⟩
   ·simp only[nD,nB];refine EV (cj b1 (cj p1 (cj (BV ja) hk))) ?_;exact⟨(true,i+1),⟨ja,by simp⟩,by show l.length-(i+1)<_;omega,by rw[jf];exact⟨rfl,rfl⟩,trivial,rfl,rfl⟩
  ·rw[Zac hk]at jf;cases b
   ·obtain rfl:=hb rfl;simp only[nD,nB];refine A8 (cj (BV ja) hk) ?_;exact⟨(false,i+1),⟨ja,fun _=>jf⟩,by show l.length-(i+1)<_;omega,⟨rfl,rfl⟩,⟨rfl,trivial⟩,rfl,rfl⟩
   ·simp only[nD,nB];refine FU (cj (BV ja) hk) ?_;exact⟨(true,i+1),⟨ja,by simp⟩,by show l.length-(i+1)<_;omega,by rw[jf];exact⟨rfl,rfl⟩,trivial,rfl,rfl⟩
 ·have e:l.take i=l:=Zgf (by omega);have hidl:=RQ l [];rw[e]at hb⊢;have hidl:(Et l).length<=30000:=by grind[Et]
  have finds:=fun id=>bk (mx:=mx) l gone id tick (by omega) (by omega)
  generalize Et l=ids at hb hidl;cases b
  ·obtain rfl:=hb rfl;simp only[nD,nB];refine A8 (Hi ja) ?_;refine lT [0,1,5,6] (fun _:Unit=>[(8,.ref (.sl 8 8 0 0)),(9,.i (iI 0))]) (fun _=>[(8,.rows 68 8 []),(6,.rows 30 2 [])]) (fun _=>True) (fun _=>0) () ?_;intro _ _
   (repeat' first|simp(disch:=omega)only[go_sem,simprocAttr,Zcl,Zg5,Zcm]|refine Ac ?_|refine Sz.s ?_|fail)
   all_goals(try rfl)
  ·simp only[nD,nB]
   (repeat' first|simp(disch:=omega)only[go_sem,simprocAttr,Hi ja]|refine Ac ?_|fail)
   refine A4 [0,1,5,6] (by simp only[V0,JK,reduceIte,Nat.reduceEqDiff];rfl) (fun g:Bool×Nat=>[(8,nD 8 8 g.1 (((ids.take g.2).foldl (Dp l gone tick) []).map JI)),(9,.i (iI g.2))]) (fun g=>nB 8 68 8 g.1)
    (fun g=>g.2<=ids.length/\(g.1=false->(ids.take g.2).foldl (Dp l gone tick) []=[])) (fun g=>ids.length-g.2) (false,0) ⟨by simp,fun _=>rfl⟩ (by simp[nD,nB,V0,H0,JJ,Ref.nm]) ?_
   rintro⟨c,j⟩ ⟨hj,hc⟩;simp only at hj hc;by_cases jp:j<ids.length
   ·have w9:=U6 l gone tick (ids.take j) [];have jf:(ids.take (j+1)).foldl (Dp l gone tick) []=Dp l gone tick ((ids.take j).foldl (Dp l gone tick) []) (ids.getD j default):=by grind[BM]
    have w9:((ids.take j).foldl (Dp l gone tick) []).length<=30000:=by grind
    have f1:=finds (ids.getD j default);generalize (ids.take j).foldl _ []=acc at w9 jf hc;cases hfr:DD l gone (ids.getD j default) tick with
    |none=>
     have hq:Dp l gone tick acc (ids.getD j default)=acc:=by grind[Dp]
     rw[hfr]at f1;rw[hq]at jf;simp only[Hf,Zhg,Zhj]at f1;cases c
     ·obtain rfl:=hc rfl;simp only[nD,nB];refine AU (cj f1 (BV jp)) ?_;exact⟨(false,j+1),⟨jp,fun _=>jf⟩,by show ids.length-(j+1)<_;omega,⟨rfl,rfl⟩,⟨rfl,trivial⟩,rfl,rfl⟩
     ·simp only[nD,nB];refine EV (cj f1 (BV jp)) ?_;exact⟨(true,j+1),⟨jp,by simp⟩,by show ids.length-(j+1)<_;omega,by rw[jf];exact⟨rfl,rfl⟩,trivial,rfl,rfl⟩
    |some r=>
     have hq:Dp l gone tick acc (ids.getD j default)=putRow acc r:=by grind[Dp]
     rw[hfr]at f1;rw[hq]at jf;simp only[Hf,Zhh,Zhk]at f1;have p1:=ya (mx:=mx) acc r (by omega);cases c
     ·obtain rfl:=hc rfl;simp only[Ze5]at p1;simp only[nD,nB];refine AU (cj f1 (cj p1 (BV jp))) ?_;exact⟨(true,j+1),⟨jp,by simp⟩,by show ids.length-(j+1)<_;omega,by rw[jf];exact⟨rfl,rfl⟩,trivial,rfl,rfl⟩
     ·simp only[nD,nB];refine EV (cj f1 (cj p1 (BV jp))) ?_;exact⟨(true,j+1),⟨jp,by simp⟩,by show ids.length-(j+1)<_;omega,by rw[jf];exact⟨rfl,rfl⟩,trivial,rfl,rfl⟩
   ·have e:ids.take j=ids:=Zgf (by omega);rw[e]at hc⊢;cases c
    ·have h0:=hc rfl;simp only[nD,nB,h0];exact A8 (Hi jp) trivial
    ·simp only[nD,nB];exact FU (Hi jp) trivial
end
section
def Eu(c:Cat)(tick:Int)(r:Rw):Bool:=decide (((AV c.tables r.table).getD Bk).keep=0)||decide (tick<=IntKind.i64.wrap (r.event+((AV c.tables r.table).getD Bk).keep))
def C9(c:Cat)(rows:List Rw)(tick:Int):List Rw:=rows.filter (Eu c tick)
theorem yd(c:Cat)(rows:List Rw)(tick:Int)(hc:c.tables.length<=1073741824)(hl:rows.length<=1073741824):Is mx 69 [.agg (Ap c),.sl (rows.map JI),iI tick] (.sl ((C9 c rows tick).map JI)):=by
 refine MX F69 ?_;refine Od ?_;refine lT [1,2,3] (fun i:Nat=>[(7,.ref (.sl 7 8 0 (C9 c (rows.take i) tick).length)),(8,.i (iI i))]) (fun i=>[(7,.rows 68 8 ((C9 c (rows.take i) tick).map JI))]) (fun i=>i<=rows.length) (fun i=>rows.length-i) 0 ?_ (by simp);intro i hi;have vn:(C9 c (rows.take i) tick).length<=i:=Zgw (Zer _ _) (by simp;omega);by_cases ja:i<rows.length
 ·have hft:C9 c (rows.take (i+1)) tick=if Eu c tick (rows.getD i default)=true then C9 c (rows.take i) tick++[rows.getD i default]else C9 c (rows.take i) tick:=Rv (Eu c tick) rows i ja
  have v7:=HT Gu L9 (rows.getD i default);have t1:=Rs (mx:=mx) c (rows.getD i default).table hc;have wu:(decide (((AV c.tables (rows.getD i default).table).getD Bk).keep=0)||decide (tick<=IntKind.i64.wrap ((rows.getD i default).event+((AV c.tables (rows.getD i default).table).getD Bk).keep)))=Eu c tick (rows.getD i default):=rfl;unfold Gi at t1;generalize C9 c (rows.take i) tick=acc at hft vn;generalize (AV c.tables (rows.getD i default).table).getD Bk=t at t1 wu;generalize (AV c.tables (rows.getD i default).table).isSome=sm at t1;cases ht:Eu c tick (rows.getD i default)
  ·rw[ht,Zac (by simp)]at hft;rw[ht]at wu
   (repeat' first|exact Ao _|simp(disch:=omega)only[go_sem,simprocAttr,BV ja,wu]|refine' CI (fun hq=>?_) (fun f=>?_)<;>try(have jd:=hq;try simp only[HB]at jd)|refine Ab (t1) ?_|refine Ac ?_|refine Au ?_|fail)
   exact⟨i+1,by omega,by omega,by rw[hft];exact⟨rfl,rfl⟩,by rw[hft]⟩
  ·rw[ht,Zaa rfl]at hft;rw[ht]at wu
   (repeat' first|exact Ao _|simp(disch:=omega)only[go_sem,simprocAttr,BV ja,wu,v7.1,v7.2,Zg6]|refine' CI (fun hq=>?_) (fun f=>?_)<;>try(have jd:=hq;try simp only[HB]at jd)|refine Ab (t1) ?_|refine Ac ?_|refine Au ?_|(refine And.intro ?_ ?_;focus omega))
   exact⟨i+1,by omega,by omega,by rw[hft];exact⟨by simp,rfl⟩,by rw[hft];simp⟩
 ·have e:rows.take i=rows:=Zgf (by omega);rw[e];exact FU (Hi ja) trivial
def Ma(l:List Ent)(tick:Int):List Rw:=C9 (atR l tick) (BT l tick) tick
theorem NU(l:List Ent)(tick:Int):(BT l tick).length<=l.length:=by grind[U6,Bn,Et,RQ,BT]
theorem RR{l:List Ent}(hl:Ag AB l<=1073740)(tick:Int):AR (atR l tick)<=1073741/\(atR l tick).tables.length<=1073741:=by grind[PD,BR,atR,G3,AR,Ag,AB]
theorem ye(l:List Ent)(tick:Int)(hl:Ag AB l<=1073740)(h30:l.length<=30000):Is mx 34 [.sl (l.map Ae),iI tick] (.sl ((Ma l tick).map JI)):=by have a0:=aC (mx:=mx) l tick hl;have e0:=bn (mx:=mx) l tick hl h30;have k0:=yd (mx:=mx) (atR l tick) (BT l tick) tick (by have:=RR hl tick;omega) (by have:=NU l tick;omega);have hR:Ma l tick=C9 (atR l tick) (BT l tick) tick:=rfl;rw[hR];generalize C9 (atR l tick) (BT l tick) tick=q at k0;generalize atR l tick=cc at a0 k0;generalize BT l tick=rr at e0 k0;refine MX F34 ?_;exact EV (cj a0 (cj e0 k0)) trivial
end
section
theorem eRw_eq(x:Rw):JI x=[.str x.id.source,.int .i64 x.id.seq,.str x.table,.str x.key,.int .i64 x.event,.sl (x.fields.map Bi),.int .i64 x.no,.int .i64 x.tick]:=rfl
theorem yf(p:Rw->Bool)(l:List Rw)(f:Nat)(cs:List I)(hl:l.length<=1073741824)(hp:∀x∈l,Is mx f ([.agg (JI x)]++cs) (.bool (p x))):
  MC Tryz.prog (Mi mx) 101 [.ref (.sl 5000 8 0 l.length),.i (.fn f [] cs)] [(5000,.rows 68 8 (l.map JI))] []
   (fun r s=>r=.i (iI (Br p l))/\s=[(5000,.rows 68 8 (l.map JI))]):=by
 refine MX nj ?_;refine lZ ?_;refine lS [0,1,7] (fun i=>[(8,.i (iI i))]) (fun _=>[(5000,.rows 68 8 (l.map JI))]) (fun i=>∀j (h:j<l.length),j<i->p l[j]=false) l.length ?_;intro i hi jb;by_cases ja:i<l.length
 ·have h1:=hp (l.getD i default) (At ja);cases hv:p (l.getD i default)
  ·rw[hv]at h1;refine Kas (cj h1 (BV ja)) ?_;intro j hj hji;by_cases e:j=i
   ·subst e;rw[<-AK hj];exact hv
   ·exact jb j hj (by omega)
  ·rw[hv]at h1;refine Kas (cj h1 (BV ja)) ?_;refine Dv [(5000,5000)] ?_;rw[LA ja (by rw[<-AK ja];exact hv) jb];simp[VL]
 ·refine FU (Hi ja) ?_;refine Dv [(5000,5000)] ?_;rw[LB fun j hj=>jb j hj (by omega)];simp[VL]
theorem yg(p:Rw->Bool)(l:List Rw)(f:Nat)(cs:List I)(hl:l.length<=1000000)(hp:∀x∈l,Is mx f ([.agg (JI x)]++cs) (.bool (p x))):
  MC Tryz.prog (Mi mx) 67 [.ref (.sl 5000 8 0 l.length),.i (.fn f [] cs)] [(5000,.rows 68 8 (l.map JI))] []
   (fun r s=>r=.ref (.sl 5000 8 0 (l.filter fun x=>!p x).length)/\s=[(5000,.rows 68 8 ((l.filter fun x=>!p x).map JI++List.replicate (l.length-(l.filter fun x=>!p x).length) (JI HX)))]):=by
 have m1:=yf (mx:=mx) p l f cs (by omega) hp;refine MX F67 ?_;rcases xY p l with⟨h1,h2⟩|⟨k,h1,h2,h3,h4⟩
 ·rw[h1]at m1;rw[h2]
  (repeat' first|simp(disch:=omega)only[go_sem,simprocAttr]|(first|refine D2 (m1) ?_ (fun r sto' hR=>?_)|refine Dg (m1) ?_ (fun r sto' hR=>?_);(focus(first|rfl|(simp only[go_sem,simprocAttr];done)));first|(obtain⟨rfl,rfl⟩:=hR)|(obtain⟨_,(rfl|rfl),rfl,rfl⟩:=hR))|refine Ac ?_|fail)
  refine Dv [(5000,5000)] ?_;simp[VL]
 ·rw[h1]at m1;have jg:(((k:Int)=-1))=False:=Za9 (by omega);have ef:=U5 p h2;rw[Zaa h3,h4]at ef;have hinit:DelI JI p l k (k+1) (l.map JI):=⟨h2,by simp,by rw[ef];simp;omega,by omega,by rw[ef,Ze7],by rw[Ze2],fun q hq=>by rw[Zdx,Zd2 hq];simp[Gu]⟩
  (repeat' first|simp(disch:=omega)only[go_sem,simprocAttr,jg]|(first|refine D2 (m1) ?_ (fun r sto' hR=>?_)|refine Dg (m1) ?_ (fun r sto' hR=>?_);(focus(first|rfl|(simp only[go_sem,simprocAttr,jg];done)));first|(obtain⟨rfl,rfl⟩:=hR)|(obtain⟨_,(rfl|rfl),rfl,rfl⟩:=hR))|refine Ac ?_|fail)
  refine lT [0,1] (fun g:Nat×Nat×List (List I)=>[(5,.i (iI g.1)),(6,.i (iI g.2.1))]) (fun g=>[(5000,.rows 68 8 g.2.2)]) (fun g=>DelI JI p l g.1 g.2.1 g.2.2) (fun g=>l.length-g.2.1) (k,k+1,l.map JI) ?_ hinit;rintro⟨i,j,R⟩ hI;simp only at hI;have je:=hI.len;have jn:=hI.lt;have qx:=hI.hj;by_cases hj:j<l.length
  ·have vo:=hp (l.getD j default) (At hj);have hgj:=hI.getj hj;cases hv:p (l.getD j default)
   ·rw[hv]at vo;have qa:setL (R.getD i []) 0 (JI (l.getD j default))=JI (l.getD j default):=xZ (by rw[hI.rw_ i (by omega),Gu,Gu];exact Zgu _);have ww:(R.getD i []).length=8:=by rw[hI.rw_ i (by omega),Gu]
    have hko:=hI.keep (fun x=>by rw[Gu,Gu]) hj hv;rw[eRw_eq]at hgj qa hko vo;refine Kas (cj vo (cj (BV hj) (cj hgj (cj qa (cj je ww))))) ?_;exact⟨(i+1,j+1,_),hko,by simp only;omega,⟨rfl,rfl⟩,rfl⟩
   ·rw[hv]at vo;rw[eRw_eq]at hgj vo;refine Kas (cj vo (cj (BV hj) (cj hgj je))) ?_;exact⟨(i,j+1,R),hI.skip hj hv,by simp only;omega,⟨rfl,rfl⟩,rfl⟩
  ·have e:j=l.length:=by omega
   subst e;have vw:setL R i (List.replicate (l.length-i) (JI HX))=(l.filter fun x=>!p x).map JI++List.replicate (l.length-i) (JI HX):=by have h5:=hI.tk;rw[Zgd]at h5;rw[setL,h5,Zew,Zdc (by omega),Zc1]
   have hcn:=hI.cnt;rw[Zgd]at hcn;refine lY (cj (Hi hj) je) ?_;generalize hq:setL R i (List.replicate (l.length-i) _)=q;have hz:q=(l.filter fun x=>!p x).map JI++List.replicate (l.length-i) (JI HX):=hq.symm.trans vw;have hql:q.length=l.length:=by grind
   refine⟨by rw[hql];omega,?_⟩;refine D0 [(5000,5000)] (s':=[(5000,.rows 68 8 q)]) rfl rfl (by decide) rfl ⟨?_,?_⟩
   ·rw[<-hcn];rfl
   ·rw[hz,<-hcn];rfl
theorem yh(nm:Nat)(hn:nm<5000)(p:Rw->Bool)(l:List Rw)(f:Nat)(cs:List I)(hl:l.length<=1000000)(hp:∀x∈l,Is mx f ([.agg (JI x)]++cs) (.bool (p x))):
  MC Tryz.prog (Mi mx) 67 [.ref (.sl nm 8 0 l.length),.i (.fn f [] cs)] [(nm,.rows 68 8 (l.map JI))] []
   (fun r s=>r=.ref (.sl nm 8 0 (l.filter fun x=>!p x).length)/\s=[(nm,.rows 68 8 ((l.filter fun x=>!p x).map JI++List.replicate (l.length-(l.filter fun x=>!p x).length) (JI HX)))]):=by
 have e1:KN [(5000,nm)] 5000=nm:=by rfl
 have h:=(MC.as [(5000,nm)] (yg (mx:=mx) p l f cs hl hp)).mono (R':=fun r s=>r=.ref (.sl nm 8 0 (l.filter fun x=>!p x).length)/\s=[(nm,.rows 68 8 ((l.filter fun x=>!p x).map JI++List.replicate (l.length-(l.filter fun x=>!p x).length) (JI HX)))]) (by
  rintro r s ⟨h1,h2⟩;have k:=DX (f:=IM [(5000,nm)]) (g:=KN [(5000,nm)]) (BQ _) r;have k2:=E2 (f:=IM [(5000,nm)]) (g:=KN [(5000,nm)]) (BQ _) s;rw[h1]at k;rw[h2]at k2;refine⟨?_,?_⟩
  ·rw[<-k];simp only[I8,OF,e1]
  ·rw[<-k2];simp only[IL,KL,e1])
 simp only[Ze1,Ze5,I8,OF,IL,KL,e1]at h;exact h
end
end Go.Proofs.YtojgbkiejjingaaGreatDoor
