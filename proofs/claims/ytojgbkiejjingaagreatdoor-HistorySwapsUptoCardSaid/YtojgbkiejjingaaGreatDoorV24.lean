/-Lemmas.-/
import Derived.Test.YtojgbkiejjingaaGreatDoorV23
set_option linter.all false
set_option maxRecDepth 100000
set_option maxHeartbeats 8000000
namespace Go.Proofs.YtojgbkiejjingaaGreatDoor
open Go Go.Dl Go.As Go.Proofs
variable {mx:Int}
attribute[local irreducible] Ah Ai MC W2 Fq ev evD step Ad
section
def Fp(l:List Ent)(x:Ers):Ent:=if l.length=0 then⟨1,0,2,HU,x,Fl⟩else⟨(l.getD (l.length-1) default).no+1,(l.getD (l.length-1) default).tick,2,HU,x,Fl⟩
theorem aDc(l:List Ent)(x:Ers)(tick:Int)(hb:Ag AB l+Iq x<=1048576):Is mx 6 [.sl (l.map Ae),.agg (Cy x),iI tick] (.bool true):=by
 have v1:=Sa (mx:=mx) l (by omega);have ex:=PR (mx:=mx);cases hf:FS l&&decide (C8 l=0)
 ·rw[hf]at v1;refine MX F6 ?_;exact EV v1 trivial
 rw[hf]at v1;by_cases h59:59<(l.length:Int)
 ·refine MX F6 ?_;exact AU (cj v1 h59) trivial
 rw[Zbz,Za0]at hf;have hV:=PS hf.2;have hr0:=A1 (f:=Ae) (k:=40) l KC L3;have hr:(∀r∈l.map Ae,r.length=40)=True/\(∀r∈l.map Ae,r.all I.one=true)=True:=⟨Za8 hr0.1,Za8 hr0.2⟩;have hro:=Gy (Fp l x);have hln:l.length<=59:=by omega
 refine MX F6 ?_
 (repeat' first|simp(disch:=omega)only[go_sem,simprocAttr]|fail)
 refine Ac ?_
 (repeat' first|simp(disch:=omega)only[go_sem,simprocAttr,Za9 h59,Za2]|refine Sx.s ?_ ?_<;>try(intro h;have h':=h;try simp only[HB]at h';try rewrite [h];try simp only[h])|refine Ab (v1) ?_|fail)
 refine Dl.cutS [0,2,4,7] (by simp only[V0,JK,reduceIte,Nat.reduceEqDiff];rfl) [] [(7,.cells ((Ae (Fp l x)).map .i))] True ?_ (fun _=>?_)
 ·by_cases h0:l.length=0
  ·have hz:((0:Int)<(l.length:Int))=False:=Za9 (by omega);have e0:Fp l x=⟨1,0,2,HU,x,Fl⟩:=Zaa h0;rw[e0];refine Jf (cj hz @AN) ?_;rfl
  ·have hz:((0:Int)<(l.length:Int))=True:=Za8 (by omega);have kh:((l.length:Int)-1).toNat=l.length-1:=by omega
   have kg:(l.length:Int)-1=((l.length-1:Nat):Int):=by omega
   have jn:l.length-1<l.length:=by omega
   have e0:Fp l x=⟨(l.getD (l.length-1) default).no+1,(l.getD (l.length-1) default).tick,2,HU,x,Fl⟩:=Zac h0;have hw:IntKind.i64.wrap ((l.getD (l.length-1) default).no+1)=(l.getD (l.length-1) default).no+1:=by have:=hV.order jn;simp only[Zca,Gr,Za4]at this;exact B3 (by omega) (by omega)
   rw[e0];refine Jf (cj hz (cj kg (cj (BV jn) (cj @AN hw)))) ?_;rfl
 have hek:(Fp l x).kind=2:=by unfold Fp;split<;>rfl
 have qd:(Fp l x).erasure=x:=by unfold Fp;split<;>rfl
 have heb:AB (Fp l x)<=Iq x+100:=by
  have h1:=El (Fp l x);have h2:(Fp l x).fact=HU:=by unfold Fp;split<;>rfl
  have h3:(Fp l x).change=Fl:=by unfold Fp;split<;>rfl
  rw[h2,h3,qd]at h1;have h4:GY HU<=40:=by decide
  have h5:D5 Fl<=40:=by decide
  omega
 generalize ji:Fp l x=e at*;have hmb:Ag AB (l++[e])<=1048676:=by rw[Hb];simp only[Ag];omega
 have qr:(l++[e]).length<=60:=by simp;omega
 have htk0:List.take l.length (l.map Ae)=l.map Ae:=Zgf (by simp);have kc:l.map Ae++[Ae e]=(l++[e]).map Ae:=by rw[Zez];rfl
 have htk2:List.take (l.length+1) ((l++[e]).map Ae)=(l++[e]).map Ae:=Zgf (by simp);have c1:=UN (mx:=mx) (l++[e]) (by omega);have e1:=HY (mx:=mx) l tick (by omega);have e2:=HY (mx:=mx) (l++[e]) tick (by omega);have a1:=Vy (mx:=mx) l 1099511627776 (by omega);by_cases wh:C8 (l++[e])=0
 case neg=>
  have hd:decide (C8 (l++[e])≠0)=true:=by simpa using wh
  exact Kas (cj c1 (cj ex (cj hr (cj hro (cj htk0 (cj kc (cj htk2 hd))))))) trivial
 have hd:decide (C8 (l++[e])≠0)=false:=by simpa using wh
 have hVm:=PS wh;rw[N9 hV]at e1;rw[N9 hVm,aD1 hek]at e2;have vn:∀r∈BT l tick,r.fields.length<=1073741824:=fun r hr=>by obtain⟨i,hi⟩:=((D8 l tick).2 r).1 hr;have:=PU hi;omega
 have xi:=NU l tick;have hps:=(D8 l tick).1;have hpm:=(D8 l tick).2;have ht:=RR (l:=l) (by omega) 1099511627776;have her:=eg l e hek;rw[qd]at her;have hsub0:=fun id=>el l e hek (x:=id)
 generalize BT l tick=rows at*;generalize hc:atR l 1099511627776=c at*;generalize hP:(fun r:Rw=>!Er (Bn (l++[e])) r.id)=P at*;have wj:(rows.filter P).length<=rows.length:=Zer _ _
 (repeat' first|simp(disch:=omega)only[go_sem,simprocAttr,hr,hro,Zg8,Zg6,htk0,kc,htk2,hd]|refine Sx.s ?_ ?_<;>try(intro h;have h':=h;try simp only[HB]at h';try rewrite [h];try simp only[h])|refine Ab (c1) ?_|refine Ab (e1) ?_|refine Ab (e2) ?_|refine Ab (a1) ?_|refine Ac ?_|refine Au ?_|(refine And.intro ?_ ?_;focus omega))
 refine A4 [4,9,10,11] (by simp only[V0,JK,reduceIte,Nat.reduceEqDiff];rfl) (fun i:Nat=>[(12,.i (iI (CM P rows i))),(13,.i (iI i))]) (fun _=>[])
  (fun i=>i<=rows.length) (fun i=>rows.length-i) 0 (by simp) (by simp[V0,H0,JJ,CM]) ?_
 intro i hi;by_cases ja:i<rows.length
 ·obtain⟨id,xn⟩:=(hpm _).1 (At ja);have jt:=JG xn;have hrf:=vn _ (At ja);obtain⟨p,hp,hpo,hp3,hpr,hpe,_⟩:=hV.row xn;obtain⟨po1,po2,po3⟩:=PT.1 hpo;obtain⟨t,_,htb⟩:=dY hV (tick:=1099511627776) hp po1 hp3 (hV.tick hp).2;have wz:=RH (mx:=mx) c (rows.getD i default).table (by omega);have hrt:(rows.getD i default).table=(l.getD p default).fact.table:=by rw[hpr];rfl
  have wv:(rows.getD i default).key=(l.getD p default).fact.key:=by rw[hpr];rfl
  rw[hc]at htb;rw[hrt,htb,<-hrt]at wz;unfold Gi at wz;simp only[Zhh,Zhk]at wz;have jc:∀r2∈rows,r2.id=(rows.getD i default).id->r2=rows.getD i default:=fun r2 h2 e2=>by obtain⟨id2,hid2⟩:=(hpm _).1 h2;have:=JG hid2;rw[<-this,e2,jt,xn]at hid2;exact(Zho hid2).symm
  have kq:=eq (P:=P) ja;generalize hr9:rows.getD i default=r at*;have three:=ey (P:=P) hps ja hr9;generalize hn:CM P rows i=n at*;generalize hsn:rows.filter P=seen at*;have s2:=LO (mx:=mx) r r true hrf hrf;rw[PV,eRw_eq]at s2;have hPr:P r= !Er (Bn (l++[e])) r.id:=by rw[<-hP]
  have hH1:P r=true->(decide (x.kind=2)&&(r.id.source==x.id.source&&r.id.seq==x.id.seq)||decide (x.kind=1)&&decide (t.entity=x.entity)&&decide (r.key=x.key))=false:=fun vo=>by
   apply Zb1.2;intro hq;have hno:¬r.id∈Bn (l++[e]):=fun q=>by rw[hPr,(NN _ _).2 q]at vo;cases vo
   apply hno;rw[her];simp only[Zcb,Zbz,Za0,Zas]at hq;rcases hq with⟨q1,q2,q3⟩|⟨⟨q1,q2⟩,q3⟩
   ·rw[Zaa q1,NM];refine .inl ?_;cases h1:r.id;cases h2:x.id;rw[h1,h2]at q2 q3;simp only at q2 q3;rw[q2,q3]
   ·rw[Zac (by omega)];exact(NO _ _ _ _ _).2 (.inr ⟨l.getD p default,At hp,po1,hp3,by rw[<-wv,q3],⟨t,htb,q2⟩,by rw[po3,jt]⟩)
  have hH2:P r=false->x.kind=2->(decide (x.kind=2)&&(r.id.source==x.id.source&&r.id.seq==x.id.seq)||decide (x.kind=1)&&decide (t.entity=x.entity)&&decide (r.key=x.key))=true:=fun vo hk=>by
   have j9:r.id∈Bn (l++[e]):=(NN _ _).1 (by rw[hPr]at vo;simpa using vo);rw[her,Zaa hk,NM]at j9;rcases j9 with q|q
   ·rw[q,hk];simp
   ·rw[jt]at q;rw[(NN _ _).2 q]at hpe;cases hpe
  rcases three with⟨wu,k1,k2⟩|⟨wu,k1,r2,k2,k3,k4⟩|⟨wu,k1⟩
  ·have k3:decide ((n:Int)<(seen.length:Int))=true:=Za5 (by omega);rw[Zaa wu]at kq
   (repeat' first|exact Ao _|simp(disch:=omega)only[go_sem,simprocAttr,BV ja,hr9,eRw_eq,BV k1,k2,hH1 wu]|refine' Av (fun hq=>?_) (fun f=>?_)<;>try(have jd:=hq;try simp only[HB]at jd)|refine' CI (fun hq=>?_) (fun f=>?_)<;>try(have jd:=hq;try simp only[HB]at jd)|refine Sx.s ?_ ?_<;>try(intro h;have h':=h;try simp only[HB]at h';try rewrite [h];try simp only[h])|refine Ab (wz) ?_|refine Ab (s2) ?_|refine Ac ?_|refine Au ?_|fail)
   all_goals exact⟨i+1,by omega,by omega,by rw[kq];rfl,rfl⟩
  ·have q3:decide ((n:Int)<(seen.length:Int))=true:=Za5 (by omega);rw[Zac (by rw[wu];simp)]at kq;have hr2:DN true r2 r=false:=by
    cases e9:DN true r2 r
    ·rfl
    ·exact absurd (jc r2 k2 (ew e9)) k3
   have s3:=LO (mx:=mx) r2 r true (vn r2 k2) hrf;rw[hr2,eRw_eq,eRw_eq]at s3;by_cases qe:x.kind=2
   ·have hH:(r.id.source==x.id.source&&r.id.seq==x.id.seq)=true:=by have h9:=hH2 wu qe;rw[qe]at h9;simpa using h9
    (repeat' first|simp(disch:=omega)only[go_sem,simprocAttr,BV ja,hr9,eRw_eq,BV k1,k4,qe,hH]|refine Sx.s ?_ ?_<;>try(intro h;have h':=h;try simp only[HB]at h';try rewrite [h];try simp only[h])|refine Ab (wz) ?_|refine Ab (s3) ?_|refine Ac ?_|refine Au ?_|fail)
    all_goals exact⟨i+1,by omega,by omega,by rw[kq];rfl,rfl⟩
   ·(repeat' first|exact Ao _|simp(disch:=omega)only[go_sem,simprocAttr,BV ja,hr9,eRw_eq,BV k1,k4,Za9 qe]|refine' Av (fun hq=>?_) (fun f=>?_)<;>try(have jd:=hq;try simp only[HB]at jd)|refine Sx.s ?_ ?_<;>try(intro h;have h':=h;try simp only[HB]at h';try rewrite [h];try simp only[h])|refine Ab (wz) ?_|refine Ab (s3) ?_|refine Ac ?_|refine Au ?_|fail)
    all_goals exact⟨i+1,by omega,by omega,by rw[kq];rfl,rfl⟩
  ·have q3:decide ((n:Int)<(seen.length:Int))=false:=Zba (by omega);rw[Zac (by rw[wu];simp)]at kq;by_cases qe:x.kind=2
   ·have hH:(r.id.source==x.id.source&&r.id.seq==x.id.seq)=true:=by have h9:=hH2 wu qe;rw[qe]at h9;simpa using h9
    (repeat' first|simp(disch:=omega)only[go_sem,simprocAttr,BV ja,hr9,eRw_eq,q3,qe,hH]|refine Sx.s ?_ ?_<;>try(intro h;have h':=h;try simp only[HB]at h';try rewrite [h];try simp only[h])|refine Ab (wz) ?_|refine Ac ?_|refine Au ?_|fail)
    all_goals exact⟨i+1,by omega,by omega,by rw[kq];rfl,rfl⟩
   ·(repeat' first|exact Ao _|simp(disch:=omega)only[go_sem,simprocAttr,BV ja,hr9,eRw_eq,q3,Za9 qe]|refine' Av (fun hq=>?_) (fun f=>?_)<;>try(have jd:=hq;try simp only[HB]at jd)|refine Sx.s ?_ ?_<;>try(intro h;have h':=h;try simp only[HB]at h';try rewrite [h];try simp only[h])|refine Ab (wz) ?_|refine Ac ?_|refine Au ?_|fail)
    all_goals exact⟨i+1,by omega,by omega,by rw[kq];rfl,rfl⟩
 ·have wl:i=rows.length:=by omega
  have ko:(CM P rows i:Int)=((rows.filter P).length:Int):=by unfold CM;rw[wl,Zgd]
  exact AU (cj ex (cj (Hi ja) ko)) trivial
end
section
def CN(x:Ent)(f:Fct):Ent:=⟨x.no,x.tick,x.kind,f,x.erasure,x.change⟩
def Bo(l:List Ent)(i:Nat):List Ent:=(l.set i (CN (l.getD i default) (l.getD (i+1) default).fact)).set (i+1) (CN (l.getD (i+1) default) (l.getD i default).fact)
def sg(i k:Nat):Nat:=if k=i then i+1 else if k=i+1 then i else k
theorem eC{i k n:Nat}(hi:i+1<n)(h:k<n):sg i k<n:=by unfold sg;(repeat' split)<;>omega
theorem aDj{i a b:Nat}(h:a≠b):sg i a≠sg i b:=by unfold sg;(repeat' split)<;>omega
theorem aDk(i k:Nat):sg i (sg i k)=k:=by unfold sg;(repeat' split)<;>omega
theorem Hh(l:List Ent)(i:Nat):(Bo l i).length=l.length:=by simp[Bo]
theorem VG{l:List Ent}{i:Nat}(hi:i+1<l.length)(k:Nat):(Bo l i).getD k default=if k=i+1 then CN (l.getD (i+1) default) (l.getD i default).fact else if k=i then CN (l.getD i default) (l.getD (i+1) default).fact else l.getD k default:=by grind[Bo]
theorem Mg{l:List Ent}{i:Nat}(hi:i+1<l.length)(k:Nat):((Bo l i).getD k default).no=(l.getD k default).no/\((Bo l i).getD k default).tick=(l.getD k default).tick/\((Bo l i).getD k default).kind=(l.getD k default).kind/\((Bo l i).getD k default).erasure=(l.getD k default).erasure/\((Bo l i).getD k default).change=(l.getD k default).change/\((Bo l i).getD k default).fact=(l.getD (sg i k) default).fact:=by
 rw[VG hi];unfold sg;by_cases h1:k=i+1
 ·subst h1;rw[Zaa rfl,Zac (by omega),Zaa rfl];exact⟨rfl,rfl,rfl,rfl,rfl,rfl⟩
 ·rw[Zac h1];by_cases h2:k=i
  ·subst h2;rw[Zaa rfl,Zaa rfl];exact⟨rfl,rfl,rfl,rfl,rfl,rfl⟩
  all_goals grind
theorem Sf{l:List Ent}{i:Nat}(k1:(l.getD i default).kind=1)(k2:(l.getD (i+1) default).kind=1)(k:Nat):(l.getD (sg i k) default).kind=(l.getD k default).kind:=by grind[sg]
theorem Ob{α:Type}[Inhabited α]{l:List α}{j:Nat}(hj:j<=l.length){x:α}:x∈l.take j↔∃k,k<j/\l.getD k default=x:=by
 constructor
 ·intro h;obtain⟨k,hk,e⟩:=PM h;rw[Zex]at hk;exact⟨k,by omega,by rw[<-UG (by omega:k<j) hj];exact e⟩
 ·rintro⟨k,hk,e⟩;rw[<-e,<-UG hk hj];exact At (by rw[Zex];omega)
theorem VH{l:List Ent}{j:Nat}(hj:j<l.length):FN l j=false↔∀k,k<j->(l.getD k default).kind=1->(l.getD k default).fact.id≠(l.getD j default).fact.id:=by
 unfold FN;rw[List.any_eq_false];constructor
 ·intro h k hk h1 h2;refine h _ ((Ob (by omega)).2 ⟨k,hk,rfl⟩) ?_;unfold Jz;rw[h1,h2];simp
 ·intro h x hx;obtain⟨k,hk,e⟩:=(Ob (by omega)).1 hx;subst e;unfold Jz;grind
theorem Valid.ids{l:List Ent}(h:Valid l){a b:Nat}(ha:a<l.length)(hb:b<l.length)(hab:a≠b)(ka:(l.getD a default).kind=1)(kb:(l.getD b default).kind=1):(l.getD a default).fact.id≠(l.getD b default).fact.id:=by
 rcases Zgz a b with q|q
 ·exact(VH hb).1 (h.twice hb kb) a q ka
 ·exact fun e=>(VH ha).1 (h.twice ha ka) b (by omega) kb e.symm
theorem aDl{x:Ent}{f:Fct}(hk:x.kind=1):FM (CN x f)=FM x:=by unfold FM CN;rw[hk];simp
section
variable {l:List Ent}{i:Nat}(h:Valid l)(hi:i+1<l.length)(k1:(l.getD i default).kind=1)(k2:(l.getD (i+1) default).kind=1)
include h hi k1 k2
theorem aDm:Bb l (i+1)=Bb l i/\Bb l (i+2)=Bb l i:=by have h1:=(h.fact (by omega) k1).1;have h2:=(h.fact hi k2).1;grind
theorem aDn{j:Nat}(hj:j<l.length):Dn (Bo l i) j (Bb l j)=(Bb l (j+1),0):=by
 obtain⟨a1,a2,a3,a4,a5,a6⟩:=Mg hi j;obtain⟨b1,b2,_⟩:=Mg hi (j-1);have ho:=h.order hj;have hf:=h.form hj;have hs:=h.step hj;have e1:Gr ((Bo l i).getD j default)=Gr (l.getD j default):=by unfold Gr;rw[a1,a2]
 have e2:Gs (Bo l i) j ((Bo l i).getD j default)=Gs l j (l.getD j default):=by unfold Gs;rw[a1,a2,b1,b2]
 have e3:FM ((Bo l i).getD j default)=true:=by grind[VG,aDl]
 unfold Dn;rw[e1,e2,ho,Zac (by simp),e3,Zac (by simp),a3,a4,a5,a6];by_cases kj:(l.getD j default).kind=1
 ·rw[Zaa kj];have hfa:Gm (Bb l j) (l.getD (sg i j) default).fact=0:=by
   obtain⟨c1,c2⟩:=aDm h hi k1 k2;unfold sg;split
   ·rename_i e;subst e;rw[<-c1];exact(h.fact hi k2).2
   ·split
    ·rename_i e;subst e;rw[c1];exact(h.fact (by omega) k1).2
    ·exact(h.fact hj kj).2
  have htw:FN (Bo l i) j=false:=by rw[VH (by rw[Hh];exact hj)];intro k hk hkk;rw[(Mg hi k).2.2.2.2.2,a6];rw[(Mg hi k).2.2.1]at hkk;exact h.ids (eC hi (by omega)) (eC hi hj) (aDj (by omega)) (by rw[Sf k1 k2];exact hkk) (by rw[Sf k1 k2];exact kj)
  rw[hfa,htw,Zac (by simp),(h.fact hj kj).1]
 ·unfold Dn at hs;grind
theorem Sg:∀j,j<=l.length->A6 (Bo l i) j=(Bb l j,0)
 |0,_=>rfl
 |j+1,hj=>by rw[A6,Sg j (by omega),Zac (by simp)];grind[aDn]
theorem aDo(h4:l.length<=4096):C8 (Bo l i)=0:=by unfold C8;grind[Hh,Sg]
theorem eD:Valid (Bo l i):=⟨fun j hj=>by rw[Sg h hi k1 k2 j (by rw[Hh]at hj;exact hj)]⟩
theorem aDp{j:Nat}(hj:j<=l.length):Bb (Bo l i) j=Bb l j:=by show(A6 (Bo l i) j).1=Bb l j;grind[Sg]
theorem eF:∀j,j<=l.length->Bl (Bo l i) j=Bl l j
 |0,_=>rfl
 |j+1,hj=>by
  have ih:=eF j (by omega);obtain⟨a1,a2,a3,a4,a5,a6⟩:=Mg hi j;have jp:j<l.length:=by omega
  rw[Bl,Bl,ih,a3,a4];by_cases kj:(l.getD j default).kind≠2
  ·grind
  ·rw[Zac kj,Zac kj];have kj:=Zch.1 kj;have hji:j≠i:=fun e=>by grind
   have hji2:j≠i+1:=fun e=>by grind
   split
   ·rfl
   ·rw[(eD h hi k1 k2).atR (by rw[Hh];omega),h.atR (by omega),aDp h hi k1 k2 (by omega)];have hso:=PI l j;refine KD HV (RK _ _ _ _ hso) (RK _ _ _ _ hso) fun y=>?_
    rw[NO,NO];refine or_congr Iff.rfl ?_;constructor
    ·rintro⟨e,he,e1,e2,e3,e4,e5⟩;obtain⟨k,hk,rfl⟩:=(Ob (by rw[Hh];omega)).1 he;obtain⟨_,_,c3,_,_,c6⟩:=Mg hi k;rw[c3]at e1;rw[c6]at e2 e3 e4 e5;exact⟨_,(Ob (by omega)).2 ⟨sg i k,by unfold sg;(repeat' split)<;>omega,rfl⟩,by rw[Sf k1 k2];exact e1,e2,e3,e4,e5⟩
    ·rintro⟨e,he,e1,e2,e3,e4,e5⟩;obtain⟨k,hk,rfl⟩:=(Ob (by omega)).1 he;obtain⟨_,_,c3,_,_,c6⟩:=Mg hi (sg i k);rw[aDk]at c6;rw[Sf k1 k2]at c3;exact⟨_,(Ob (by rw[Hh];omega)).2 ⟨sg i k,by unfold sg;(repeat' split)<;>omega,rfl⟩,by rw[c3];exact e1,by rw[c6];exact e2,by rw[c6];exact e3,by rw[c6];exact e4,by rw[c6];exact e5⟩
theorem eG:Bn (Bo l i)=Bn l:=by unfold Bn;grind[Hh,eF]
end
end
section
theorem eH{l:List Ent}{i:Nat}(hi:i+1<l.length):l=l.take i++([l.getD i default,l.getD (i+1) default]++l.drop (i+2))/\Bo l i=l.take i++([CN (l.getD i default) (l.getD (i+1) default).fact,CN (l.getD (i+1) default) (l.getD i default).fact]++l.drop (i+2)):=by
 have hl:l=l.take i++([l.getD i default,l.getD (i+1) default]++l.drop (i+2)):=by have h1:l.drop i=l.getD i default::l.drop (i+1):=Dj (by omega);have h2:l.drop (i+1)=l.getD (i+1) default::l.drop (i+2):=Dj hi;show l=l.take i++(l.getD i default::l.getD (i+1) default::l.drop (i+2));rw[<-h2,<-h1,Zga]
 refine⟨hl,?_⟩;have jn:(l.take i).length=i:=by rw[Zex];omega
 apply Zdh;intro k;by_cases hk:k<l.length
 ·have e:=VG hi k;rw[Zdx,Zd2 (by rw[Hh];exact hk)]at e;rw[Zd2 (by rw[Hh];exact hk)];have e:(Bo l i)[k]'(by rw[Hh];exact hk)=_:=e;rw[e];by_cases h1:k<i
  ·rw[Zac (by omega),Zac (by omega),Zdy (by omega),Zd8,Zaa h1,AK hk,Zd2 hk]
  ·rw[Zdz (by omega),jn];by_cases h2:k=i
   ·subst h2;rw[Zac (by omega),Zaa rfl,Zg5];rfl
   ·by_cases h3:k=i+1
    ·subst h3;rw[Zaa rfl,show i+1-i=1 by omega];rfl
    ·rw[Zac h3,Zac h2,Zdz (by simp;omega),Zd1,AK hk];simp only[Zem,Zeu];rw[show i+2+(k-i-(0+1+1))=k by omega,Zd2 hk]
 ·rw[Zd3 (by rw[Hh];omega),Zd3];simp only[Zel,Zem,Zeu,Zen,jn];omega
def Mh(a b:Ent×Bool):Prop:=a.1.fact=b.1.fact/\a.2=b.2
theorem aDq(id:Fid)(tick:Int)(e:Ent){a b:Ent×Bool}(h:Mh a b):Mh (Si id tick a e) (Si id tick b e):=by
 unfold Si;split
 ·rw[h.1,h.2];refine⟨?_,rfl⟩;simp only;split
  ·rfl
  ·exact h.1
 ·exact h
theorem eI(id:Fid)(tick:Int):∀(l:List Ent) {a b:Ent×Bool},Mh a b->Mh (l.foldl (Si id tick) a) (l.foldl (Si id tick) b)
 |[],_,_,h=>h
 |e::l,_,_,h=>eI id tick l (aDq id tick e h)
theorem eJ(f:Fct):(AO f).source=f.id.source:=by unfold AO;split<;>rfl
theorem aDr{id:Fid}{tick:Int}{x y:Ent}(kx:x.kind=1)(ky:y.kind=1)(tx:x.tick<=tick)(ty:y.tick<=tick)(jg:x.fact.id≠y.fact.id)(a:Ent×Bool):
  Mh (Si id tick (Si id tick a (CN x y.fact)) (CN y x.fact)) (Si id tick (Si id tick a x) y):=by
 have hx:CK id tick x=decide (AO x.fact=id):=by unfold CK;rw[kx];simp;omega
 have hy:CK id tick y=decide (AO y.fact=id):=by unfold CK;rw[ky];simp;omega
 have hx':CK id tick (CN x y.fact)=decide (AO y.fact=id):=by unfold CK CN;simp only;rw[kx];simp;omega
 have hy':CK id tick (CN y x.fact)=decide (AO x.fact=id):=by unfold CK CN;simp only;rw[ky];simp;omega
 have f1:(CN x y.fact).fact=y.fact:=rfl;have f2:(CN y x.fact).fact=x.fact:=rfl;unfold Si;rw[hx,hy,hx',hy',f1,f2];by_cases bx:AO x.fact=id
 ·by_cases by_:AO y.fact=id
  ·have hs:x.fact.id.seq≠y.fact.id.seq:=fun e=>jg (by
    have h1:=eJ x.fact;have h2:=eJ y.fact;rw[bx]at h1;rw[by_]at h2;cases hxi:x.fact.id;cases hyi:y.fact.id;rw[hxi]at e h1;rw[hyi]at e h2;simp only at e h1 h2;rw[e,<-h1,h2])
   simp only[bx,by_,Za1,Zad];refine⟨?_,?_⟩
   ·simp only
    repeat' split
    all_goals first|rfl|(exfalso;omega)|(exfalso;simp only[f1,f2]at*;omega)
   ·simp only[Bool.or_assoc];rw[Bool.or_comm (decide (y.fact.kind=1))]
  ·simp only[bx,by_,Za1,Za2,Zad,Zb4,Zag];refine⟨?_,rfl⟩;simp only;split<;>rfl
 ·by_cases by_:AO y.fact=id
  ·simp only[bx,by_,Za1,Za2,Zad,Zb4,Zag];refine⟨?_,rfl⟩;simp only;split<;>rfl
  ·simp only[bx,by_,Za2,Zb4,Zag];exact⟨rfl,rfl⟩
def bare(r:Rw):Rw:=⟨r.id,r.table,r.key,r.event,r.fields,0,0⟩
theorem eM(a b:Rw):BE (bare a) (bare b)↔BE a b:=by rw[L5,L5];exact Iff.rfl
theorem eN:∀{a b:List Rw},a.map bare=b.map bare->eqL (DN false) a b=true
 |[],[],_=>rfl
 |[],_::_,h=>by simp at h
 |_::_,[],h=>by simp at h
 |x::a,y::b,h=>by
  rw[Ze1,Ze1,Zc2]at h;have ih:=eN h.2;have e:DN false x y=true:=by have h1:=h.1;unfold bare at h1;simp only[Rw.mk.injEq]at h1;obtain⟨a1,a2,a3,a4,a5,_⟩:=h1;unfold DN;rw[a1,a2,a3,a4,a5,KG Dw y.fields fun z _=>dM z];simp
  simp only[eqL,e,ih,Bool.and_self]
section
variable {l:List Ent}{i:Nat}(h:Valid l)(hi:i+1<l.length)(k1:(l.getD i default).kind=1)(k2:(l.getD (i+1) default).kind=1){tick:Int}(ht:(l.getD (i+1) default).tick<=tick)
include h hi k1 k2 ht
theorem aDs(id:Fid):Mh (Cc (Bo l i) id tick) (Cc l id tick):=by
 obtain⟨e1,e2⟩:=eH hi;have jg:=h.ids (a:=i) (b:=i+1) (by omega) hi (by omega) k1 k2;have wz:=h.tick1 hi;have key:∀a:Ent×Bool,Mh (([CN (l.getD i default) (l.getD (i+1) default).fact,CN (l.getD (i+1) default) (l.getD i default).fact]++l.drop (i+2)).foldl (Si id tick) a) (([l.getD i default,l.getD (i+1) default]++l.drop (i+2)).foldl (Si id tick) a):=fun a=>by rw[Zds,Zds];exact eI id tick _ (aDr k1 k2 (by omega) ht jg a)
 have k3:=key ((l.take i).foldl (Si id tick) (L4,false));rw[<-Zds,<-Zds,<-e1,<-e2]at k3;exact k3
theorem eO(id:Fid):(C3 (Bo l i) id tick).map bare=(C3 l id tick).map bare:=by
 have ho:=aDs h hi k1 k2 ht id;unfold C3 DD;rw[eG h hi k1 k2,ho.1,ho.2];split
 ·rfl
 ·simp only[Zhn];unfold bare DS;rw[ho.1]
theorem aDt:(BT (Bo l i) tick).map bare=(BT l tick).map bare:=by
 refine KD HW ?_ ?_ fun x=>?_
 ·rw[Zf1];exact(D8 _ tick).1.imp fun{a b} q=>(eM a b).2 q
 ·rw[Zf1];exact(D8 _ tick).1.imp fun{a b} q=>(eM a b).2 q
 ·have key:∀m m':List Ent,(∀id,(C3 m id tick).map bare=(C3 m' id tick).map bare)->x∈(BT m tick).map bare->x∈(BT m' tick).map bare:=fun m m' he hx=>by obtain⟨r,hr,e⟩:=Zfh.1 hx;obtain⟨id,xn⟩:=((D8 m tick).2 r).1 hr;have:=he id;rw[xn,Zhn]at this;obtain⟨r2,h2,e2⟩:=Zhl.1 this.symm;exact Zfh.2 ⟨r2,((D8 m' tick).2 r2).2 ⟨id,h2⟩,e2.trans e⟩
  exact⟨key _ _ (eO h hi k1 k2 ht),key _ _ fun id=>(eO h hi k1 k2 ht id).symm⟩
theorem aDu:eqL (DN false) (BT (Bo l i) tick) (BT l tick)=true:=eN (aDt h hi k1 k2 ht)
end
end
section
theorem aDv(x:Ent)(f:Fct):List.take 3 (Ae x)++BJ f++List.drop 11 (Ae x)=Ae (CN x f):=rfl
theorem aDw{l:List Ent}{i:Nat}(hi:i+1<l.length):Ag AB (Bo l i)=Ag AB l:=by
 obtain⟨e1,e2⟩:=eH hi;rw[e2];have e3:Ag AB l=Ag AB (l.take i++([l.getD i default,l.getD (i+1) default]++l.drop (i+2))):=by rw[<-e1]
 rw[e3];simp only[Hb,Ag];have h1:=El (l.getD i default);have h2:=El (l.getD (i+1) default);have h3:=El (CN (l.getD i default) (l.getD (i+1) default).fact);have h4:=El (CN (l.getD (i+1) default) (l.getD i default).fact);simp only[CN]at h3 h4⊢;omega
theorem aDx(l:List Ent)(at_ later:Int)(hb:Ag AB l<=1048576):Is mx 5 [.sl (l.map Ae),iI at_,iI later] (.bool true):=by
 have v1:=Sa (mx:=mx) l (by omega);have ex:=PR (mx:=mx);cases hf:FS l&&decide (C8 l=0)
 ·rw[hf]at v1;refine MX F5 ?_;exact EV v1 trivial
 rw[hf]at v1;by_cases h2:(l.length:Int)<2
 ·refine MX F5 ?_;exact AU (cj v1 h2) trivial
 rw[Zbz,Za0]at hf;have hV:=PS hf.2;have h60:l.length<=60:=by have:=hf.1;unfold FS at this;simp at this;omega
 have hn0:1<=(l.length:Int)-1:=by omega
 have hrem:-((l.length:Int)-1)<at_.tmod ((l.length:Int)-1)/\at_.tmod ((l.length:Int)-1)<(l.length:Int)-1:=by have h3:=Int.tmod_lt_of_pos at_ (show 0<(l.length:Int)-1 by omega);refine⟨?_,h3⟩;have h4:=Int.tmod_lt_of_pos (-at_) (show 0<(l.length:Int)-1 by omega);rw[Int.neg_tmod]at h4;omega
 have hlw:IntKind.i64.wrap ((l.length:Int)-1)=(l.length:Int)-1:=B3 (by omega) (by omega);obtain⟨i,hi,wg⟩:∃i:Nat,i+1<l.length/\(i:Int)=if at_.tmod ((l.length:Int)-1)<0 then at_.tmod ((l.length:Int)-1)+(l.length:Int)-1 else at_.tmod ((l.length:Int)-1):=by generalize at_.tmod ((l.length:Int)-1)=q at hrem;refine⟨(if q<0 then q+(l.length:Int)-1 else q).toNat,?_,?_⟩<;>split<;>omega
 generalize hq:at_.tmod ((l.length:Int)-1)=q at*;have hqw:IntKind.i64.wrap q=q:=B3 (by omega) (by omega);have hn1:((l.length:Int)-1=0)=False:=Za9 (by omega);refine MX F5 ?_
 (repeat' first|simp(disch:=omega)only[go_sem,simprocAttr]|fail)
 refine Ac ?_
 (repeat' first|simp(disch:=omega)only[go_sem,simprocAttr,Za9 h2,Za2,hq,hn1,Zaj,Zat]|refine Sx.s ?_ ?_<;>try(intro h;have h':=h;try simp only[HB]at h';try rewrite [h];try simp only[h])|refine Ab (v1) ?_|fail)
 refine Dl.cutS [0,2] (by simp only[V0,JK,reduceIte,Nat.reduceEqDiff];rfl) [(7,.i (iI i))] [] True ?_ (fun _=>?_)
 ·by_cases hneg:q<0
  ·rw[Zaa hneg]at wg;have hw1:IntKind.i64.wrap (q+(l.length:Int))=q+(l.length:Int):=B3 (by omega) (by omega);have hw2:IntKind.i64.wrap (q+(l.length:Int)-1)=q+(l.length:Int)-1:=B3 (by omega) (by omega)
   (repeat' first|simp(disch:=omega)only[go_sem,simprocAttr,Za8 hneg,Za1,hw1,<-wg]|fail)
  ·rw[Zac hneg]at wg;have hneg2:((i:Int)<0)=False:=Za9 (by omega)
   (repeat' first|simp(disch:=omega)only[go_sem,simprocAttr,hneg2,Za2,<-wg]|fail)
 by_cases k1:(l.getD i default).kind=1
 case neg=>
  (repeat' first|simp(disch:=omega)only[go_sem,simprocAttr,BV (show i<l.length by omega),Za9 k1,Zaj,Zat,Za1]|refine Sx.s ?_ ?_<;>try(intro h;have h':=h;try simp only[HB]at h';try rewrite [h];try simp only[h])|refine Ab (ex) ?_|refine Ac ?_|refine Sz.s ?_|fail)
  skip
 have v6:i<l.length:=by omega
 have k6:(0<=(i:Int)+1)=True:=Za8 (by omega);have jy:((i:Int)+1<(l.length:Int))=True:=Za8 (by omega);have hb3:((i:Int)+1).toNat=i+1:=by omega
 by_cases k2:(l.getD (i+1) default).kind=1
 case neg=>
  (repeat' first|simp(disch:=omega)only[go_sem,simprocAttr,BV v6,k1,k6,jy,hb3,Za9 k2,Zaj,Za3,Zat,Za1,Za2]|refine Sx.s ?_ ?_<;>try(intro h;have h':=h;try simp only[HB]at h';try rewrite [h];try simp only[h])|refine Ab (ex) ?_|refine Ac ?_|refine Sz.s ?_|fail)
  skip
 have hr0:=A1 (f:=Ae) (k:=40) l KC L3;have hr:(∀r∈l.map Ae,r.length=40)=True/\(∀r∈l.map Ae,r.all I.one=true)=True:=⟨Za8 hr0.1,Za8 hr0.2⟩;have htk0:List.take l.length (l.map Ae)=l.map Ae:=Zgf (by simp);have hg1:((l.set i (CN (l.getD i default) (l.getD (i+1) default).fact)).map Ae).getD (i+1) []=Ae (l.getD (i+1) default):=by rw[Zdx,Zd5,Zd7,Zac (by omega),Zd2 hi,AK hi];rfl
 have hg2:(i+1<l.length)=True:=Za8 hi;have hg3:∀x:Ent,(11<=(Ae x).length)=True:=fun x=>Za8 (by rw[KC];decide)
 have hg4:(l.set i (CN (l.getD i default) (l.getD (i+1) default).fact)).set (i+1) (CN (l.getD (i+1) default) (l.getD i default).fact)=Bo l i:=rfl;have hbm:=aDw hi;have hlm:=Hh l i;have hVm:=eD hV hi k1 k2;have htk3:List.take l.length ((Bo l i).map Ae)=(Bo l i).map Ae:=Zgf (by simp[hlm]);have c1:=dj (mx:=mx) (Bo l i) (by omega);rw[aDo hV hi k1 k2 (by omega)]at c1;have kc:=hV.tick hi;obtain⟨tk,htk1,htk2,htk4⟩:∃tk:Int,tk=(if 0<later/\later<1099511627776 then(l.getD (i+1) default).tick+later else(l.getD (i+1) default).tick)/\(l.getD (i+1) default).tick<=tk/\tk<=2199023255552:=⟨_,rfl,by split<;>omega,by split<;>omega⟩;refine Ac ?_
 (repeat' first|simp(disch:=omega)only[go_sem,simprocAttr,BV v6,k1,k6,jy,hb3,k2,Zaj,Za3,Za2,hr,Zg8,Zg6,aDv,<-Ze6,hg1,hg2,hg4,Zes,List.length_set]|(refine And.intro ?_ ?_;focus omega))
 refine Ac ?_
 (repeat' first|simp(disch:=omega)only[go_sem,simprocAttr,k6,jy,hb3,Zaj,Za3,Za2,Zg8,Zes,hlm,htk3]|refine Sx.s ?_ ?_<;>try(intro h;have h':=h;try simp only[HB]at h';try rewrite [h];try simp only[h])|refine Ab (c1) ?_|fail)
 refine Dl.cutS [0,8] (by simp only[V0,JK,reduceIte,Nat.reduceEqDiff];rfl) [(9,.i (iI tk))] [] True ?_ (fun _=>?_)
 ·by_cases hl1:0<later
  ·by_cases hl2:later<1099511627776
   ·rw[Zaa ⟨hl1,hl2⟩]at htk1;have hw:IntKind.i64.wrap ((l.getD (i+1) default).tick+later)=(l.getD (i+1) default).tick+later:=B3 (by omega) (by omega)
    (repeat' first|simp(disch:=omega)only[go_sem,simprocAttr,Za8 hl1,Za8 hl2,Za1,<-htk1]|fail)
   ·rw[Zac (fun q=>hl2 q.2)]at htk1
    (repeat' first|simp(disch:=omega)only[go_sem,simprocAttr,Za8 hl1,Za9 hl2,Za1,Za2,<-htk1]|fail)
  ·rw[Zac (fun q=>hl1 q.1)]at htk1
   (repeat' first|simp(disch:=omega)only[go_sem,simprocAttr,Za9 hl1,Za2,<-htk1]|fail)
 have e1:=HY (mx:=mx) (Bo l i) tk (by omega);have e2:=HY (mx:=mx) l tk (by omega);rw[N9 hVm]at e1;rw[N9 hV]at e2;have q1:=RO (mx:=mx) (Bo l i) (by omega);have q2:=RO (mx:=mx) l (by omega);rw[dJ hVm,eG hV hi k1 k2]at q1;rw[dJ hV]at q2;have ji:(Bn l).length<=1000000000:=UT (by omega);have s3:=T8 (mx:=mx) (Bn l) (Bn l) (by omega) (by omega);rw[KG Jo _ fun x _=>dO x]at s3;have vn:∀m:List Ent,Ag AB m<=1048576->∀r∈BT m tk,r.fields.length<=1073741824:=fun m hm r hr=>by obtain⟨j,hj⟩:=((D8 m tk).2 r).1 hr;have:=PU hj;omega
 have b1:=NU (Bo l i) tk;have b2:=NU l tk;have s1:=Rl (mx:=mx) false (BT (Bo l i) tk) (BT l tk) (by omega) (by omega) (vn _ (by omega)) (vn _ hb);rw[aDu hV hi k1 k2 htk2]at s1
 (repeat' first|simp(disch:=omega)only[go_sem,simprocAttr]|refine Sx.s ?_ ?_<;>try(intro h;have h':=h;try simp only[HB]at h';try rewrite [h];try simp only[h])|refine Ab (e1) ?_|refine Ab (e2) ?_|refine Ab (s1) ?_|refine Ab (q1) ?_|refine Ab (q2) ?_|refine Ab (s3) ?_|refine Ab (ex) ?_|refine Sz.s ?_|fail)
end
end Go.Proofs.YtojgbkiejjingaaGreatDoor
